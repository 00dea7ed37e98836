/- Contracts of functions of this program. Conditions: none. -/
import Derived.Test.YtdnghpfmobnjlaaGreatWc
set_option linter.unusedVariables false
set_option linter.unusedSimpArgs false
/- Reader.Text; pack.Num, pack.Text. Conditions: none. A text of this seat's numbers. -/
set_option linter.unusedVariables false
set_option linter.unusedSimpArgs false
set_option maxRecDepth 100000
namespace Go.Crc
open Go.Vm Go.Pack
def textF:Ob → List AV → Tr (AV × Bool × Ob)
  | .cells [.slice (.int .u8) b .view,.int .i64 e],[.int .i64 lim] => .yes (.str (textR ⟨b,e⟩ lim).2,true,ofSt (textR ⟨b,e⟩ lim).1)
  | _,_ => .no
theorem text_ok:Con PR A n_pack_Reader_Text (objC 0 textF) := by
  refine objC_ok fun x rest v wrote x' hv => ?_
  unfold textF at hv
  split at hv
  · rename_i b e lim
    cases hv
    refine ⟨rfl,rfl,rfl,rfl,by simp,fun ha _ => ?_⟩
    have h:body PR (cfE [numE,takeE]) cfgK (fun _ => none) n_pack_Reader_Text [.ptr 1 0 0,.int .i64 lim] [[],[.cells [.slice (.int .u8) b .view,.int .i64 e]]] some =
      (bif decide (0 ≤ (numR ⟨b,e⟩ lim).2) then some (.str (textR ⟨b,e⟩ lim).2,[(1,0),(1,0)],[[],[ofSt (textR ⟨b,e⟩ lim).1]]) else none) := by kernel_rfl
    rw [cond_eq (by simpa using numR_nonneg ⟨b,e⟩ lim)] at h
    exact SimCall.wr (fun_call _ mixed (by kernel_rfl) (by kernel_rfl) (no_loops (by kernel_rfl)) h) fun l i hm => memWr1 (by simp) hm
  · cases hv
def textE:Ent PR A := ⟨n_pack_Reader_Text,_,text_ok⟩
def lfP:Nat → Option LoopSum := lfOf [
  (14948,loopT [0,7,12,13,14] [0,7,12,13,14] fun vs H => match vs,H with
    | [.slice (.int .u8) b .own,.int .i64 n,x,y,z],[] :: S => .br (okN n) (.br (decide (b.length + 9 ≤ 140737488355328)) (.yes (.exit 2,[.slice (.int .u8) (b ++ vpre 9 n.toNat) .own,.int .i64 (vlast 9 n.toNat:Int),x,y,z],[] :: S,[])) .no) .no
    | _,_ => .no),
  (58,loopT [0,12,13,14] [0] fun vs H => match vs,H with
    | [.slice (.int .u8) b .own,.slice (.int .i64) l .view,.int .i64 ln,.int .i64 i],[] :: S => .br (decide (i = 0)) (.br (decide (ln = l.length)) (.br (okAll l) (.br (decide (b.length + 10 * l.length ≤ 140737488355328)) (.yes (.exit 0,[.slice (.int .u8) (b ++ nums l) .own],[] :: S,[])) .no) .no) .no) .no
    | _,_ => .no)]
noncomputable abbrev LP1 (N:Nat) := LC PR (cfE [rightE]) cfgK lfP n_pack_Num 1 14948 [0,7,12,13,14] [0,7,12,13,14] N
noncomputable abbrev LP0 (N:Nat) := LC PR (cfE [rightE]) cfgK lfP n_pack_Num 0 58 [0,12,13,14] [0] N
theorem pnum_round1 (b:List Int) (n:Int) (x y z:AV) (S:Stack) (wr:Wr) (N:Nat) (k:Ex → List AV → Stack → Wr → Option Res) :
    LP1 (N + 1) [.slice (.int .u8) b .own,.int .i64 n,x,y,z] ([] :: S) wr k =
      (bif decide (n ≥ 128) then bif decide ((b.length + 1) * 1 ≤ 140737488355328) then
        LP1 N [.slice (.int .u8) (b ++ [bitop .or .u8 (IntKind.u8.wrap n) 128]) .own,.int .i64 (shiftR .i64 n 7),x,y,z] ([] :: S) wr k
      else none
      else k (.exit 2) [.slice (.int .u8) b .own,.int .i64 n,x,y,z] ([] :: S) wr) := by kernel_rfl
theorem pnum_loop1 (x y z:AV) (S:Stack) (wr:Wr) (k:Ex → List AV → Stack → Wr → Option Res):∀ (q n:Nat) (b:List Int),n < 128 ^ q → b.length + q ≤ 140737488355328 →
    LP1 (q + 1) [.slice (.int .u8) b .own,.int .i64 (n:Int),x,y,z] ([] :: S) wr k = k (.exit 2) [.slice (.int .u8) (b ++ vpre q n) .own,.int .i64 (vlast q n:Int),x,y,z] ([] :: S) wr
  | 0,n,b,hn,hl => by
    have:n = 0 := by simpa using hn
    subst this
    rw [pnum_round1,cond_ne (by simp),vpre,List.append_nil]
    rfl
  | q + 1,n,b,hn,hl => by
    rw [pnum_round1]
    simp only [vpre,vlast]
    by_cases h1:128 ≤ n
    · have hd:shiftR .i64 (n:Int) 7 = ((n / 128:Nat):Int) := shiftR_nat .i64 n 7 (by decide)
      have hlt:n / 128 < 128 ^ q := by
        rw [Nat.pow_succ] at hn
        have h4:n < 128 * 128 ^ q := by rw [Nat.mul_comm]; exact hn
        exact Nat.div_lt_of_lt_mul h4
      rw [cond_eq (by simp <;> omega),cond_eq (by simp <;> omega),decide_eq_true h1,cond_true,cond_true,or128,hd,pnum_loop1 x y z S wr k q (n / 128) _ hlt (by simp <;> omega),List.append_assoc]
      rfl
    · rw [cond_ne (by simp <;> omega),decide_eq_false h1,cond_false,cond_false,List.append_nil]
theorem pnum_round0 (b l:List Int) (ln i:Int) (S:Stack) (wr:Wr) (N:Nat) (k:Ex → List AV → Stack → Wr → Option Res) :
    LP0 (N + 1) [.slice (.int .u8) b .own,.slice (.int .i64) l .view,.int .i64 ln,.int .i64 i] ([] :: S) wr k =
      (bif decide (i < ln) then (at? l i).bind fun n => bif okN n then bif decide (b.length + 9 ≤ 140737488355328) then
        bif decide (((b ++ vpre 9 n.toNat).length + 1) * 1 ≤ 140737488355328) then
          LP0 N [.slice (.int .u8) ((b ++ vpre 9 n.toNat) ++ [IntKind.u8.wrap (vlast 9 n.toNat:Int)]) .own,.slice (.int .i64) l .view,.int .i64 ln,.int .i64 (IntKind.i64.wrap (i + 1))] ([] :: S) wr k
        else none else none else none
      else k (.exit 0) [.slice (.int .u8) b .own] ([] :: S) wr) := by kernel_rfl
theorem okN_iff {n:Int}:okN n = true ↔ 0 ≤ n ∧ n ≤ 4611686018427387904 := by
  unfold okN top; simp
theorem num_split {n:Int} (h:okN n = true) (b:List Int):(b ++ vpre 9 n.toNat) ++ [IntKind.u8.wrap (vlast 9 n.toNat:Int)] = b ++ num n := by
  obtain ⟨h0,h1⟩ := okN_iff.1 h
  have h2:n.toNat < 128 ^ 9 := by
    have:(128:Nat) ^ 9 = 9223372036854775808 := by decide
    omega
  have h3 := vlast_lt 9 n.toNat h2
  rcases vn_split 9 n.toNat h2 with h4 | h4
  · unfold num
    rw [h4,wrap_u8 (by omega) (by omega),List.append_assoc]
  · cases h4
theorem pnum_loop0 (l:List Int) (hl:l.length ≤ maxInt) (S:Stack) (wr:Wr) (k:Ex → List AV → Stack → Wr → Option Res):∀ (q j:Nat) (b:List Int),j + q = l.length → okAll (l.drop j) = true → b.length + 10 * q ≤ 140737488355328 →
    LP0 (q + 1) [.slice (.int .u8) b .own,.slice (.int .i64) l .view,.int .i64 (l.length:Int),.int .i64 (j:Int)] ([] :: S) wr k = k (.exit 0) [.slice (.int .u8) (b ++ nums (l.drop j)) .own] ([] :: S) wr
  | 0,j,b,hj,hok,hb => by
    rw [pnum_round0,cond_ne (by simp <;> omega),List.drop_of_length_le (by omega),nums,List.append_nil]
  | q + 1,j,b,hj,hok,hb => by
    obtain ⟨x,hx⟩:∃ x,l[j]? = some x := ⟨_,List.getElem?_eq_getElem (by omega)⟩
    rw [drop_cons hx] at hok ⊢
    simp only [okAll,Bool.and_eq_true] at hok
    have hp := vpre_len 9 x.toNat
    have hnl := num_len x
    rw [pnum_round0,cond_eq (by simp <;> omega),at_some hx,Option.bind_some,hok.1,cond_true,cond_eq (by simp <;> omega),cond_eq (by simp <;> omega),num_split hok.1,wrap_succ (n := l.length) (by omega) hl,pnum_loop0 l hl S wr k q (j + 1) _ (by omega) hok.2 (by rw [List.length_append]; omega)]
    rw [nums,List.append_assoc]
theorem pnum_loops:∀ x ∈ funLoops PR n_pack_Num,∀ L,lfP x.1 = some L → LoopOK (ntm PR n_pack_Num) (fun fr H wr k => code PR (cfE [rightE]) cfgK lfP (cfgK.live n_pack_Num) x.2 (2 * x.1) fr H wr k) L := by
  refine all_loops (ps := [58,14948]) (by kernel_rfl) fun j p hj L hL => ?_
  match j,hj with
  | 0,hj =>
    simp at hj; subst hj; cases hL
    refine loopT_ok (by decide) fun vs H wr ex vs' H' w hv ha hh => ?_
    split at hv
    · rename_i b l ln i S
      obtain ⟨h1,hv2⟩ := Tr.br_no hv
      clear hv
      obtain ⟨h2,hv3⟩ := Tr.br_no hv2
      obtain ⟨h3,hv4⟩ := Tr.br_no hv3
      obtain ⟨h4,hv5⟩ := Tr.br_no hv4
      simp only [decide_eq_true_eq] at h1 h2 h4
      subst h1; subst h2
      cases hv5
      simp only [okAVs,okAV] at ha
      refine ⟨l.length + 1,fun k => ?_⟩
      have := pnum_loop0 l ha.2.1.1 S wr k l.length 0 b (by omega) (by rw [List.drop_zero]; exact h3) h4
      rw [List.drop_zero] at this
      exact this
    · cases hv
  | 1,hj =>
    simp at hj; subst hj; cases hL
    refine loopT_ok (by decide) fun vs H wr ex vs' H' w hv ha hh => ?_
    split at hv
    · rename_i b n x y z S
      obtain ⟨h1,hv2⟩ := Tr.br_no hv
      clear hv
      obtain ⟨h2,hv3⟩ := Tr.br_no hv2
      simp only [decide_eq_true_eq] at h2
      cases hv3
      obtain ⟨g0,g1⟩ := okN_iff.1 h1
      refine ⟨10,fun k => ?_⟩
      have := pnum_loop1 x y z S wr k 9 n.toNat b (by
        have:(128:Nat) ^ 9 = 9223372036854775808 := by decide
        omega) h2
      rw [natCast_toNat g0] at this
      exact this
    · cases hv
def pnumV (b l:List Int):AV := .tuple [.slice (.int .u8) (bif okAll l then b ++ nums l else b) .own,.bool (okAll l)]
def pnumF:List AV → Tr AV
  | [.slice (.int .u8) b .own,.slice (.int .i64) l .view] => .br (decide (b.length + 10 * l.length ≤ 140737488355328)) (.yes (pnumV b l)) .no
  | _ => .no
theorem pnum_ok:Con PR A n_pack_Num (pureC pnumF) := by
  refine pureC_ok fun args v hv ha S => ?_
  unfold pnumF at hv
  split at hv
  · rename_i b l
    obtain ⟨hl,hv2⟩ := Tr.br_no hv
    cases hv2
    have h:body PR (cfE [rightE]) cfgK lfP n_pack_Num [.slice (.int .u8) b .own,.slice (.int .i64) l .view] S some =
      (bif !(okAll l) then some (.tuple [.slice (.int .u8) b .own,.bool false],[],S)
      else bif decide ((l.length:Int) = (l.length:Int)) then bif okAll l then bif decide (b.length + 10 * l.length ≤ 140737488355328) then some (.tuple [.slice (.int .u8) (b ++ nums l) .own,.bool true],[],S) else none else none else none) := by kernel_rfl
    refine fun_call _ mixed (by kernel_rfl) (by kernel_rfl) pnum_loops (h.trans ?_)
    unfold pnumV
    cases okAll l with
    | false => rfl
    | true => rw [hl,decide_eq_true rfl]; rfl
  · cases hv
def pnumE:Ent PR A := ⟨n_pack_Num,_,pnum_ok⟩
theorem okAll_len (s:List Int) (h:s.length ≤ maxInt / 2):okAll [(s.length:Int)] = true := by
  simp only [okAll,Bool.and_true]
  rw [okN_iff]
  simp only [maxInt] at h
  omega
def ptextV (b s:List Int):AV := .tuple [.slice (.int .u8) (bif decide ((s.length:Int) > 65536) then b else b ++ num s.length ++ s) .own,.bool (!decide ((s.length:Int) > 65536))]
def ptextF:List AV → Tr AV
  | [.slice (.int .u8) b .own,.str s] => .br (decide (b.length ≤ 100000000)) (.yes (ptextV b s)) .no
  | _ => .no
theorem ptext_ok:Con PR A n_pack_Text (pureC ptextF) := by
  refine pureC_ok fun args v hv ha S => ?_
  unfold ptextF at hv
  split at hv
  · rename_i b s
    obtain ⟨hl,hv2⟩ := Tr.br_no hv
    cases hv2
    simp only [decide_eq_true_eq] at hl
    have h:body PR (cfE [pnumE]) cfgK (fun _ => none) n_pack_Text [.slice (.int .u8) b .own,.str s] S some =
      (bif decide ((s.length:Int) > 65536) then some (.tuple [.slice (.int .u8) b .own,.bool false],[],S)
      else bif decide (b.length + 10 * 1 ≤ 140737488355328) then bif decide (((bif okAll [(s.length:Int)] then b ++ nums [(s.length:Int)] else b).length + s.length) * 1 ≤ 140737488355328) then
        some (.tuple [.slice (.int .u8) ((bif okAll [(s.length:Int)] then b ++ nums [(s.length:Int)] else b) ++ s) .own,.bool true],[],S) else none else none) := by kernel_rfl
    refine fun_call _ mixed (by kernel_rfl) (by kernel_rfl) (no_loops (by kernel_rfl)) (h.trans ?_)
    unfold ptextV
    by_cases h1:(s.length:Int) > 65536
    · rw [decide_eq_true h1]; rfl
    · have hn := num_len (s.length:Int)
      rw [decide_eq_false h1,cond_false,okAll_len s (by simp only [maxInt]; omega),cond_true,cond_eq (by simp <;> omega),cond_eq (by simp [nums] <;> omega)]
      simp [nums]
  · cases hv
def ptextE:Ent PR A := ⟨n_pack_Text,_,ptext_ok⟩
end Go.Crc
/- The document's numbers: how they are written and read. Conditions: none. A text of this seat's numbers. -/
set_option linter.unusedVariables false
set_option linter.unusedSimpArgs false
set_option maxRecDepth 100000
namespace Go.Crc
open Go.Vm Go.Pack
def rnumB (m:Nat):List AV → Tr AV
  | [.int .i64 n] => .br (decide (n.toNat < m)) (.yes (.str (numS n))) .no
  | _ => .no
theorem numS_len (n:Int):(numS n).length ≤ 9 := by
  unfold numS
  cases okN n with
  | true => exact num_len n
  | false => simp
theorem rnumB_ok:∀ m:Nat,Con PR A n_ref02_Num (pureC (rnumB m))
  | 0 => pureC_ok fun args v hv ha S => by
    unfold rnumB at hv
    split at hv
    · obtain ⟨h,_⟩ := Tr.br_no hv
      simp at h
    · cases hv
  | m + 1 => pureC_ok fun args v hv ha S => by
    unfold rnumB at hv
    split at hv
    · rename_i n
      obtain ⟨hm,hv2⟩ := Tr.br_no hv
      cases hv2
      simp only [decide_eq_true_eq] at hm
      have h:body PR (cfE [⟨n_ref02_Num,_,rnumB_ok m⟩]) cfgK (fun _ => none) n_ref02_Num [.int .i64 n] S some =
        (bif decide (n < 0) then some (.str (bytesOf ⟨#[]⟩),[],S) else bif decide (n > 4611686018427387904) then some (.str (bytesOf ⟨#[]⟩),[],S)
        else bif decide (n < 128) then some (.str [IntKind.u8.wrap n],[],S)
        else bif decide ((IntKind.i64.wrap (n.tdiv 128)).toNat < m) then bif decide ([IntKind.u8.wrap (IntKind.i64.wrap (128 + n.tmod 128))].length + (numS (IntKind.i64.wrap (n.tdiv 128))).length ≤ maxInt) then
          some (.str ([IntKind.u8.wrap (IntKind.i64.wrap (128 + n.tmod 128))] ++ numS (IntKind.i64.wrap (n.tdiv 128))),[],S) else none else none) := by kernel_rfl
      refine fun_call _ mixed (by kernel_rfl) (by kernel_rfl) (no_loops (by kernel_rfl)) (h.trans ?_)
      by_cases h1:n < 0
      · rw [decide_eq_true h1,cond_true]
        have:okN n = false := by unfold okN; rw [decide_eq_false (by omega)]; rfl
        unfold numS; rw [this]; rfl
      by_cases h2:n > 4611686018427387904
      · rw [decide_eq_false h1,decide_eq_true h2]
        have:okN n = false := by unfold okN top; rw [decide_eq_false (show ¬ n ≤ 4611686018427387904 by omega)]; simp
        unfold numS; rw [this]; rfl
      have hok:okN n = true := okN_iff.2 ⟨by omega,by omega⟩
      obtain ⟨a,rfl⟩:∃ a:Nat,n = (a:Int) := ⟨n.toNat,(natCast_toNat (by omega)).symm⟩
      rw [decide_eq_false h1,decide_eq_false h2,cond_false,cond_false]
      have hn:numS (a:Int) = vn 9 a := by unfold numS num; rw [hok,Int.toNat_natCast]; rfl
      rw [hn]
      by_cases h3:(a:Int) < 128
      · rw [decide_eq_true h3,cond_true,wrap_u8 (by omega) (by omega),vn,decide_eq_false (by omega)]
        rfl
      · have hd:(a:Int).tdiv 128 = ((a / 128:Nat):Int) := rfl
        have hr:(a:Int).tmod 128 = ((a % 128:Nat):Int) := rfl
        rw [decide_eq_false h3,cond_false,hd,hr,wrap_i64 (n := ((a / 128:Nat):Int)) (by omega) (by omega),wrap_i64 (n := 128 + ((a % 128:Nat):Int)) (by omega) (by omega),wrap_u8 (by omega) (by omega)]
        have hl := numS_len ((a / 128:Nat):Int)
        rw [cond_eq (decide_eq_true (by omega)),cond_eq (decide_eq_true (by simp only [maxInt,List.length_singleton]; omega))]
        have hok2:okN ((a / 128:Nat):Int) = true := okN_iff.2 ⟨by omega,by omega⟩
        have hn2:numS ((a / 128:Nat):Int) = vn 9 (a / 128) := by unfold numS num; rw [hok2,Int.toNat_natCast]; rfl
        have hv8:vn 8 (a / 128) = vn 9 (a / 128) := by
          rcases vn_fuel 8 (a / 128) (by
            have:(128:Nat) ^ 8 = 72057594037927936 := by decide
            omega) with h | h
          · exact h
          · cases h
        have hv9:vn 9 a = ((a % 128 + 128:Nat):Int) :: vn 8 (a / 128) := by rw [vn,decide_eq_true (by omega)]; rfl
        have e1:(128 + ((a % 128:Nat):Int)) = ((a % 128 + 128:Nat):Int) := by omega
        rw [hn2,← hv8,hv9,e1]
        rfl
    · cases hv
def rnumF:List AV → Tr AV
  | [.int .i64 n] => .yes (.str (numS n))
  | _ => .no
theorem rnum_ok:Con PR A n_ref02_Num (pureC rnumF) := by
  refine pureC_ok fun args v hv ha S => ?_
  unfold rnumF at hv
  split at hv
  · rename_i n
    cases hv
    have hc:pureC (rnumB (n.toNat + 1)) [.int .i64 n] S some = some (.str (numS n),[],S) := by
      show (bif decide (n.toNat < n.toNat + 1) then some (AV.str (numS n),[],S) else none) = _
      rw [decide_eq_true (by omega)]
      rfl
    obtain ⟨res,h1,h2,h3,_⟩ := rnumB_ok (n.toNat + 1) _ _ _ _ hc
    cases h2
    exact h3
  · cases hv
def rnumE:Ent PR A := ⟨n_ref02_Num,_,rnum_ok⟩
def rtextF:List AV → Tr AV
  | [.str s] => .br (decide (s.length ≤ 140737488355328)) (.yes (.str (numS s.length ++ s))) .no
  | _ => .no
theorem rtext_ok:Con PR A n_ref02_Text (pureC rtextF) := by
  refine pureC_ok fun args v hv ha S => ?_
  unfold rtextF at hv
  split at hv
  · rename_i s
    obtain ⟨hm,hv2⟩ := Tr.br_no hv
    cases hv2
    simp only [decide_eq_true_eq] at hm
    have h:body PR (cfE [rnumE]) cfgK (fun _ => none) n_ref02_Text [.str s] S some = (bif decide ((numS s.length).length + s.length ≤ maxInt) then some (.str (numS s.length ++ s),[],S) else none) := by kernel_rfl
    have hl := numS_len s.length
    rw [cond_eq (decide_eq_true (by simp only [maxInt]; omega))] at h
    exact fun_call _ mixed (by kernel_rfl) (by kernel_rfl) (no_loops (by kernel_rfl)) h
  · cases hv
def rtextE:Ent PR A := ⟨n_ref02_Text,_,rtext_ok⟩
def rS (s:St):AV := .agg [.str s.b,.int .i64 s.e]
def rfailF:List AV → Tr AV
  | [.agg [.str b,.int .i64 e],.int .i64 x] => .yes (rS (failS ⟨b,e⟩ x))
  | _ => .no
theorem rfail_ok:Con PR A n_ref02_failed (pureC rfailF) := by
  refine pureC_ok fun args v hv ha S => ?_
  unfold rfailF at hv
  split at hv
  · rename_i b e x
    cases hv
    have h:body PR (cfE (P := PR) (A := A) []) cfgK (fun _ => none) n_ref02_failed [.agg [.str b,.int .i64 e],.int .i64 x] S some = (bif e == 0 then some (.agg [.str b,.int .i64 x],[],S) else some (.agg [.str b,.int .i64 e],[],S)) := by kernel_rfl
    refine fun_call _ mixed (by kernel_rfl) (by kernel_rfl) (no_loops (by kernel_rfl)) (h.trans ?_)
    unfold rS failS
    cases (e == 0) <;> rfl
  · cases hv
def rfailE:Ent PR A := ⟨n_ref02_failed,_,rfail_ok⟩
def rendF:List AV → Tr AV
  | [.agg [.str b,.int .i64 e]] => .yes (.int .i64 (endR ⟨b,e⟩))
  | _ => .no
theorem rend_ok:Con PR A n_ref02_End (pureC rendF) := by
  refine pureC_ok fun args v hv ha S => ?_
  unfold rendF at hv
  split at hv
  · rename_i b e
    cases hv
    have h:body PR (cfE (P := PR) (A := A) []) cfgK (fun _ => none) n_ref02_End [.agg [.str b,.int .i64 e]] S some = (bif e == 0 then bif decide ((b.length:Int) > 0) then some (.int .i64 22,[],S) else some (.int .i64 e,[],S) else some (.int .i64 e,[],S)) := by kernel_rfl
    refine fun_call _ mixed (by kernel_rfl) (by kernel_rfl) (no_loops (by kernel_rfl)) (h.trans ?_)
    unfold endR
    by_cases he:e = 0
    · subst he
      by_cases hb:b.length = 0
      · simp [hb]
      · simp [hb,show 0 < b.length by omega]
    · have:(e == 0) = false := by simpa using he
      rw [this]
      simp [he]
  · cases hv
def rendE:Ent PR A := ⟨n_ref02_End,_,rend_ok⟩
def lfL:Nat → Option LoopSum := lfOf [(26,loopT [0,3] [2] fun vs H => match vs,H with
  | [.str b,.int .i64 i],[] :: S => .br (decide (i = 0)) (.br (lastN 0 b == -1) (.yes (.exit 0,[.undef],[] :: S,[])) (.yes (.ret,[.int .i64 (lastN 0 b)],[] :: S,[]))) .no
  | _,_ => .no)]
noncomputable abbrev LL (N:Nat) := LC PR (cfE (P := PR) (A := A) []) cfgK lfL n_ref02_last 0 26 [0,3] [2] N
theorem last_round (b:List Int) (i:Int) (S:Stack) (wr:Wr) (N:Nat) (k:Ex → List AV → Stack → Wr → Option Res) :
    LL (N + 1) [.str b,.int .i64 i] ([] :: S) wr k = (bif decide (i < (b.length:Int)) then bif decide (i < 9) then (at? b i).bind fun x =>
      bif decide (x < 128) then k .ret [.int .i64 i] ([] :: S) wr else LL N [.str b,.int .i64 (IntKind.i64.wrap (i + 1))] ([] :: S) wr k
      else k (.exit 0) [.undef] ([] :: S) wr else k (.exit 0) [.undef] ([] :: S) wr) := by kernel_rfl
theorem last_loop (b:List Int) (hl:b.length ≤ maxInt) (S:Stack) (wr:Wr) (k:Ex → List AV → Stack → Wr → Option Res):∀ (q j:Nat),j + q = b.length →
    LL (q + 1) [.str b,.int .i64 (j:Int)] ([] :: S) wr k = (bif lastN j (b.drop j) == -1 then k (.exit 0) [.undef] ([] :: S) wr else k .ret [.int .i64 (lastN j (b.drop j))] ([] :: S) wr)
  | 0,j,hj => by
    rw [last_round,cond_ne (by simp <;> omega),List.drop_of_length_le (by omega)]
    rfl
  | q + 1,j,hj => by
    obtain ⟨x,hx⟩:∃ x,b[j]? = some x := ⟨_,List.getElem?_eq_getElem (by omega)⟩
    rw [last_round,cond_eq (by simp <;> omega),drop_cons hx]
    simp only [lastN]
    by_cases h9:9 ≤ j
    · rw [cond_ne (by simp <;> omega),decide_eq_true h9]; rfl
    · rw [cond_eq (by simp <;> omega),decide_eq_false h9,cond_false,at_some hx,Option.bind_some]
      by_cases h1:x < 128
      · rw [decide_eq_true h1,cond_true,cond_true]
        have:((j:Int) == -1) = false := by simp <;> omega
        rw [this]; rfl
      · rw [decide_eq_false h1,cond_false,cond_false,wrap_succ (n := b.length) (by omega) hl,last_loop b hl S wr k q (j + 1) (by omega)]
def lastF:List AV → Tr AV
  | [.str b] => .yes (.int .i64 (lastN 0 b))
  | _ => .no
theorem last_ok:Con PR A n_ref02_last (pureC lastF) := by
  refine pureC_ok fun args v hv ha S => ?_
  unfold lastF at hv
  split at hv
  · rename_i b
    cases hv
    have h:body PR (cfE (P := PR) (A := A) []) cfgK lfL n_ref02_last [.str b] S some = (bif lastN 0 b == -1 then some (.int .i64 (-1),[],S) else some (.int .i64 (lastN 0 b),[],S)) := by kernel_rfl
    have h2:body PR (cfE (P := PR) (A := A) []) cfgK lfL n_ref02_last [.str b] S some = some (.int .i64 (lastN 0 b),[],S) := by
      rw [h]
      by_cases h1:lastN 0 b = -1
      · rw [h1]; rfl
      · rw [cond_ne (by simpa using h1)]
    refine fun_call _ mixed (by kernel_rfl) (by kernel_rfl) ?_ h2
    refine one_loop (p := 26) rfl (by kernel_rfl) (loopT_ok (by decide) fun vs H wr ex vs' H' w hv ha hh => ?_)
    split at hv
    · rename_i b i S
      obtain ⟨hi,hv2⟩ := Tr.br_no hv
      clear hv
      simp only [decide_eq_true_eq] at hi
      subst hi
      simp only [okAVs,okAV] at ha
      refine ⟨b.length + 1,fun k => ?_⟩
      have := last_loop b ha.1.1 S wr k b.length 0 (by omega)
      rw [List.drop_zero] at this
      rcases Tr.br_or hv2 with ⟨he,h4⟩ | ⟨he,h4⟩
      · cases h4; rw [he] at this; exact this
      · cases h4; rw [he] at this; exact this
    · cases hv
  · cases hv
def lastE:Ent PR A := ⟨n_ref02_last,_,last_ok⟩
end Go.Crc
/- The document's ReadNum, ReadText. Conditions: none. A text of this seat's numbers. -/
set_option linter.unusedVariables false
set_option linter.unusedSimpArgs false
set_option maxRecDepth 100000
namespace Go.Crc
open Go.Vm Go.Pack
def lfRN:Nat → Option LoopSum := lfOf [(1018,loopT [1,2,4,6,7,8] [1,2,4,6,7] fun vs H => match vs,H with
  | [.int .i64 x1,.ptr 0 0 0,.ptr 0 1 0,.int .i64 x6,.int .i64 n,.int .i64 i],[.cells [.str b,.int .i64 e],.cells y] :: S => .br (decide (n = 0)) (.br (decide (0 ≤ i) && (decide (i < (b.length:Int)) && decide (i ≤ 8))) (.yes (.exit 0,[.int .i64 x1,.ptr 0 0 0,.ptr 0 1 0,.int .i64 x6,.int .i64 (dig b (i.toNat + 1) 0:Int)],[.cells [.str b,.int .i64 e],.cells y] :: S,[])) .no) .no
  | _,_ => .no)]
noncomputable abbrev LRN (N:Nat) := LC PR (cfE [lastE,rfailE,rnumE]) cfgK lfRN n_ref02_ReadNum 0 1018 [1,2,4,6,7,8] [1,2,4,6,7] N
theorem rn_round (l2 k2:Int) (b:List Int) (e n i:Int) (y:List AV) (S:Stack) (wr:Wr) (N:Nat) (k:Ex → List AV → Stack → Wr → Option Res) :
    LRN (N + 1) [.int .i64 l2,.ptr 0 0 0,.ptr 0 1 0,.int .i64 k2,.int .i64 n,.int .i64 i] ([.cells [.str b,.int .i64 e],.cells y] :: S) wr k =
      (bif decide (i ≥ 0) then (at? b i).bind fun x => LRN N [.int .i64 l2,.ptr 0 0 0,.ptr 0 1 0,.int .i64 k2,.int .i64 (IntKind.i64.wrap (IntKind.i64.wrap (n * 128) + (IntKind.i64.wrap x).tmod 128)),.int .i64 (IntKind.i64.wrap (i - 1))] ([.cells [.str b,.int .i64 e],.cells y] :: S) wr k
      else k (.exit 0) [.int .i64 l2,.ptr 0 0 0,.ptr 0 1 0,.int .i64 k2,.int .i64 n] ([.cells [.str b,.int .i64 e],.cells y] :: S) wr) := by kernel_rfl
theorem rn_loop (l2 k2:Int) (b:List Int) (hb:isBytes b) (e:Int) (y:List AV) (S:Stack) (wr:Wr) (k:Ex → List AV → Stack → Wr → Option Res):∀ (q n:Nat),q ≤ b.length → q ≤ 9 → (n + 1) * 128 ^ q ≤ 9223372036854775808 →
    LRN (q + 1) [.int .i64 l2,.ptr 0 0 0,.ptr 0 1 0,.int .i64 k2,.int .i64 (n:Int),.int .i64 ((q:Int) - 1)] ([.cells [.str b,.int .i64 e],.cells y] :: S) wr k = k (.exit 0) [.int .i64 l2,.ptr 0 0 0,.ptr 0 1 0,.int .i64 k2,.int .i64 (dig b q n:Int)] ([.cells [.str b,.int .i64 e],.cells y] :: S) wr
  | 0,n,hq,h9,hn => by
    rw [rn_round,cond_ne (by simp)]
    rfl
  | q + 1,n,hq,h9,hn => by
    obtain ⟨x,hx⟩:∃ x,b[q]? = some x := ⟨_,List.getElem?_eq_getElem (by omega)⟩
    have hxr := hb x (List.mem_of_getElem? hx)
    have hi:(((q + 1:Nat):Int) - 1) = (q:Int) := by omega
    have hp:1 ≤ 128 ^ q := Nat.pow_pos (by decide)
    have hn2:(n + 1) * 128 ≤ 9223372036854775808 := by
      rw [Nat.pow_succ,Nat.mul_comm (128 ^ q) 128,← Nat.mul_assoc] at hn
      exact Nat.le_trans (Nat.le_mul_of_pos_right _ hp) hn
    have hm:x.tmod 128 = ((x.toNat % 128:Nat):Int) := by
      obtain ⟨a,rfl⟩:∃ a:Nat,x = (a:Int) := ⟨x.toNat,(natCast_toNat hxr.1).symm⟩
      rfl
    rw [hi,rn_round,cond_eq (by simp),at_some hx,Option.bind_some,wrap_i64 (n := (n:Int) * 128) (by omega) (by omega),wrap_i64 (n := x) (by omega) (by omega),hm,wrap_i64 (n := (n:Int) * 128 + ((x.toNat % 128:Nat):Int)) (by omega) (by omega),wrap_i64 (n := (q:Int) - 1) (by omega) (by omega)]
    have hc:(n:Int) * 128 + ((x.toNat % 128:Nat):Int) = ((n * 128 + x.toNat % 128:Nat):Int) := by omega
    rw [hc,rn_loop l2 k2 b hb e y S wr k q (n * 128 + x.toNat % 128) (by omega) (by omega) (by
      rw [Nat.pow_succ,Nat.mul_comm (128 ^ q) 128,← Nat.mul_assoc] at hn
      exact Nat.le_trans (Nat.mul_le_mul_right _ (by omega)) hn)]
    rw [dig,hx]
    rfl
theorem rn_loops:∀ x ∈ funLoops PR n_ref02_ReadNum,∀ L,lfRN x.1 = some L → LoopOK (ntm PR n_ref02_ReadNum) (fun fr H wr k => code PR (cfE [lastE,rfailE,rnumE]) cfgK lfRN (cfgK.live n_ref02_ReadNum) x.2 (2 * x.1) fr H wr k) L := by
  refine one_loop (p := 1018) rfl (by kernel_rfl) (loopT_ok (by decide) fun vs H wr ex vs' H' w hv ha hh => ?_)
  split at hv
  · rename_i x1 x6 n i b e y S
    obtain ⟨h1,hv2⟩ := Tr.br_no hv
    clear hv
    obtain ⟨h2,hv3⟩ := Tr.br_no hv2
    simp only [Bool.and_eq_true,decide_eq_true_eq] at h1 h2
    subst h1
    cases hv3
    have hb:isBytes b := by
      have := hh 0 0 _ rfl
      simp only [okAVs,okAV] at this
      exact this.1.2
    refine ⟨i.toNat + 1 + 1,fun k => ?_⟩
    have := rn_loop x1 x6 b hb e y S wr k (i.toNat + 1) 0 (by omega) (by omega) (by
      have h3:128 ^ (i.toNat + 1) ≤ 128 ^ 9 := Nat.pow_le_pow_right (by decide) (by omega)
      have h4:(128:Nat) ^ 9 = 9223372036854775808 := by decide
      omega)
    rw [show ((i.toNat + 1:Nat):Int) - 1 = i by omega] at this
    exact this
  · cases hv
def rnV (s:St) (lim:Int):AV := .tuple [rS (numR s lim).1,.int .i64 (numR s lim).2]
def rnF:List AV → Tr AV
  | [.agg [.str b,.int .i64 e],.int .i64 lim] => .yes (rnV ⟨b,e⟩ lim)
  | _ => .no
def rnK (b:List Int):Int := IntKind.i64.wrap (lastN 0 b + 1)
def rnForm (b:List Int) (e:Int) (S:Stack):Option Res := some (.tuple [rS (failS ⟨(b.take b.length).drop (rnK b).toNat,e⟩ 21),.int .i64 0],[],S)
def rnTail (b:List Int) (e lim:Int) (S:Stack):Option Res :=
  bif decide (0 ≤ lastN 0 b) && (decide (lastN 0 b < (b.length:Int)) && decide (lastN 0 b ≤ 8)) then
    bif decide (0 ≤ rnK b) && decide (rnK b ≤ (b.length:Int)) then bif decide (0 ≤ rnK b) && decide (rnK b ≤ (b.length:Int)) then
      bif numS (dig b ((lastN 0 b).toNat + 1) 0:Int) != (b.take (rnK b).toNat).drop 0 then rnForm b e S
      else bif decide ((dig b ((lastN 0 b).toNat + 1) 0:Int) > lim) then rnForm b e S
      else some (.tuple [.agg [.str ((b.take b.length).drop (rnK b).toNat),.int .i64 e],.int .i64 (dig b ((lastN 0 b).toNat + 1) 0:Int)],[],S)
    else none else none else none
def rnNine (b:List Int) (e:Int) (S:Stack):Option Res :=
  bif true && decide (9 ≤ (b.length:Int)) then some (.tuple [rS (failS ⟨(b.take b.length).drop 9,e⟩ 21),.int .i64 0],[],S) else none
theorem rn_ok:Con PR A n_ref02_ReadNum (pureC rnF) := by
  refine pureC_ok fun args v hv ha S => ?_
  unfold rnF at hv
  split at hv
  · rename_i b e lim
    cases hv
    simp only [okAVs,okAV] at ha
    have hb:isBytes b := ha.1.1.2
    have hlen := ha.1.1.1
    have h:body PR (cfE [lastE,rfailE,rnumE]) cfgK lfRN n_ref02_ReadNum [.agg [.str b,.int .i64 e],.int .i64 lim] S some =
      (bif e != 0 then some (.tuple [.agg [.str b,.int .i64 e],.int .i64 0],[],S)
      else bif decide (lastN 0 b < 0) then bif decide ((b.length:Int) < 9) then some (.tuple [rS (failS ⟨bytesOf ⟨#[]⟩,e⟩ 20),.int .i64 0],[],S)
          else bif decide (lastN 0 b < 0) then rnNine b e S else rnTail b e lim S
        else bif decide (lastN 0 b < 0) then rnNine b e S else rnTail b e lim S) := by kernel_rfl
    refine fun_call _ mixed (by kernel_rfl) (by kernel_rfl) rn_loops (h.trans ?_)
    unfold rnV numR
    by_cases he:e = 0
    · subst he
      rw [cond_ne (by simp)]
      simp only [if_true]
      by_cases hn:lastN 0 b = -1
      · have hr := lastN_none b 0 hb (by omega) hn
        rw [cond_eq (by rw [hn]; rfl),hr]
        by_cases h9:b.length < 9
        · rw [cond_eq (by simp <;> omega),if_pos (by omega)]
          rfl
        · rw [cond_ne (by simp <;> omega),cond_eq (by rw [hn]; rfl),if_neg (by omega)]
          unfold rnNine
          rw [cond_eq (by simp <;> omega),List.take_of_length_le (Nat.le_refl b.length)]
          rfl
      · obtain ⟨j,g1,g2,g3,g4⟩ := lastN_some b 0 hb (by omega) hn
        rw [Nat.zero_add] at g1 g3 g4
        rw [cond_ne (by rw [g1]; simp),cond_ne (by rw [g1]; simp)]
        have hK:rnK b = ((j + 1:Nat):Int) := by
          unfold rnK
          rw [g1,wrap_i64 (by omega) (by omega)]
          omega
        have hT := numS_test hb g2 g3 g4
        unfold rnTail rnForm
        rw [hK,g1,Int.toNat_natCast,Int.toNat_natCast,cond_eq (by simp <;> omega),cond_eq (by simp <;> omega),cond_eq (by simp <;> omega),List.drop_zero,List.take_of_length_le (Nat.le_refl b.length),g4]
        by_cases hbad:1 ≤ j ∧ b[j]? = some 0
        · rw [cond_eq (by simpa using fun h => (hT.1 h).1 hbad),if_pos hbad]
          rfl
        · rw [if_neg hbad]
          simp only
          by_cases htop:(dig b (j + 1) 0:Int) > top
          · rw [cond_eq (by simpa using fun h => absurd (hT.1 h).2 (by omega)),if_pos (.inl htop)]
            rfl
          · rw [cond_ne (by simpa using hT.2 ⟨hbad,by omega⟩)]
            by_cases hlim:(dig b (j + 1) 0:Int) > lim
            · rw [decide_eq_true hlim,if_pos (.inr hlim)]
              rfl
            · rw [decide_eq_false hlim,if_neg (fun h => h.elim htop hlim)]
              rfl
    · rw [cond_eq (by simpa using he)]
      simp only [if_neg he]
      rfl
  · cases hv
def rnE:Ent PR A := ⟨n_ref02_ReadNum,_,rn_ok⟩
def rtV (s:St) (lim:Int):AV := .tuple [rS (textR s lim).1,.str (textR s lim).2]
def rtF:List AV → Tr AV
  | [.agg [.str b,.int .i64 e],.int .i64 lim] => .yes (rtV ⟨b,e⟩ lim)
  | _ => .no
end Go.Crc
namespace Go.Crc
open Go.Vm Go.Pack
def rtTail (s:St) (n:Int) (S:Stack):Option Res :=
  bif s.e != 0 then some (.tuple [.agg [.str s.b,.int .i64 s.e],.str (bytesOf ⟨#[]⟩)],[],S)
  else bif decide (n > (s.b.length:Int)) then some (.tuple [rS (failS ⟨s.b,s.e⟩ 20),.str (bytesOf ⟨#[]⟩)],[],S)
  else bif decide (0 ≤ n) && decide (n ≤ (s.b.length:Int)) then bif decide (0 ≤ n) && decide (n ≤ (s.b.length:Int)) then
    some (.tuple [.agg [.str ((s.b.take s.b.length).drop n.toNat),.int .i64 s.e],.str ((s.b.take n.toNat).drop 0)],[],S)
  else none else none
theorem rt_ok:Con PR A n_ref02_ReadText (pureC rtF) := by
  refine pureC_ok fun args v hv ha S => ?_
  unfold rtF at hv
  split at hv
  · rename_i b e lim
    cases hv
    have h:body PR (cfE [rnE,rfailE]) cfgK (fun _ => none) n_ref02_ReadText [.agg [.str b,.int .i64 e],.int .i64 lim] S some = rtTail (numR ⟨b,e⟩ lim).1 (numR ⟨b,e⟩ lim).2 S := by kernel_rfl
    refine fun_call _ mixed (by kernel_rfl) (by kernel_rfl) (no_loops (by kernel_rfl)) (h.trans ?_)
    have hn := numR_nonneg ⟨b,e⟩ lim
    unfold rtV textR
    generalize numR ⟨b,e⟩ lim = z at hn ⊢
    obtain ⟨s,n⟩ := z
    simp only at hn ⊢
    unfold rtTail takeS
    by_cases he:s.e = 0
    · have h1:(s.e != 0) = false := by rw [he]; rfl
      rw [h1,cond_false,cond_false]
      by_cases hg:n > (s.b.length:Int)
      · rw [decide_eq_true hg]
        rfl
      · rw [decide_eq_false hg,cond_false,cond_false,cond_eq (by simp <;> omega),cond_eq (by simp <;> omega),List.drop_zero,List.take_of_length_le (Nat.le_refl s.b.length)]
        rfl
    · have h1:(s.e != 0) = true := by simpa using he
      have h2:(s.e == 0) = false := by simpa using he
      rw [h1,cond_true,cond_true]
      unfold failS rS
      simp only [h2,cond_false]
      rfl
  · cases hv
def rtE:Ent PR A := ⟨n_ref02_ReadText,_,rt_ok⟩
end Go.Crc
