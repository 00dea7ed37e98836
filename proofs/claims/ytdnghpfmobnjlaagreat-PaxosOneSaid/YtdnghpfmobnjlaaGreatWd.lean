/- Contracts of functions of this program. Conditions: none. -/
import Derived.Test.YtdnghpfmobnjlaaGreatWc
set_option linter.unusedVariables false
set_option linter.unusedSimpArgs false
set_option maxRecDepth 100000
namespace Go.Crc
open Go.Vm Go.Pack
def textF:Ob → List AV → Tr (AV × Bool × Ob)
  | .cells [.slice (.int .u8) b .view,.int .i64 e],[.int .i64 lim]=>.yes (.str (textR ⟨b,e⟩ lim).2,true,ofSt (textR ⟨b,e⟩ lim).1)
  | _,_=>.no
theorem text_ok:Con PR A n_pack_Reader_Text (objC 0 textF):=by
  refine objC_ok fun x rest v wrote x' hv=>?_
  unfold textF at hv
  split at hv
  · rename_i b e lim
    cases hv
    refine ⟨rfl,rfl,rfl,rfl,by simp,fun ha _=>?_⟩
    have h:body PR (cfE [numE,takeE]) cfgK (fun _=>none) n_pack_Reader_Text [.ptr 1 0 0,.int .i64 lim] [[],[.cells [.slice (.int .u8) b .view,.int .i64 e]]] some =
      (bif decide (0 ≤ (numR ⟨b,e⟩ lim).2) then some (.str (textR ⟨b,e⟩ lim).2,[(1,0),(1,0)],[[],[ofSt (textR ⟨b,e⟩ lim).1]]) else none):=by kernel_rfl
    rw [cond_eq (by simpa using numR_nonneg ⟨b,e⟩ lim)] at h
    exact SimCall.wr (fun_call _ mixed (by kernel_rfl) (by kernel_rfl) (no_loops (by kernel_rfl)) h) fun l i hm=>memWr1 (by simp) hm
  · cases hv
def textE:Ent PR A:=⟨n_pack_Reader_Text,_,text_ok⟩
def lfP:Nat → Option LoopSum:=lfOf [
  (14948,loopT [0,7,12,13,14] [0,7,12,13,14] fun vs H=>match vs,H with
    | [.slice (.int .u8) b .own,.int .i64 n,x,y,z],[] :: S=>.br (okN n) (.br (decide (b.length + 9 ≤ 140737488355328)) (.yes (.exit 2,[.slice (.int .u8) (b ++ vpre 9 n.toNat) .own,.int .i64 (vlast 9 n.toNat:Int),x,y,z],[] :: S,[])) .no) .no
    | _,_=>.no),
  (58,loopT [0,12,13,14] [0] fun vs H=>match vs,H with
    | [.slice (.int .u8) b .own,.slice (.int .i64) l .view,.int .i64 ln,.int .i64 i],[] :: S=>.br (decide (i = 0)) (.br (decide (ln = l.length)) (.br (okAll l) (.br (decide (b.length + 10 * l.length ≤ 140737488355328)) (.yes (.exit 0,[.slice (.int .u8) (b ++ nums l) .own],[] :: S,[])) .no) .no) .no) .no
    | _,_=>.no)]
noncomputable abbrev LP1 (N:Nat):=LC PR (cfE [rightE]) cfgK lfP n_pack_Num 1 14948 [0,7,12,13,14] [0,7,12,13,14] N
noncomputable abbrev LP0 (N:Nat):=LC PR (cfE [rightE]) cfgK lfP n_pack_Num 0 58 [0,12,13,14] [0] N
theorem pnum_round1 (b:List Int) (n:Int) (x y z:AV) (S:Stack) (wr:Wr) (N:Nat) (k:Ex → List AV → Stack → Wr → Option Res) :
    LP1 (N + 1) [.slice (.int .u8) b .own,.int .i64 n,x,y,z] ([] :: S) wr k =
      (bif decide (n ≥ 128) then bif decide ((b.length + 1) * 1 ≤ 140737488355328) then
        LP1 N [.slice (.int .u8) (b ++ [bitop .or .u8 (IntKind.u8.wrap n) 128]) .own,.int .i64 (shiftR .i64 n 7),x,y,z] ([] :: S) wr k
      else none
      else k (.exit 2) [.slice (.int .u8) b .own,.int .i64 n,x,y,z] ([] :: S) wr):=by kernel_rfl
theorem pnum_loop1 (x y z:AV) (S:Stack) (wr:Wr) (k:Ex → List AV → Stack → Wr → Option Res):∀ (q n:Nat) (b:List Int),n < 128 ^ q → b.length + q ≤ 140737488355328 →
    LP1 (q + 1) [.slice (.int .u8) b .own,.int .i64 (n:Int),x,y,z] ([] :: S) wr k = k (.exit 2) [.slice (.int .u8) (b ++ vpre q n) .own,.int .i64 (vlast q n:Int),x,y,z] ([] :: S) wr
  | 0,n,b,hn,hl=>by
    have:n = 0:=by simpa using hn
    subst this
    rw [pnum_round1,cond_ne (by simp),vpre,List.append_nil]
    rfl
  | q + 1,n,b,hn,hl=>by
    rw [pnum_round1]
    simp only [vpre,vlast]
    by_cases h1:128 ≤ n
    · have hd:shiftR .i64 (n:Int) 7 = ((n / 128:Nat):Int):=shiftR_nat .i64 n 7 (by decide)
      have hlt:n / 128 < 128 ^ q:=by
        rw [Nat.pow_succ] at hn
        have h4:n < 128 * 128 ^ q:=by rw [Nat.mul_comm]; exact hn
        exact Nat.div_lt_of_lt_mul h4
      rw [cond_eq (by simp <;> omega),cond_eq (by simp <;> omega),decide_eq_true h1,cond_true,cond_true,or128,hd,pnum_loop1 x y z S wr k q (n / 128) _ hlt (by simp <;> omega),List.append_assoc]
      rfl
    · rw [cond_ne (by simp <;> omega),decide_eq_false h1,cond_false,cond_false,List.append_nil]
theorem pnum_round0 (b l:List Int) (ln i:Int) (S:Stack) (wr:Wr) (N:Nat) (k:Ex → List AV → Stack → Wr → Option Res) :
    LP0 (N + 1) [.slice (.int .u8) b .own,.slice (.int .i64) l .view,.int .i64 ln,.int .i64 i] ([] :: S) wr k =
      (bif decide (i < ln) then (at? l i).bind fun n=>bif okN n then bif decide (b.length + 9 ≤ 140737488355328) then
        bif decide (((b ++ vpre 9 n.toNat).length + 1) * 1 ≤ 140737488355328) then
          LP0 N [.slice (.int .u8) ((b ++ vpre 9 n.toNat) ++ [IntKind.u8.wrap (vlast 9 n.toNat:Int)]) .own,.slice (.int .i64) l .view,.int .i64 ln,.int .i64 (IntKind.i64.wrap (i + 1))] ([] :: S) wr k
        else none else none else none
      else k (.exit 0) [.slice (.int .u8) b .own] ([] :: S) wr):=by kernel_rfl
theorem okN_iff {n:Int}:okN n = true ↔ 0 ≤ n ∧ n ≤ 4611686018427387904:=by
  unfold okN top; simp
theorem num_split {n:Int} (h:okN n = true) (b:List Int):(b ++ vpre 9 n.toNat) ++ [IntKind.u8.wrap (vlast 9 n.toNat:Int)] = b ++ num n:=by
  obtain ⟨h0,h1⟩:=okN_iff.1 h
  have h2:n.toNat < 128 ^ 9:=by
    have:(128:Nat) ^ 9 = 9223372036854775808:=by decide
    omega
  have h3:=vlast_lt 9 n.toNat h2
  rcases vn_split 9 n.toNat h2 with h4 | h4
  · unfold num
    rw [h4,wrap_u8 (by omega) (by omega),List.append_assoc]
  · cases h4
theorem pnum_loop0 (l:List Int) (hl:l.length ≤ maxInt) (S:Stack) (wr:Wr) (k:Ex → List AV → Stack → Wr → Option Res):∀ (q j:Nat) (b:List Int),j + q = l.length → okAll (l.drop j) = true → b.length + 10 * q ≤ 140737488355328 →
    LP0 (q + 1) [.slice (.int .u8) b .own,.slice (.int .i64) l .view,.int .i64 (l.length:Int),.int .i64 (j:Int)] ([] :: S) wr k = k (.exit 0) [.slice (.int .u8) (b ++ nums (l.drop j)) .own] ([] :: S) wr
  | 0,j,b,hj,hok,hb=>by
    rw [pnum_round0,cond_ne (by simp <;> omega),List.drop_of_length_le (by omega),nums,List.append_nil]
  | q + 1,j,b,hj,hok,hb=>by
    obtain ⟨x,hx⟩:∃ x,l[j]? = some x:=⟨_,List.getElem?_eq_getElem (by omega)⟩
    rw [drop_cons hx] at hok ⊢
    simp only [okAll,Bool.and_eq_true] at hok
    have hp:=vpre_len 9 x.toNat
    have hnl:=num_len x
    rw [pnum_round0,cond_eq (by simp <;> omega),at_some hx,Option.bind_some,hok.1,cond_true,cond_eq (by simp <;> omega),cond_eq (by simp <;> omega),num_split hok.1,wrap_succ (n:=l.length) (by omega) hl,pnum_loop0 l hl S wr k q (j + 1) _ (by omega) hok.2 (by rw [List.length_append]; omega)]
    rw [nums,List.append_assoc]
theorem pnum_loops:∀ x ∈ funLoops PR n_pack_Num,∀ L,lfP x.1 = some L → LoopOK (ntm PR n_pack_Num) (fun fr H wr k=>code PR (cfE [rightE]) cfgK lfP (cfgK.live n_pack_Num) x.2 (2 * x.1) fr H wr k) L:=by
  refine all_loops (ps:=[58,14948]) (by kernel_rfl) fun j p hj L hL=>?_
  match j,hj with
  | 0,hj =>
    simp at hj; subst hj; cases hL
    refine loopT_ok (by decide) fun vs H wr ex vs' H' w hv ha hh=>?_
    split at hv
    · rename_i b l ln i S
      obtain ⟨h1,hv2⟩:=Tr.br_no hv
      clear hv
      obtain ⟨h2,hv3⟩:=Tr.br_no hv2
      obtain ⟨h3,hv4⟩:=Tr.br_no hv3
      obtain ⟨h4,hv5⟩:=Tr.br_no hv4
      simp only [decide_eq_true_eq] at h1 h2 h4
      subst h1; subst h2
      cases hv5
      simp only [okAVs,okAV] at ha
      refine ⟨l.length + 1,fun k=>?_⟩
      have:=pnum_loop0 l ha.2.1.1 S wr k l.length 0 b (by omega) (by rw [List.drop_zero]; exact h3) h4
      rw [List.drop_zero] at this
      exact this
    · cases hv
  | 1,hj =>
    simp at hj; subst hj; cases hL
    refine loopT_ok (by decide) fun vs H wr ex vs' H' w hv ha hh=>?_
    split at hv
    · rename_i b n x y z S
      obtain ⟨h1,hv2⟩:=Tr.br_no hv
      clear hv
      obtain ⟨h2,hv3⟩:=Tr.br_no hv2
      simp only [decide_eq_true_eq] at h2
      cases hv3
      obtain ⟨g0,g1⟩:=okN_iff.1 h1
      refine ⟨10,fun k=>?_⟩
      have:=pnum_loop1 x y z S wr k 9 n.toNat b (by
        have:(128:Nat) ^ 9 = 9223372036854775808:=by decide
        omega) h2
      rw [natCast_toNat g0] at this
      exact this
    · cases hv
def pnumV (b l:List Int):AV:=.tuple [.slice (.int .u8) (bif okAll l then b ++ nums l else b) .own,.bool (okAll l)]
def pnumF:List AV → Tr AV
  | [.slice (.int .u8) b .own,.slice (.int .i64) l .view]=>.br (decide (b.length + 10 * l.length ≤ 140737488355328)) (.yes (pnumV b l)) .no
  | _=>.no
theorem pnum_ok:Con PR A n_pack_Num (pureC pnumF):=by
  refine pureC_ok fun args v hv ha S=>?_
  unfold pnumF at hv
  split at hv
  · rename_i b l
    obtain ⟨hl,hv2⟩:=Tr.br_no hv
    cases hv2
    have h:body PR (cfE [rightE]) cfgK lfP n_pack_Num [.slice (.int .u8) b .own,.slice (.int .i64) l .view] S some =
      (bif !(okAll l) then some (.tuple [.slice (.int .u8) b .own,.bool false],[],S)
      else bif decide ((l.length:Int) = (l.length:Int)) then bif okAll l then bif decide (b.length + 10 * l.length ≤ 140737488355328) then some (.tuple [.slice (.int .u8) (b ++ nums l) .own,.bool true],[],S) else none else none else none):=by kernel_rfl
    refine fun_call _ mixed (by kernel_rfl) (by kernel_rfl) pnum_loops (h.trans ?_)
    unfold pnumV
    cases okAll l with
    | false=>rfl
    | true=>rw [hl,decide_eq_true rfl]; rfl
  · cases hv
def pnumE:Ent PR A:=⟨n_pack_Num,_,pnum_ok⟩
theorem okAll_len (s:List Int) (h:s.length ≤ maxInt / 2):okAll [(s.length:Int)] = true:=by
  simp only [okAll,Bool.and_true]
  rw [okN_iff]
  simp only [maxInt] at h
  omega
def ptextV (b s:List Int):AV:=.tuple [.slice (.int .u8) (bif decide ((s.length:Int) > 65536) then b else b ++ num s.length ++ s) .own,.bool (!decide ((s.length:Int) > 65536))]
def ptextF:List AV → Tr AV
  | [.slice (.int .u8) b .own,.str s]=>.br (decide (b.length ≤ 100000000)) (.yes (ptextV b s)) .no
  | _=>.no
theorem ptext_ok:Con PR A n_pack_Text (pureC ptextF):=by
  refine pureC_ok fun args v hv ha S=>?_
  unfold ptextF at hv
  split at hv
  · rename_i b s
    obtain ⟨hl,hv2⟩:=Tr.br_no hv
    cases hv2
    simp only [decide_eq_true_eq] at hl
    have h:body PR (cfE [pnumE]) cfgK (fun _=>none) n_pack_Text [.slice (.int .u8) b .own,.str s] S some =
      (bif decide ((s.length:Int) > 65536) then some (.tuple [.slice (.int .u8) b .own,.bool false],[],S)
      else bif decide (b.length + 10 * 1 ≤ 140737488355328) then bif decide (((bif okAll [(s.length:Int)] then b ++ nums [(s.length:Int)] else b).length + s.length) * 1 ≤ 140737488355328) then
        some (.tuple [.slice (.int .u8) ((bif okAll [(s.length:Int)] then b ++ nums [(s.length:Int)] else b) ++ s) .own,.bool true],[],S) else none else none):=by kernel_rfl
    refine fun_call _ mixed (by kernel_rfl) (by kernel_rfl) (no_loops (by kernel_rfl)) (h.trans ?_)
    unfold ptextV
    by_cases h1:(s.length:Int) > 65536
    · rw [decide_eq_true h1]; rfl
    · have hn:=num_len (s.length:Int)
      rw [decide_eq_false h1,cond_false,okAll_len s (by simp only [maxInt]; omega),cond_true,cond_eq (by simp <;> omega),cond_eq (by simp [nums] <;> omega)]
      simp [nums]
  · cases hv
def ptextE:Ent PR A:=⟨n_pack_Text,_,ptext_ok⟩
end Go.Crc
namespace Go.Crc
open Go.Vm Go.Pack
end Go.Crc
namespace Go.Crc
open Go.Vm Go.Pack
end Go.Crc
namespace Go.Crc
open Go.Vm Go.Pack
end Go.Crc
