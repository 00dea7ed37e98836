/- Contracts of functions of this program. Conditions: none. -/
import Derived.Test.YtdnghpfmobnjlaaGreatWj
set_option linter.unusedVariables false
set_option linter.unusedSimpArgs false
/- Store.Read. Conditions: none. A text of this seat's numbers. -/
set_option linter.unusedVariables false
set_option linter.unusedSimpArgs false
set_option maxRecDepth 100000
namespace Go.Crc
open Go.Vm Go.Pack Go.Rec Go.RowKit
end Go.Crc
/- The document's frames. Conditions: none. A text of this seat's numbers. -/
set_option linter.unusedVariables false
set_option linter.unusedSimpArgs false
set_option maxRecDepth 100000
namespace Go.Crc
open Go.Vm Go.Pack Go.Rec Go.RowKit
def frameF:List AV → Tr AV
  | [.str b] => .br (decide (b.length ≤ 100000000)) (.yes (.str (frB b))) .no
  | _ => .no
theorem frame_ok:Con PR A n_ref08_Frame (pureC frameF) := by
  refine pure_con0 (cfg := cfgG) [rtextE,refPutE] mixed (by kernel_rfl) (by kernel_rfl) (by kernel_rfl) fun args v hv ha S => ?_
  unfold frameF at hv
  split at hv
  · rename_i b
    obtain ⟨h1,hv2⟩ := Tr.br_no hv
    cases hv2
    simp only [decide_eq_true_eq] at h1
    have h:body PR (cfE [rtextE,refPutE]) cfgG lf0 n_ref08_Frame [.str b] S some =
      (bif decide (b.length ≤ 140737488355328) then bif decide ((numS (b.length:Int) ++ b).length + 4 ≤ 140737488355328) then some (.str (crcPut (numS (b.length:Int) ++ b)),[],S) else none else none) := by kernel_rfl
    have hn:numS (b.length:Int) = num b.length := by
      unfold numS
      have:okN (b.length:Int) = true := by unfold okN top; rw [decide_eq_true (by omega),decide_eq_true (by omega)]; rfl
      rw [this]; rfl
    have := num_len (b.length:Int)
    rw [hn,cond_eq (decide_eq_true (by omega)),cond_eq (by simp only [List.length_append,decide_eq_true_eq]; omega)] at h
    exact h
  · cases hv
def frameE:Ent PR A := ⟨n_ref08_Frame,_,frame_ok⟩
def fdOK (s:List Int):Bool := !((fR s).1.e != 0) && (decide ((frB (fR s).2).length ≤ s.length) && (s.take (frB (fR s).2).length == frB (fR s).2))
theorem fR_short (s:List Int):(fR s).2.length ≤ 65536 := by
  have:((fR s).2.length:Int) ≤ 65536 := text_len' _ (by omega)
  omega
theorem fdOK_eq {s:List Int} (hs:isBytes s):fdOK s = fOK s := by
  unfold fdOK fOK fE
  cases he:((fR s).1.e != 0) with
  | true => rfl
  | false =>
    simp only [bne_eq_false_iff_eq] at he
    obtain ⟨_,e⟩ := text_inv (s := ⟨s,0⟩) (lim := 65536) hs he
    have e':s = frP (fR s).2 ++ (fR s).1.b := by unfold frP; rw [List.append_assoc]; exact e
    have hl:s.length = (frP (fR s).2).length + (fR s).1.b.length := by have := congrArg List.length e'; rwa [List.length_append] at this
    have hn:fN s = (((frB (fR s).2).length:Nat):Int) := by
      unfold fN frB Crc.crcPut
      rw [List.length_append,show (le4 (crcSum (frP (fR s).2))).length = 4 from rfl]
      omega
    simp only [Bool.not_false,Bool.true_and]
    rw [hn,Int.toNat_natCast]
    by_cases h1:(frB (fR s).2).length ≤ s.length
    · rw [decide_eq_true h1,decide_eq_false (show ¬ (((frB (fR s).2).length:Nat):Int) > (s.length:Int) by omega)]
      simp only [Bool.true_and,Bool.not_false]
      have hlt:(s.take (frB (fR s).2).length).length = (frB (fR s).2).length := by rw [List.length_take]; omega
      have h4:(frB (fR s).2).length = (frP (fR s).2).length + 4 := by unfold frB Crc.crcPut; rw [List.length_append]; rfl
      cases hc:crcOK (s.take (frB (fR s).2).length) with
      | true =>
        have hp := crcPut_cut hc
        rw [hlt,h4,Nat.add_sub_cancel,List.take_take,Nat.min_eq_left (by omega),take_pre e',← h4] at hp
        rw [← hp]
        simp [frB]
      | false =>
        rw [beq_eq_false_iff_ne]
        intro h5
        rw [h5] at hc
        unfold frB at hc
        rw [Crc.crcOK_put] at hc
        cases hc
    · rw [decide_eq_false h1,decide_eq_true (show (((frB (fR s).2).length:Nat):Int) > (s.length:Int) by omega)]
      rfl
def dfirV (s:List Int):AV := .tuple [.str (bif fOK s then fX s else []),.bool (fOK s)]
def dfirF:List AV → Tr AV
  | [.str s] => .br (decide (s.length ≤ 100000000)) (.yes (dfirV s)) .no
  | _ => .no
theorem dfir_ok:Con PR A n_ref08_first (pureC dfirF) := by
  refine pure_con0 (cfg := cfgG) [rtE,frameE] mixed (by kernel_rfl) (by kernel_rfl) (by kernel_rfl) fun args v hv ha S => ?_
  unfold dfirF at hv
  split at hv
  · rename_i s
    obtain ⟨h1,hv2⟩ := Tr.br_no hv
    cases hv2
    simp only [okAVs,okAV] at ha
    have hs:isBytes s := ha.1.2
    have h:body PR (cfE [rtE,frameE]) cfgG lf0 n_ref08_first [.str s] S some =
      (bif decide ((fR s).2.length ≤ 100000000) then
        bif (fR s).1.e != 0 then some (.tuple [.str [],.bool false],[],S)
        else bif decide (((frB (fR s).2).length:Int) > (s.length:Int)) then some (.tuple [.str [],.bool false],[],S)
        else bif decide (0 ≤ ((frB (fR s).2).length:Int)) && decide (((frB (fR s).2).length:Int) ≤ (s.length:Int)) then
          bif ((s.take ((frB (fR s).2).length:Int).toNat).drop 0 != frB (fR s).2) then some (.tuple [.str [],.bool false],[],S)
          else some (.tuple [.str (fR s).2,.bool true],[],S)
        else none else none) := by kernel_rfl
    refine h.trans ?_
    have hx := fR_short s
    rw [cond_eq (decide_eq_true (by omega))]
    unfold dfirV fX
    rw [← fdOK_eq hs]
    have hE:fdOK s = true → fE s = true := fun h => by
      rw [fdOK_eq hs] at h
      unfold fOK at h
      rw [Bool.and_eq_true] at h
      exact h.1
    cases hd:fdOK s with
    | true =>
      rw [hE hd]
      unfold fdOK at hd
      simp only [Bool.and_eq_true,Bool.not_eq_true',decide_eq_true_eq] at hd
      obtain ⟨k1,k2,k3⟩ := hd
      rw [k1,decide_eq_false (show ¬ ((frB (fR s).2).length:Int) > (s.length:Int) by omega),cond_false,cond_false,cond_eq (by simp only [Bool.and_eq_true,decide_eq_true_eq]; omega),Int.toNat_natCast,List.drop_zero,bne,k3]
      rfl
    | false =>
      cases he:((fR s).1.e != 0) with
      | true => rfl
      | false =>
        by_cases h2:((frB (fR s).2).length:Int) > (s.length:Int)
        · rw [decide_eq_true h2]; rfl
        · unfold fdOK at hd
          rw [he,decide_eq_true (show (frB (fR s).2).length ≤ s.length by omega)] at hd
          simp only [Bool.not_false,Bool.true_and] at hd
          rw [decide_eq_false h2,cond_false,cond_false,cond_eq (by simp only [Bool.and_eq_true,decide_eq_true_eq]; omega),Int.toNat_natCast,List.drop_zero,bne,hd]
          rfl
  · cases hv
def dfirE:Ent PR A := ⟨n_ref08_first,_,dfir_ok⟩
end Go.Crc
/- The document's scan. Conditions: none. A text of this seat's numbers. -/
set_option linter.unusedVariables false
set_option linter.unusedSimpArgs false
set_option maxRecDepth 100000
namespace Go.Crc
open Go.Vm Go.Pack Go.Rec Go.RowKit
def dX (s:List Int):List Int := bif fOK s then fX s else []
def dscEnd (s:List Int):Bool := decide ((catF (scanL s)).length < s.length)
def dscF (vs:List AV) (H:Stack):Tr (Ex × List AV × Stack × Wr) := match vs,H with
  | [.str s,.slice .str [] .own,.int .i64 0],[] :: S => .br (decide (s.length ≤ 1000000)) (.br (dscEnd s)
      (.yes (.ret,[.slice .str (scanL s) .own,.int .i64 (scanN s),.slice .str (scanL s) .view,.int .i64 (scanN s)],[] :: S,[]))
      (.yes (.exit 0,[.undef,.undef,.slice .str (scanL s) .own,.int .i64 (scanN s)],[] :: S,[]))) .no
  | _,_ => .no
def lfDs:Nat → Option LoopSum := lfOf [(60,loopT [0,4,5] [2,3,4,5] dscF)]
noncomputable abbrev LDs (N:Nat) := LC PR (cfE (P := PR) (A := A) [dfirE,frameE]) cfgG lfDs n_ref08_Scan 0 60 [0,4,5] [2,3,4,5] N
def dscZ (s:List Int) (n:Int):List Int := (s.take s.length).drop n.toNat
theorem ds_round (s:List Int) (out:List (List Int)) (n:Int) (S:Stack) (wr:Wr) (N:Nat) (k:Ex → List AV → Stack → Wr → Option Res) :
    LDs (N + 1) [.str s,.slice .str out .own,.int .i64 n] ([] :: S) wr k =
      (bif decide (n < (s.length:Int)) then bif decide (0 ≤ n) && decide (n ≤ (s.length:Int)) then bif decide ((dscZ s n).length ≤ 100000000) then
        bif !fOK (dscZ s n) then k .ret [.slice .str out .own,.int .i64 n,.slice .str out .view,.int .i64 n] ([] :: S) wr
        else bif decide ((out.length + 1) * 16 ≤ 140737488355328) then bif decide ((dX (dscZ s n)).length ≤ 100000000) then
          LDs N [.str s,.slice .str (out ++ [dX (dscZ s n)]) .own,.int .i64 (IntKind.i64.wrap (n + ((frB (dX (dscZ s n))).length:Int)))] ([] :: S) wr k
        else none else none
      else none else none else k (.exit 0) [.undef,.undef,.slice .str out .own,.int .i64 n] ([] :: S) wr) := by kernel_rfl
theorem ds_loop (s:List Int) (hs:isBytes s) (hl:s.length ≤ 1000000) (S:Stack) (wr:Wr) (k:Ex → List AV → Stack → Wr → Option Res):∀ (m at_:Nat) (out:List (List Int)),s.length - at_ ≤ m → at_ ≤ s.length → out.length ≤ at_ →
    LDs (m + 1) [.str s,.slice .str out .own,.int .i64 (at_:Int)] ([] :: S) wr k =
      bif decide (at_ + (catF (scanL (s.drop at_))).length < s.length) then k .ret [.slice .str (out ++ scanL (s.drop at_)) .own,.int .i64 ((at_ + (catF (scanL (s.drop at_))).length:Nat):Int),.slice .str (out ++ scanL (s.drop at_)) .view,.int .i64 ((at_ + (catF (scanL (s.drop at_))).length:Nat):Int)] ([] :: S) wr
      else k (.exit 0) [.undef,.undef,.slice .str (out ++ scanL (s.drop at_)) .own,.int .i64 ((at_ + (catF (scanL (s.drop at_))).length:Nat):Int)] ([] :: S) wr := by
  intro m
  induction m with
  | zero =>
    intro at_ out h1 h2 h3
    have hn:scanL (s.drop at_) = [] := by rw [List.drop_of_length_le (by omega)]; rfl
    rw [ds_round,cond_ne (decide_eq_false (by omega)),hn]
    rw [cond_ne (decide_eq_false (show ¬ at_ + (catF []).length < s.length by simp only [catF,List.length_nil]; omega))]
    simp only [catF,List.length_nil,Nat.add_zero,List.append_nil]
  | succ m ih =>
    intro at_ out h1 h2 h3
    by_cases hlt:at_ < s.length
    · have hz:dscZ s (at_:Int) = s.drop at_ := by unfold dscZ; rw [List.take_of_length_le (Nat.le_refl _),Int.toNat_natCast]
      have hb := drop_bytes hs at_
      rw [ds_round,hz,cond_eq (decide_eq_true (by omega)),cond_eq (by simp only [Bool.and_eq_true,decide_eq_true_eq]; omega),cond_eq (by simp only [List.length_drop,decide_eq_true_eq]; omega),scanL_step hb]
      cases hok:fOK (s.drop at_) with
      | false =>
        simp only [Bool.not_false,cond_true,cond_false]
        rw [cond_eq (decide_eq_true (show at_ + (catF []).length < s.length by simp only [catF,List.length_nil]; omega))]
        simp only [catF,List.length_nil,Nat.add_zero,List.append_nil]
      | true =>
        obtain ⟨g1,g2,g3⟩ := fOK_inv hb hok
        have h4 := frB_ge (fX (s.drop at_))
        have hlen:at_ + (frB (fX (s.drop at_))).length ≤ s.length := by
          have := congrArg List.length g2
          rw [List.length_append,List.length_drop] at this
          omega
        have hdx:dX (s.drop at_) = fX (s.drop at_) := by unfold dX; rw [hok]; rfl
        simp only [Bool.not_true,cond_false,cond_true]
        rw [hdx,g3,Int.toNat_natCast,List.drop_drop]
        rw [cond_eq (decide_eq_true (by omega)),cond_eq (decide_eq_true (by omega)),wrap_i64 (by omega) (by omega)]
        have e:(at_:Int) + ((frB (fX (s.drop at_))).length:Int) = ((at_ + (frB (fX (s.drop at_))).length:Nat):Int) := by omega
        rw [e,ih (at_ + (frB (fX (s.drop at_))).length) _ (by omega) hlen (by simp only [List.length_append,List.length_cons,List.length_nil]; omega)]
        simp only [catF,List.length_append,List.append_assoc,List.cons_append,List.nil_append,Nat.add_assoc]
    · have hn:scanL (s.drop at_) = [] := by rw [List.drop_of_length_le (by omega)]; rfl
      rw [ds_round,cond_ne (decide_eq_false (by omega)),hn]
      rw [cond_ne (decide_eq_false (show ¬ at_ + (catF []).length < s.length by simp only [catF,List.length_nil]; omega))]
      simp only [catF,List.length_nil,Nat.add_zero,List.append_nil]
theorem ds_loops:∀ x ∈ funLoops PR n_ref08_Scan,∀ L,lfDs x.1 = some L → LoopOK (ntm PR n_ref08_Scan) (fun fr H wr k => code PR (cfE (P := PR) (A := A) [dfirE,frameE]) cfgG lfDs (cfgG.live n_ref08_Scan) x.2 (2 * x.1) fr H wr k) L := by
  refine one_loop (p := 60) rfl (by kernel_rfl) (loopT_ok (by decide) fun vs H wr ex vs' H' w hv ha hh => ?_)
  unfold dscF at hv
  split at hv
  · rename_i s S
    obtain ⟨hl,hv2⟩ := Tr.br_no hv
    clear hv
    simp only [decide_eq_true_eq] at hl
    simp only [okAVs,okAV] at ha
    have hs:isBytes s := ha.1.2
    refine ⟨s.length + 1,fun k => ?_⟩
    have := ds_loop s hs hl S wr k s.length 0 [] (by omega) (Nat.zero_le _) (Nat.zero_le _)
    simp only [List.drop_zero,Nat.zero_add,List.nil_append] at this
    rcases Tr.br_or hv2 with ⟨he,h4⟩ | ⟨he,h4⟩
    · cases h4
      unfold dscEnd at he
      rw [he] at this
      exact this
    · cases h4
      unfold dscEnd at he
      rw [he] at this
      exact this
  · cases hv
def dscV (s:List Int):AV := .tuple [.slice .str (scanL s) .view,.int .i64 (scanN s)]
def dscC:List AV → Tr AV
  | [.str s] => .br (decide (s.length ≤ 1000000)) (.yes (dscV s)) .no
  | _ => .no
theorem dsc_ok:Con PR A n_ref08_Scan (pureC dscC) := by
  refine pureC_ok fun args v hv ha S => ?_
  unfold dscC at hv
  split at hv
  · rename_i s
    obtain ⟨h1,hv2⟩ := Tr.br_no hv
    cases hv2
    have h:body PR (cfE (P := PR) (A := A) [dfirE,frameE]) cfgG lfDs n_ref08_Scan [.str s] S some = (bif decide (s.length ≤ 1000000) then bif dscEnd s then some (dscV s,[],S) else some (dscV s,[],S) else none) := by kernel_rfl
    refine fun_call _ mixed (by kernel_rfl) (by kernel_rfl) ds_loops (h.trans ?_)
    rw [cond_eq h1]
    cases dscEnd s <;> rfl
  · cases hv
def dscE:Ent PR A := ⟨n_ref08_Scan,_,dsc_ok⟩
end Go.Crc
/- The document's stores: their text. Conditions: none. A text of this seat's numbers. -/
set_option linter.unusedVariables false
set_option linter.unusedSimpArgs false
set_option maxRecDepth 100000
namespace Go.Crc
open Go.Vm Go.Pack Go.Rec Go.RowKit
def smB:List (List Int) → Bool
  | [] => true
  | x :: r => decide (x.length ≤ 65536) && smB r
def smallL (l:List (List Int)):Bool := smB l && decide (l.length ≤ 20000)
theorem smB_mem:∀ {l:List (List Int)},smB l = true → ∀ x ∈ l,x.length ≤ 65536
  | y :: r,h,x,hx => by
    simp only [smB,Bool.and_eq_true,decide_eq_true_eq] at h
    rcases List.mem_cons.1 hx with rfl | hx
    · exact h.1
    · exact smB_mem h.2 x hx
theorem catF_len:∀ {l:List (List Int)},smB l = true → (catF l).length ≤ l.length * 65549
  | [],_ => by simp [catF]
  | x :: r,h => by
    simp only [smB,Bool.and_eq_true,decide_eq_true_eq] at h
    have h1 := frB_le h.1
    have h2 := catF_len h.2
    simp only [catF,List.length_append,List.length_cons]
    omega
def txtF (vs:List AV) (H:Stack):Tr (Ex × List AV × Stack × Wr) := match vs,H with
  | [.int .i64 m,.ptr 0 0 0,.str [],.int .i64 0],[.cells [.slice .str l .view,.int .i64 y,.bool f]] :: S =>
    .br (decide (0 ≤ m) && (decide (m ≤ (l.length:Int)) && smallL l)) (.yes (.exit 0,[.str (catF (l.take m.toNat))],[.cells [.slice .str l .view,.int .i64 y,.bool f]] :: S,[])) .no
  | _,_ => .no
def lfTxP:Nat → Option LoopSum := lfOf [(58,loopT [1,2,5,6] [5] txtF)]
noncomputable abbrev LTxP (N:Nat) := LC PR (cfE (P := PR) (A := A) [frameE]) cfgG lfTxP n_ref08_Text 0 58 [1,2,5,6] [5] N
theorem txt_round (l:List (List Int)) (m y:Int) (f:Bool) (out:List Int) (i:Int) (S:Stack) (wr:Wr) (N:Nat) (k:Ex → List AV → Stack → Wr → Option Res) :
    LTxP (N + 1) [.int .i64 m,.ptr 0 0 0,.str out,.int .i64 i] ([.cells [.slice .str l .view,.int .i64 y,.bool f]] :: S) wr k =
      (bif decide (i < m) then (at? l i).bind fun x => bif decide (x.length ≤ 100000000) then bif decide (out.length + (frB x).length ≤ maxInt) then
        LTxP N [.int .i64 m,.ptr 0 0 0,.str (out ++ frB x),.int .i64 (IntKind.i64.wrap (i + 1))] ([.cells [.slice .str l .view,.int .i64 y,.bool f]] :: S) wr k
      else none else none else k (.exit 0) [.str out] ([.cells [.slice .str l .view,.int .i64 y,.bool f]] :: S) wr) := by kernel_rfl
theorem txt_loop (l:List (List Int)) (hl:smallL l = true) (m:Nat) (hm:m ≤ l.length) (y:Int) (f:Bool) (S:Stack) (wr:Wr) (k:Ex → List AV → Stack → Wr → Option Res):∀ (q j:Nat),j + q = m →
    LTxP (q + 1) [.int .i64 (m:Int),.ptr 0 0 0,.str (catF (l.take j)),.int .i64 (j:Int)] ([.cells [.slice .str l .view,.int .i64 y,.bool f]] :: S) wr k = k (.exit 0) [.str (catF (l.take m))] ([.cells [.slice .str l .view,.int .i64 y,.bool f]] :: S) wr
  | 0,j,hj => by
    rw [txt_round,cond_ne (decide_eq_false (by omega)),show j = m by omega]
  | q + 1,j,hj => by
    unfold smallL at hl
    simp only [Bool.and_eq_true,decide_eq_true_eq] at hl
    have hlt:j < l.length := by omega
    have hx := smB_mem hl.1 l[j] (List.getElem_mem hlt)
    have hc := catF_len (l := l.take j) (by
      have:∀ (l:List (List Int)) (j:Nat),smB l = true → smB (l.take j) = true := by
        intro l
        induction l with
        | nil => intro j _; simp [smB]
        | cons x r ih =>
          intro j h
          cases j with
          | zero => rfl
          | succ j =>
            simp only [smB,Bool.and_eq_true,List.take_succ_cons] at h ⊢
            exact ⟨h.1,ih j h.2⟩
      exact this l j hl.1)
    have hfl := frB_le hx
    rw [List.length_take] at hc
    rw [txt_round,cond_eq (decide_eq_true (by omega)),at_some (List.getElem?_eq_getElem hlt),Option.bind_some,cond_eq (decide_eq_true (by omega)),cond_eq (decide_eq_true (by simp only [maxInt]; omega)),wrap_i64 (by omega) (by omega)]
    have e:catF (l.take j) ++ frB l[j] = catF (l.take (j + 1)) := by
      rw [List.take_succ_eq_append_getElem hlt,catF_app]
      simp [catF]
    rw [e,show (j:Int) + 1 = ((j + 1:Nat):Int) by omega]
    exact txt_loop l (by unfold smallL; simp [hl.1,hl.2]) m hm y f S wr k q (j + 1) (by omega)
theorem txt_loops:∀ x ∈ funLoops PR n_ref08_Text,∀ L,lfTxP x.1 = some L → LoopOK (ntm PR n_ref08_Text) (fun fr H wr k => code PR (cfE (P := PR) (A := A) [frameE]) cfgG lfTxP (cfgG.live n_ref08_Text) x.2 (2 * x.1) fr H wr k) L := by
  refine one_loop (p := 58) rfl (by kernel_rfl) (loopT_ok (by decide) fun vs H wr ex vs' H' w hv ha hh => ?_)
  unfold txtF at hv
  split at hv
  · rename_i m l y f S
    obtain ⟨hc,hv2⟩ := Tr.br_no hv
    cases hv2
    simp only [Bool.and_eq_true,decide_eq_true_eq] at hc
    obtain ⟨h1,h2,h3⟩ := hc
    refine ⟨m.toNat + 1,fun k => ?_⟩
    have := txt_loop l h3 m.toNat (by omega) y f S wr k m.toNat 0 (by omega)
    rw [natCast_toNat h1] at this
    exact this
  · cases hv
abbrev dSt (l:List (List Int)) (y:Int) (f:Bool):AV := .agg [.slice .str l .view,.int .i64 y,.bool f]
def txtC:List AV → Tr AV
  | [.agg [.slice .str l .view,.int .i64 y,.bool f],.int .i64 m] => .br (decide (0 ≤ m) && (decide (m ≤ (l.length:Int)) && smallL l)) (.yes (.str (catF (l.take m.toNat)))) .no
  | _ => .no
theorem txt_ok:Con PR A n_ref08_Text (pureC txtC) := by
  refine pureC_ok fun args v hv ha S => ?_
  unfold txtC at hv
  split at hv
  · rename_i l y f m
    obtain ⟨h1,hv2⟩ := Tr.br_no hv
    cases hv2
    have h:body PR (cfE (P := PR) (A := A) [frameE]) cfgG lfTxP n_ref08_Text [dSt l y f,.int .i64 m] S some = (bif decide (0 ≤ m) && (decide (m ≤ (l.length:Int)) && smallL l) then some (.str (catF (l.take m.toNat)),[],S) else none) := by kernel_rfl
    refine fun_call _ mixed (by kernel_rfl) (by kernel_rfl) txt_loops (h.trans ?_)
    rw [cond_eq h1]
  · cases hv
def txtE:Ent PR A := ⟨n_ref08_Text,_,txt_ok⟩
end Go.Crc
/- The document's stores: made, appended to, read, crashed. Conditions: none. A text of this seat's numbers. -/
set_option linter.unusedVariables false
set_option linter.unusedSimpArgs false
set_option maxRecDepth 100000
namespace Go.Crc
open Go.Vm Go.Pack Go.Rec Go.RowKit
def dnwV (b:List Int):AV := dSt (scanL (b.take 65536)) ((scanL (b.take 65536)).length:Int) false
def dnwC:List AV → Tr AV
  | [.slice (.int .u8) b .view] => .yes (dnwV b)
  | _ => .no
theorem dnw_ok:Con PR A n_ref08_New (pureC dnwC) := by
  refine pure_con0 (cfg := cfgG) [dscE] mixed (by kernel_rfl) (by kernel_rfl) (by kernel_rfl) fun args v hv ha S => ?_
  unfold dnwC at hv
  split at hv
  · rename_i b
    cases hv
    have h:body PR (cfE (P := PR) (A := A) [dscE]) cfgG lf0 n_ref08_New [.slice (.int .u8) b .view] S some =
      (bif decide ((b.length:Int) > 65536) then bif true && decide (65536 ≤ (b.length:Int)) then bif decide (((b.take 65536).drop 0).length ≤ 1000000) then
        some (dSt (scanL ((b.take 65536).drop 0)) ((scanL ((b.take 65536).drop 0)).length:Int) false,[],S) else none else none
      else bif decide (b.length ≤ 1000000) then some (dSt (scanL b) ((scanL b).length:Int) false,[],S) else none) := by kernel_rfl
    refine h.trans ?_
    have hlt:(b.take 65536).length ≤ 65536 := by rw [List.length_take]; omega
    unfold dnwV
    by_cases h1:(b.length:Int) > 65536
    · rw [decide_eq_true h1,decide_eq_true (show (65536:Int) ≤ (b.length:Int) by omega),List.drop_zero,decide_eq_true (show (b.take 65536).length ≤ 1000000 by omega)]; rfl
    · rw [decide_eq_false h1,decide_eq_true (show b.length ≤ 1000000 by omega),List.take_of_length_le (by omega)]; rfl
  · cases hv
def dnwE:Ent PR A := ⟨n_ref08_New,_,dnw_ok⟩
def dapC:List AV → Tr AV
  | [.agg [.slice .str l .view,.int .i64 y,.bool f],.slice (.int .u8) x .view] => .br (smallL l && decide (x.length ≤ 100000000)) (.br (appOK (catF l) x f) (.yes (.tuple [dSt (l ++ [x]) y f,.int .i64 (catF l).length,.int .i64 0])) (.yes (.tuple [dSt l y f,.int .i64 0,.int .i64 (bif f then 81 else 80)]))) .no
  | _ => .no
theorem smallL_len {l:List (List Int)} (h:smallL l = true):(catF l).length ≤ 1310980000 := by
  unfold smallL at h
  simp only [Bool.and_eq_true,decide_eq_true_eq] at h
  have := catF_len h.1
  omega
theorem dap_ok:Con PR A n_ref08_Append (pureC dapC) := by
  refine pure_con0 (cfg := cfgG) [txtE,frameE] mixed (by kernel_rfl) (by kernel_rfl) (by kernel_rfl) fun args v hv ha S => ?_
  unfold dapC at hv
  split at hv
  · rename_i l y f x
    obtain ⟨hc,hv2⟩ := Tr.br_no hv
    clear hv
    simp only [Bool.and_eq_true,decide_eq_true_eq] at hc
    obtain ⟨hc,hxl⟩ := hc
    have h:body PR (cfE (P := PR) (A := A) [txtE,frameE]) cfgG lf0 n_ref08_Append [dSt l y f,.slice (.int .u8) x .view] S some =
      (bif f then some (.tuple [dSt l y f,.int .i64 0,.int .i64 81],[],S)
      else bif decide (0 ≤ (l.length:Int)) && (decide ((l.length:Int) ≤ (l.length:Int)) && smallL l) then
        bif decide ((x.length:Int) > 65536) then some (.tuple [dSt l y f,.int .i64 0,.int .i64 80],[],S)
        else bif decide (x.length ≤ 100000000) then
          bif decide (IntKind.i64.wrap (((catF (l.take (l.length:Int).toNat)).length:Int) + ((frB x).length:Int)) > 65536) then some (.tuple [dSt l y f,.int .i64 0,.int .i64 80],[],S)
          else bif decide ((0 + l.length) * 16 ≤ 140737488355328) then bif decide ((([] ++ l).length + 1) * 16 ≤ 140737488355328) then
            some (.tuple [dSt (([] ++ l) ++ [x]) y f,.int .i64 ((catF (l.take (l.length:Int).toNat)).length:Int),.int .i64 0],[],S)
          else none else none
        else none
      else none) := by kernel_rfl
    have hs := smallL_len hc
    have hll:l.length ≤ 20000 := by unfold smallL at hc; simp only [Bool.and_eq_true,decide_eq_true_eq] at hc; exact hc.2
    rw [Int.toNat_natCast,List.take_of_length_le (Nat.le_refl _),List.nil_append,hc,decide_eq_true (show (0:Int) ≤ (l.length:Int) by omega),decide_eq_true (show (l.length:Int) ≤ (l.length:Int) by omega),decide_eq_true hxl,decide_eq_true (show (0 + l.length) * 16 ≤ 140737488355328 by omega),decide_eq_true (show (l.length + 1) * 16 ≤ 140737488355328 by omega)] at h
    simp only [Bool.and_self,cond_true] at h
    refine h.trans ?_
    rcases Tr.br_or hv2 with ⟨he,h4⟩ | ⟨he,h4⟩
    · cases h4
      unfold appOK at he
      simp only [Bool.and_eq_true,Bool.not_eq_true',decide_eq_true_eq] at he
      obtain ⟨h1,h2,h3⟩ := he
      subst h1
      rw [cond_false,decide_eq_false (show ¬ (x.length:Int) > 65536 by omega),cond_false,wrap_i64 (by omega) (by omega),decide_eq_false (show ¬ ((catF l).length:Int) + ((frB x).length:Int) > 65536 by omega),cond_false]
    · cases h4
      cases f with
      | true => rfl
      | false =>
        simp only [cond_false]
        by_cases h1:x.length ≤ 65536
        · have hfl := frB_le h1
          have h3:¬ (catF l).length + (frB x).length ≤ 65536 := fun h3 => by
            unfold appOK at he
            rw [decide_eq_true h1,decide_eq_true h3] at he
            cases he
          rw [decide_eq_false (show ¬ (x.length:Int) > 65536 by omega),cond_false,wrap_i64 (by omega) (by omega),decide_eq_true (show ((catF l).length:Int) + ((frB x).length:Int) > 65536 by omega),cond_true]
        · rw [decide_eq_true (show (x.length:Int) > 65536 by omega),cond_true]
  · cases hv
def dapE:Ent PR A := ⟨n_ref08_Append,_,dap_ok⟩
theorem take_cat {l:List (List Int)} {j:Nat} (h:j < l.length):(catF (l.take (j + 1))).length = (catF (l.take j)).length + (frB l[j]).length := by
  rw [List.take_succ_eq_append_getElem h,catF_app,List.length_append]
  simp [catF]
end Go.Crc
/- The document's crash. Conditions: none. A text of this seat's numbers. -/
set_option linter.unusedVariables false
set_option linter.unusedSimpArgs false
set_option maxRecDepth 100000
namespace Go.Crc
open Go.Vm Go.Pack Go.Rec Go.RowKit
def dcrF (vs:List AV) (H:Stack):Tr (Ex × List AV × Stack × Wr) := match vs,H with
  | [.ptr 0 0 0,.ptr 0 1 0,.int .i64 n,.int .i64 e],[.cells [.slice .str l .view,.int .i64 y,.bool f],z] :: S =>
    .br (decide (0 ≤ n) && (decide (n ≤ (l.length:Int)) && (smallL l && decide (((catF (l.take n.toNat)).length:Int) ≤ e)))) (.yes (.exit 0,[.ptr 0 0 0,.ptr 0 1 0,.int .i64 ((n.toNat + wholeF (l.drop n.toNat) (e.toNat - (catF (l.take n.toNat)).length):Nat):Int)],[.cells [.slice .str l .view,.int .i64 y,.bool f],z] :: S,[])) .no
  | _,_ => .no
def lfCr:Nat → Option LoopSum := lfOf [(252,loopT [2,4,5,6] [2,4,5] dcrF)]
noncomputable abbrev LCr (N:Nat) := LC PR (cfE (P := PR) (A := A) [txtE]) cfgG lfCr n_ref08_Crash 0 252 [2,4,5,6] [2,4,5] N
theorem dcr_round (l:List (List Int)) (y n e:Int) (f:Bool) (z:Ob) (S:Stack) (wr:Wr) (N:Nat) (k:Ex → List AV → Stack → Wr → Option Res) :
    LCr (N + 1) [.ptr 0 0 0,.ptr 0 1 0,.int .i64 n,.int .i64 e] ([.cells [.slice .str l .view,.int .i64 y,.bool f],z] :: S) wr k =
      (bif decide (n < (l.length:Int)) then bif decide (0 ≤ IntKind.i64.wrap (n + 1)) && (decide (IntKind.i64.wrap (n + 1) ≤ (l.length:Int)) && smallL l) then
        bif decide (((catF (l.take (IntKind.i64.wrap (n + 1)).toNat)).length:Int) ≤ e) then LCr N [.ptr 0 0 0,.ptr 0 1 0,.int .i64 (IntKind.i64.wrap (n + 1)),.int .i64 e] ([.cells [.slice .str l .view,.int .i64 y,.bool f],z] :: S) wr k
        else k (.exit 0) [.ptr 0 0 0,.ptr 0 1 0,.int .i64 n] ([.cells [.slice .str l .view,.int .i64 y,.bool f],z] :: S) wr
      else none else k (.exit 0) [.ptr 0 0 0,.ptr 0 1 0,.int .i64 n] ([.cells [.slice .str l .view,.int .i64 y,.bool f],z] :: S) wr) := by kernel_rfl
theorem dcr_loop (l:List (List Int)) (hl:smallL l = true) (y:Int) (E:Nat) (f:Bool) (z:Ob) (S:Stack) (wr:Wr) (k:Ex → List AV → Stack → Wr → Option Res):∀ (q j:Nat),j + q = l.length → (catF (l.take j)).length ≤ E →
    LCr (q + 1) [.ptr 0 0 0,.ptr 0 1 0,.int .i64 (j:Int),.int .i64 (E:Int)] ([.cells [.slice .str l .view,.int .i64 y,.bool f],z] :: S) wr k =
      k (.exit 0) [.ptr 0 0 0,.ptr 0 1 0,.int .i64 ((j + wholeF (l.drop j) (E - (catF (l.take j)).length):Nat):Int)] ([.cells [.slice .str l .view,.int .i64 y,.bool f],z] :: S) wr := by
  have hll:l.length ≤ 20000 := by have := hl; unfold smallL at this; simp only [Bool.and_eq_true,decide_eq_true_eq] at this; exact this.2
  intro q
  induction q with
  | zero =>
    intro j hj hE
    have hd:l.drop j = [] := List.drop_of_length_le (by omega)
    rw [dcr_round,cond_ne (decide_eq_false (by omega)),hd]
    simp only [wholeF,Nat.add_zero]
  | succ q ih =>
    intro j hj hE
    have hlt:j < l.length := by omega
    have hw:IntKind.i64.wrap ((j:Int) + 1) = ((j + 1:Nat):Int) := by rw [wrap_i64 (by omega) (by omega)]; omega
    have hd:l.drop j = l[j] :: l.drop (j + 1) := List.drop_eq_getElem_cons hlt
    have ht := take_cat hlt
    rw [dcr_round,cond_eq (decide_eq_true (by omega)),hw,hl,cond_eq (by simp only [Bool.and_eq_true,decide_eq_true_eq,and_true]; omega),Int.toNat_natCast,hd]
    simp only [wholeF]
    by_cases h1:(catF (l.take (j + 1))).length ≤ E
    · have hi := ih (j + 1) (by omega) h1
      have e1:E - (catF (l.take (j + 1))).length = E - (catF (l.take j)).length - (frB l[j]).length := by omega
      rw [e1] at hi
      have e2:j + 1 + wholeF (l.drop (j + 1)) (E - (catF (l.take j)).length - (frB l[j]).length) = j + (wholeF (l.drop (j + 1)) (E - (catF (l.take j)).length - (frB l[j]).length) + 1) := by omega
      rw [e2] at hi
      rw [cond_eq (decide_eq_true (by omega)),decide_eq_true (show (frB l[j]).length ≤ E - (catF (l.take j)).length by omega),cond_true]
      exact hi
    · rw [cond_ne (decide_eq_false (by omega)),decide_eq_false (show ¬ (frB l[j]).length ≤ E - (catF (l.take j)).length by omega),cond_false,Nat.add_zero]
theorem dcr_loops:∀ x ∈ funLoops PR n_ref08_Crash,∀ L,lfCr x.1 = some L → LoopOK (ntm PR n_ref08_Crash) (fun fr H wr k => code PR (cfE (P := PR) (A := A) [txtE]) cfgG lfCr (cfgG.live n_ref08_Crash) x.2 (2 * x.1) fr H wr k) L := by
  refine one_loop (p := 252) rfl (by kernel_rfl) (loopT_ok (by decide) fun vs H wr ex vs' H' w hv ha hh => ?_)
  unfold dcrF at hv
  split at hv
  · rename_i n e l y f z S
    obtain ⟨hc,hv2⟩ := Tr.br_no hv
    cases hv2
    simp only [Bool.and_eq_true,decide_eq_true_eq] at hc
    obtain ⟨h1,h2,h3,h4⟩ := hc
    refine ⟨l.length - n.toNat + 1,fun k => ?_⟩
    have := dcr_loop l h3 y e.toNat f z S wr k (l.length - n.toNat) n.toNat (by omega) (by omega)
    rw [natCast_toNat h1,natCast_toNat (show 0 ≤ e by omega)] at this
    exact this
  · cases hv
def dcrC:List AV → Tr AV
  | [.agg [.slice .str l .view,.int .i64 y,.bool f],.int .i64 k] => .br (decide (0 ≤ y) && (decide (y ≤ (l.length:Int)) && smallL l)) (.yes (dSt (l.take (dcN l y k)) ((dcN l y k:Nat):Int) false)) .no
  | _ => .no
def dcT (l:List (List Int)) (y e:Int) (S:Stack):Option Res :=
  bif decide (0 ≤ y) && (decide (y ≤ (l.length:Int)) && (smallL l && decide (((catF (l.take y.toNat)).length:Int) ≤ e))) then
    bif decide (0 ≤ ((y.toNat + wholeF (l.drop y.toNat) (e.toNat - (catF (l.take y.toNat)).length):Nat):Int)) && decide (((y.toNat + wholeF (l.drop y.toNat) (e.toNat - (catF (l.take y.toNat)).length):Nat):Int) ≤ (l.length:Int)) then
      some (dSt ((l.take ((y.toNat + wholeF (l.drop y.toNat) (e.toNat - (catF (l.take y.toNat)).length):Nat):Int).toNat).drop 0) ((y.toNat + wholeF (l.drop y.toNat) (e.toNat - (catF (l.take y.toNat)).length):Nat):Int) false,[],S)
    else none else none
theorem wholeF_big:∀ (r:List (List Int)) (K:Nat),(catF r).length ≤ K → wholeF r K = r.length
  | [],K,h => rfl
  | x :: r,K,h => by
    simp only [catF,List.length_append] at h
    simp only [wholeF]
    rw [decide_eq_true (show (frB x).length ≤ K by omega),cond_true,wholeF_big r _ (by omega)]
    rfl
theorem dcT_eq {l:List (List Int)} {y e:Int} {K:Nat} {S:Stack} (h1:0 ≤ y) (h2:y ≤ (l.length:Int)) (h3:smallL l = true) (h4:((catF (l.take y.toNat)).length:Int) ≤ e) (hK:wholeF (l.drop y.toNat) (e.toNat - (catF (l.take y.toNat)).length) = wholeF (l.drop y.toNat) K) :
    dcT l y e S = some (dSt (l.take (y.toNat + wholeF (l.drop y.toNat) K)) ((y.toNat + wholeF (l.drop y.toNat) K:Nat):Int) false,[],S) := by
  have hw := wholeF_le (l.drop y.toNat) K
  rw [List.length_drop] at hw
  unfold dcT
  rw [hK,h3,cond_eq (by simp only [Bool.and_eq_true,decide_eq_true_eq,true_and]; omega),cond_eq (by simp only [Bool.and_eq_true,decide_eq_true_eq]; omega),Int.toNat_natCast,List.drop_zero]
theorem dcr_eq (l:List (List Int)) (y k:Int) (f:Bool) (S:Stack):body PR (cfE (P := PR) (A := A) [txtE]) cfgG lfCr n_ref08_Crash [dSt l y f,.int .i64 k] S some =
    (bif decide (0 ≤ y) && (decide (y ≤ (l.length:Int)) && smallL l) then
      bif decide (k > 0) then
        bif decide (IntKind.i64.wrap (((catF (l.take y.toNat)).length:Int) + k) < k) then dcT l y 4611686018427387904 S else dcT l y (IntKind.i64.wrap (((catF (l.take y.toNat)).length:Int) + k)) S
      else bif decide (((catF (l.take y.toNat)).length:Int) < k) then dcT l y 4611686018427387904 S else dcT l y ((catF (l.take y.toNat)).length:Int) S
    else none) := by kernel_rfl
theorem wrap_over {x:Int} (h1:9223372036854775808 ≤ x) (h2:x < 18446744073709551616):IntKind.i64.wrap x = x - 18446744073709551616 := by
  have hm:x % (18446744073709551616:Int) = x := Int.emod_eq_of_lt (by omega) h2
  show (if (true && decide (x % (18446744073709551616:Int) ≥ (9223372036854775808:Int))) = true then x % (18446744073709551616:Int) - (18446744073709551616:Int) else x % (18446744073709551616:Int)) = _
  rw [hm,decide_eq_true (show x ≥ 9223372036854775808 by omega)]
  rfl
theorem dcr_ok:Con PR A n_ref08_Crash (pureC dcrC) := by
  refine pureC_ok fun args v hv ha S => ?_
  unfold dcrC at hv
  split at hv
  · rename_i l y f k
    obtain ⟨hc,hv2⟩ := Tr.br_no hv
    cases hv2
    simp only [Bool.and_eq_true,decide_eq_true_eq] at hc
    obtain ⟨h1,h2,h3⟩ := hc
    simp only [okAVs,okAV] at ha
    have hk:(-9223372036854775808:Int) ≤ k ∧ k ≤ 9223372036854775807 := by
      have := ha.2.1
      exact this
    have hs := smallL_len h3
    have hcat:catF l = catF (l.take y.toNat) ++ catF (l.drop y.toNat) := by rw [← catF_app,List.take_append_drop]
    have hl2:(catF l).length = (catF (l.take y.toNat)).length + (catF (l.drop y.toNat)).length := by
      have := congrArg List.length hcat
      rwa [List.length_append] at this
    refine fun_call _ mixed (by kernel_rfl) (by kernel_rfl) dcr_loops ((dcr_eq l y k f S).trans ?_)
    rw [h3,cond_eq (by simp only [Bool.and_eq_true,decide_eq_true_eq,and_true]; omega)]
    unfold dcN
    by_cases hk0:k > 0
    · rw [decide_eq_true hk0,cond_true]
      by_cases hov:((catF (l.take y.toNat)).length:Int) + k ≤ 9223372036854775807
      · rw [wrap_i64 (by omega) (by omega),decide_eq_false (show ¬ ((catF (l.take y.toNat)).length:Int) + k < k by omega),cond_false]
        refine dcT_eq h1 h2 h3 (by omega) ?_
        congr 1
        omega
      · have hw:IntKind.i64.wrap (((catF (l.take y.toNat)).length:Int) + k) < k := by
          have := wrap_over (x := ((catF (l.take y.toNat)).length:Int) + k) (by omega) (by omega)
          omega
        rw [decide_eq_true hw,cond_true]
        refine dcT_eq h1 h2 h3 (by omega) ?_
        rw [wholeF_big _ k.toNat (by omega),wholeF_big _ _ (by
          have:(4611686018427387904:Int).toNat = 4611686018427387904 := rfl
          omega)]
    · rw [decide_eq_false hk0,cond_false,decide_eq_false (show ¬ ((catF (l.take y.toNat)).length:Int) < k by omega),cond_false]
      refine dcT_eq h1 h2 h3 (by omega) ?_
      congr 1
      omega
  · cases hv
def dcrE:Ent PR A := ⟨n_ref08_Crash,_,dcr_ok⟩
end Go.Crc
