/- Contracts of functions of this program. Conditions: none. -/
import Derived.Test.YtgnfgckieigblaaGreatWm
import Derived.Test.YtgnfgckieigblaaGreatWj
set_option linter.unusedVariables false
set_option linter.unusedSimpArgs false
/- The document's segments. Conditions: none. A text of this seat's numbers. -/
set_option linter.unusedVariables false
set_option linter.unusedSimpArgs false
set_option maxRecDepth 100000
namespace Go.Crc
open Go.Vm Go.Pack Go.Rec Go.RowKit
/-! ### Read -/
abbrev whOb (L : List Rc) (lv : Lv) (t : Int) (br : Bool) : Ob := .cells [.slice RecT L lv, .int .i64 t, .bool br]
abbrev recObS (x : Rc) : Ob := .cells [.int .i64 x.1.1, .int .i64 x.1.2, .slice (.int .i64) x.2.1 .view, .str x.2.2]
abbrev rdOb (s : St) : Ob := .cells [.str s.b, .int .i64 s.e]
def rdLast : List (List Int) → List Rc → Int → List Int
  | [], _, _ => []
  | f :: r, L, t => bif sgOK L.length t f then rdLast r (sgL L f) (sgT L.length t f) else f
def rdW : List (List Int) → List Rc → Int → Wr
  | [], _, _ => []
  | f :: r, L, t => bif sgOK L.length t f then app (rdW r (sgL L f) (sgT L.length t f)) (bif (match f with | x :: _ => x == 1 | [] => false) then [(0, 1), (0, 2)] else [(0, 1), (0, 3), (0, 2)])
    else match f with | [] => [(0, 0), (0, 1)] | _ :: _ => [(0, 0), (0, 1), (0, 3), (0, 2)]
theorem rdW_all0 : ∀ (l : List (List Int)) (L : List Rc) (t : Int), all0 (rdW l L t) = true
  | [], _, _ => rfl
  | f :: r, L, t => by
    simp only [rdW]
    cases sgOK L.length t f with
    | true =>
      refine all0_app (rdW_all0 r _ _) ?_
      cases (match f with | x :: _ => x == 1 | [] => false) <;> rfl
    | false => cases f <;> rfl
def rdF (vs : List AV) (H : Stack) : Tr (Ex × List AV × Stack × Wr) := match vs, H with
  | [.slice .str l .view, .ptr 0 0 0, .ptr 0 1 0, .int .i64 i], [.cells [.slice (.pair (.pair (.int .i64) (.int .i64)) (.pair (.slice (.int .i64)) .str)) [] .own, .int .i64 0, .bool false], .cells [.slice (.pair (.pair (.int .i64) (.int .i64)) (.pair (.slice (.int .i64)) .str)) L .own, .int .i64 t, .bool br]] :: S =>
    .br (decide (i = 0) && (smF l && decide (L.length ≤ 1000))) (.br (!(sgR l L t).2.2) (.yes (.exit 0, [.ptr 0 0 0, .ptr 0 1 0], [whOb [] .own 0 false, whOb (sgR l L t).1 .own (sgR l L t).2.1 br] :: S, rdW l L t))
      (.br (decide ((rdLast l L t).length = 0)) (.yes (.ret, [.ptr 0 0 0, .ptr 0 1 0], [whOb (sgR l L t).1 .view (sgR l L t).2.1 true, whOb (sgR l L t).1 .own (sgR l L t).2.1 true] :: S, rdW l L t))
        (.yes (.ret, [.ptr 0 0 0, .ptr 0 1 0], [whOb (sgR l L t).1 .view (sgR l L t).2.1 true, whOb (sgR l L t).1 .own (sgR l L t).2.1 true, recObS (decR ((rdLast l L t).drop 1)), rdOb (sgN (sgR l L t).1.length ((rdLast l L t).drop 1)).1] :: S, rdW l L t)))) .no
  | _, _ => .no
def lfRd9 : Nat → Option LoopSum := lfOf [(58, loopT [0, 2, 3, 4] [2, 3] rdF)]
noncomputable abbrev ERd : List (Ent PR A) := [rdecE, rnE, rendE]
noncomputable abbrev LRd9 (N : Nat) := LC PR (cfE ERd) cfgS lfRd9 n_ref09_Read 0 58 [0, 2, 3, 4] [2, 3] N
def drp1 (f : List Int) : List Int := (f.take f.length).drop 1
def rdNum (l : List (List Int)) (i : Int) (f2 : List Int) (L : List Rc) (t : Int) (bad : Option Res) (next : Option Res) : Option Res :=
  (at? l i).bind fun f4 => (at? f4 0).bind fun y => bif y != 2 then bad else bif endR (sgN L.length (drp1 f2)).1 != 0 then bad else bif decide ((sgN L.length (drp1 f2)).2 < t) then bad else next
theorem rd9_round (l : List (List Int)) (i : Int) (L : List Rc) (t : Int) (br : Bool) (S : Stack) (wr : Wr) (N : Nat) (k : Ex → List AV → Stack → Wr → Option Res) :
    LRd9 (N + 1) [.slice .str l .view, .ptr 0 0 0, .ptr 0 1 0, .int .i64 i] ([whOb [] .own 0 false, whOb L .own t br] :: S) wr k =
      (bif decide (i < (l.length : Int)) then (at? l i).bind fun f =>
        bif (f.length : Int) == 0 then k .ret [.ptr 0 0 0, .ptr 0 1 0] ([whOb L .view t true, whOb L .own t true] :: S) ((0, 0) :: (0, 1) :: wr)
        else (at? l i).bind fun f2 => bif true && decide ((1 : Int) ≤ (f2.length : Int)) then bif decide ((drp1 f2).length ≤ 140737488355328) then
          (at? l i).bind fun f3 => (at? f3 0).bind fun b =>
            bif b == 1 then bif decErr (drp1 f2) == 0 then
                bif decide ((L.length + 1) * 56 ≤ 140737488355328) then LRd9 N [.slice .str l .view, .ptr 0 0 0, .ptr 0 1 0, .int .i64 (IntKind.i64.wrap (i + 1))] ([whOb [] .own 0 false, whOb (L ++ [decR (drp1 f2)]) .own t br] :: S) ((0, 1) :: (0, 2) :: wr) k else none
              else rdNum l i f2 L t (k .ret [.ptr 0 0 0, .ptr 0 1 0] ([whOb L .view t true, whOb L .own t true, recObS (decR (drp1 f2)), rdOb (sgN L.length (drp1 f2)).1] :: S) ((0, 0) :: (0, 1) :: (0, 3) :: (0, 2) :: wr)) (LRd9 N [.slice .str l .view, .ptr 0 0 0, .ptr 0 1 0, .int .i64 (IntKind.i64.wrap (i + 1))] ([whOb [] .own 0 false, whOb L .own (sgN L.length (drp1 f2)).2 br] :: S) ((0, 1) :: (0, 3) :: (0, 2) :: wr) k)
            else rdNum l i f2 L t (k .ret [.ptr 0 0 0, .ptr 0 1 0] ([whOb L .view t true, whOb L .own t true, recObS (decR (drp1 f2)), rdOb (sgN L.length (drp1 f2)).1] :: S) ((0, 0) :: (0, 1) :: (0, 3) :: (0, 2) :: wr)) (LRd9 N [.slice .str l .view, .ptr 0 0 0, .ptr 0 1 0, .int .i64 (IntKind.i64.wrap (i + 1))] ([whOb [] .own 0 false, whOb L .own (sgN L.length (drp1 f2)).2 br] :: S) ((0, 1) :: (0, 3) :: (0, 2) :: wr) k)
        else none else none
      else k (.exit 0) [.ptr 0 0 0, .ptr 0 1 0] ([whOb [] .own 0 false, whOb L .own t br] :: S) wr) := by kernel_rfl
theorem drp1_cons (x : Int) (r : List Int) : drp1 (x :: r) = r := by
  unfold drp1
  rw [List.take_of_length_le (Nat.le_refl _)]
  rfl
def rdRes (k : Ex → List AV → Stack → Wr → Option Res) (l : List (List Int)) (L : List Rc) (t : Int) (br : Bool) (S : Stack) (wr : Wr) : Option Res :=
  bif !(sgR l L t).2.2 then k (.exit 0) [.ptr 0 0 0, .ptr 0 1 0] ([whOb [] .own 0 false, whOb (sgR l L t).1 .own (sgR l L t).2.1 br] :: S) (app (rdW l L t) wr)
  else bif decide ((rdLast l L t).length = 0) then k .ret [.ptr 0 0 0, .ptr 0 1 0] ([whOb (sgR l L t).1 .view (sgR l L t).2.1 true, whOb (sgR l L t).1 .own (sgR l L t).2.1 true] :: S) (app (rdW l L t) wr)
  else k .ret [.ptr 0 0 0, .ptr 0 1 0] ([whOb (sgR l L t).1 .view (sgR l L t).2.1 true, whOb (sgR l L t).1 .own (sgR l L t).2.1 true, recObS (decR ((rdLast l L t).drop 1)), rdOb (sgN (sgR l L t).1.length ((rdLast l L t).drop 1)).1] :: S) (app (rdW l L t) wr)
theorem rd9_loop (l : List (List Int)) (hl : smF l = true) (br : Bool) (S : Stack) (k : Ex → List AV → Stack → Wr → Option Res) : ∀ (q j : Nat) (L : List Rc) (t : Int) (wr : Wr), j + q = l.length → L.length ≤ 1000 + j →
    LRd9 (q + 1) [.slice .str l .view, .ptr 0 0 0, .ptr 0 1 0, .int .i64 (j : Int)] ([whOb [] .own 0 false, whOb L .own t br] :: S) wr k = rdRes k (l.drop j) L t br S wr := by
  unfold smF at hl
  simp only [Bool.and_eq_true, decide_eq_true_eq, List.all_eq_true] at hl
  obtain ⟨hl, hf⟩ := hl
  intro q
  induction q with
  | zero =>
    intro j L t wr hj hL
    have hd : l.drop j = [] := List.drop_of_length_le (by omega)
    rw [rd9_round, cond_ne (decide_eq_false (by omega)), hd]
    rfl
  | succ q ih =>
    intro j L t wr hj hL
    have hlt : j < l.length := by omega
    have hw := wrap_next hlt (show l.length ≤ maxInt by simp only [maxInt]; omega)
    have hd : l.drop j = l[j] :: l.drop (j + 1) := List.drop_eq_getElem_cons hlt
    have hx : l[j]? = some l[j] := List.getElem?_eq_getElem hlt
    have hfx := hf l[j] (List.getElem_mem hlt)
    rw [rd9_round, cond_eq (decide_eq_true (by omega)), hw, hd]
    simp only [rdNum, at_some hx, Option.bind_some]
    generalize l[j] = f at hfx hx
    cases f with
    | nil =>
      unfold rdRes
      simp only [sgR, sgOK, rdLast, rdW]
      rfl
    | cons x r =>
      simp only [List.length_cons] at hfx
      have e0 : (((x :: r).length : Int) == 0) = false := by simp; omega
      have e2 : at? (x :: r) 0 = some x := rfl
      rw [e0, cond_false, decide_eq_true (show (1 : Int) ≤ ((x :: r).length : Int) by simp only [List.length_cons]; omega), Bool.and_self, cond_true, drp1_cons, decide_eq_true (show r.length ≤ 140737488355328 by omega), cond_true, e2, decide_eq_true (show (L.length + 1) * 56 ≤ 140737488355328 by omega)]
      simp only [Option.bind_some, cond_true]
      have hkeep : sgOK L.length t (x :: r) = bif x == 1 then decErr r == 0 else bif x == 2 then endR (sgN L.length r).1 == 0 && !decide ((sgN L.length r).2 < t) else false := rfl
      by_cases hx1 : x = 1
      · subst hx1
        rw [show ((1 : Int) == 1) = true from rfl, cond_true] at hkeep
        rw [show ((1 : Int) == 1) = true from rfl, show ((1 : Int) != 2) = true from rfl]
        simp only [cond_true]
        cases hde : (decErr r == 0) with
        | true =>
          rw [hde] at hkeep
          have hi := ih (j + 1) (L ++ [decR r]) t ((0, 1) :: (0, 2) :: wr) (by omega) (by simp only [List.length_append, List.length_cons, List.length_nil]; omega)
          rw [cond_true, hi]
          unfold rdRes
          have e3 : sgL L (1 :: r) = L ++ [decR r] := by simp only [sgL]; rw [hde]; rfl
          have e4 : sgT L.length t (1 :: r) = t := rfl
          simp only [sgR, rdLast, rdW, hkeep, cond_true, e3, e4]
          simp only [app_eq, List.append_assoc]
          rfl
        | false =>
          rw [hde] at hkeep
          unfold rdRes
          simp only [sgR, rdLast, rdW, hkeep, cond_false]
          rfl
      · have n1 : (x == 1) = false := by simpa using hx1
        rw [n1, cond_false] at hkeep
        rw [n1, cond_false]
        by_cases hx2 : x = 2
        · subst hx2
          rw [show ((2 : Int) == 2) = true from rfl, cond_true] at hkeep
          rw [show ((2 : Int) != 2) = false from rfl, cond_false]
          cases hde : (endR (sgN L.length r).1 == 0) with
          | false =>
            rw [hde] at hkeep
            have hkeep' : sgOK L.length t (2 :: r) = false := hkeep
            rw [bne, hde]
            unfold rdRes
            simp only [sgR, rdLast, rdW, hkeep', cond_false]
            rfl
          | true =>
            rw [hde] at hkeep
            rw [bne, hde, Bool.not_true, cond_false]
            cases hdt : decide ((sgN L.length r).2 < t) with
            | true =>
              rw [hdt] at hkeep
              have hkeep' : sgOK L.length t (2 :: r) = false := hkeep
              unfold rdRes
              simp only [sgR, rdLast, rdW, hkeep', cond_false]
              rfl
            | false =>
              rw [hdt] at hkeep
              have hkeep' : sgOK L.length t (2 :: r) = true := hkeep
              have hi := ih (j + 1) L (sgN L.length r).2 ((0, 1) :: (0, 3) :: (0, 2) :: wr) (by omega) (by omega)
              rw [cond_false, hi]
              unfold rdRes
              have e3 : sgL L (2 :: r) = L := rfl
              have e4 : sgT L.length t (2 :: r) = (sgN L.length r).2 := by simp only [sgT]; rw [hkeep']; rfl
              simp only [sgR, rdLast, rdW, hkeep', cond_true, e3, e4]
              simp only [app_eq, List.append_assoc]
              rfl
        · have n2 : (x == 2) = false := by simpa using hx2
          rw [n2, cond_false] at hkeep
          rw [bne, n2, Bool.not_false, cond_true]
          unfold rdRes
          simp only [sgR, rdLast, rdW, hkeep, cond_false]
          rfl
theorem rd9_loops : ∀ x ∈ funLoops PR n_ref09_Read, ∀ L, lfRd9 x.1 = some L → LoopOK (ntm PR n_ref09_Read) (fun fr H wr k => code PR (cfE ERd) cfgS lfRd9 (cfgS.live n_ref09_Read) x.2 (2 * x.1) fr H wr k) L := by
  refine one_loop (p := 58) rfl (by kernel_rfl) (loopT_ok (by decide) fun vs H wr ex vs' H' w hv ha hh => ?_)
  unfold rdF at hv
  split at hv
  · rename_i l i L t br S
    obtain ⟨hc, hv2⟩ := Tr.br_no hv
    clear hv
    simp only [Bool.and_eq_true, decide_eq_true_eq] at hc
    obtain ⟨h1, h2, h3⟩ := hc
    subst h1
    refine ⟨l.length + 1, fun k => ?_⟩
    have := rd9_loop l h2 br S k l.length 0 L t wr (by omega) (by omega)
    rw [List.drop_zero] at this
    unfold rdRes at this
    rcases Tr.br_or hv2 with ⟨he, h4⟩ | ⟨he, h4⟩
    · cases h4
      rw [he] at this
      exact this
    · rw [he] at this
      rcases Tr.br_or h4 with ⟨he2, h5⟩ | ⟨he2, h5⟩
      · cases h5
        rw [he2] at this
        exact this
      · cases h5
        rw [he2] at this
        exact this
  · cases hv
abbrev whV (L : List Rc) (t : Int) (br : Bool) : AV := .agg [.slice RecT L .view, .int .i64 t, .bool br]
def rd9C : List AV → Tr AV
  | [.slice .str l .view] => .br (smF l) (.yes (whV (sgR l [] 0).1 (sgR l [] 0).2.1 (sgR l [] 0).2.2)) .no
  | _ => .no
theorem rd9_ok : Con PR A n_ref09_Read (pureC rd9C) := by
  refine pureC_ok fun args v hv ha S => ?_
  unfold rd9C at hv
  split at hv
  · rename_i l
    obtain ⟨hc, hv2⟩ := Tr.br_no hv
    cases hv2
    have h : body PR (cfE ERd) cfgS lfRd9 n_ref09_Read [.slice .str l .view] S some =
      (bif decide ((0 : Int) = 0) && (smF l && true) then bif !(sgR l [] 0).2.2 then some (whV (sgR l [] 0).1 (sgR l [] 0).2.1 false, outer ((0, 0) :: app (rdW l [] 0) []), S)
        else bif decide ((rdLast l [] 0).length = 0) then some (whV (sgR l [] 0).1 (sgR l [] 0).2.1 true, outer (app (rdW l [] 0) []), S)
        else some (whV (sgR l [] 0).1 (sgR l [] 0).2.1 true, outer (app (rdW l [] 0) []), S)
      else none) := by kernel_rfl
    refine fun_call _ mixed (by kernel_rfl) (by kernel_rfl) rd9_loops (h.trans ?_)
    have e1 : outer ((0, 0) :: app (rdW l [] 0) []) = [] := by
      show outer (app (rdW l [] 0) []) = []
      rw [outer_app0 _ _ (rdW_all0 _ _ _)]; rfl
    rw [hc, outer_app0 _ _ (rdW_all0 _ _ _), e1]
    cases (sgR l [] 0).2.2 with
    | false => rfl
    | true => cases decide ((rdLast l [] 0).length = 0) <;> rfl
  · cases hv
def rd9E : Ent PR A := ⟨n_ref09_Read, _, rd9_ok⟩
end Go.Crc

/- The document's calls on segments. Conditions: none. A text of this seat's numbers. -/
set_option linter.unusedVariables false
set_option linter.unusedSimpArgs false
set_option maxRecDepth 100000
namespace Go.Crc
open Go.Vm Go.Pack Go.Rec Go.RowKit
abbrev dSg (F : List (List Int)) (y : Int) (f : Bool) (s : Int) : AV := .agg [.slice .str F .view, .int .i64 y, .bool f, .int .i64 s]
/-- the document's segment, seen as the program's. -/
def docZ (F : List (List Int)) (y : Int) (f : Bool) (s : Int) : SgS := ⟨(sgR F [] 0).1, (sgR F [] 0).2.1, s, (sgR F [] 0).2.2, catF F, ((catF (F.take y.toNat)).length : Int), f⟩
theorem apGo_mk (L : List Rc) (t s : Int) (br : Bool) (b : List Int) (nn : Int) (o : Bool) (lc c n : Int) (tg d : List Int) : apGo ⟨L, t, s, br, b, nn, o⟩ lc c n tg d = (rightR c n tg d && (!decide (lc < 0) && (!decide (lc < t) && (!decide (lc < (L.length : Int)) && (!decide (lc > (L.length : Int)) && (!br && (!decide ((L.length : Int) ≥ 512) && appOK b (1 :: encB c n tg d) o))))))) := rfl
theorem apErr_mk (L : List Rc) (t s : Int) (br : Bool) (b : List Int) (nn : Int) (o : Bool) (lc c n : Int) (tg d : List Int) : apErr ⟨L, t, s, br, b, nn, o⟩ lc c n tg d =
  bif !rightR c n tg d then 1 else bif decide (lc < 0) then 1 else bif decide (lc < t) then 0
  else bif decide (lc < (L.length : Int)) then (bif sameRc (recAt L lc) c n tg d then 0 else 1)
  else bif decide (lc > (L.length : Int)) then 91 else bif br then 90 else bif decide ((L.length : Int) ≥ 512) then 90
  else bif appOK b (1 :: encB c n tg d) o then 0 else bif o then 81 else 80 := rfl
theorem gtE_mk (L : List Rc) (t s : Int) (br : Bool) (b : List Int) (nn : Int) (o : Bool) (k : Int) : gtE ⟨L, t, s, br, b, nn, o⟩ k = bif decide (k < 0) then 91 else bif decide (k ≥ (L.length : Int)) then 91 else bif decide (k < t) then 92 else 0 := rfl
theorem gtR_mk (L : List Rc) (t s : Int) (br : Bool) (b : List Int) (nn : Int) (o : Bool) (k : Int) : gtR ⟨L, t, s, br, b, nn, o⟩ k = bif gtE ⟨L, t, s, br, b, nn, o⟩ k == 0 then recAt L k else ((0, 0), ([], [])) := rfl
theorem tmGo_mk (L : List Rc) (t s : Int) (br : Bool) (b : List Int) (nn : Int) (o : Bool) (u : Int) : tmGo ⟨L, t, s, br, b, nn, o⟩ u = (!decide (u < 0) && (!decide (u > (L.length : Int)) && (!decide (u ≤ t) && (!br && appOK b (2 :: num u) o)))) := rfl
theorem tmErr_mk (L : List Rc) (t s : Int) (br : Bool) (b : List Int) (nn : Int) (o : Bool) (u : Int) : tmErr ⟨L, t, s, br, b, nn, o⟩ u = bif decide (u < 0) then 1 else bif decide (u > (L.length : Int)) then 1 else bif decide (u ≤ t) then 0 else bif br then 90 else bif appOK b (2 :: num u) o then 0 else bif o then 81 else 80 := rfl
theorem SgInv.doc {z : SgS} {F : List (List Int)} {y : Nat} (h : SgInv z F y) : z = docZ F (y : Int) z.o z.s := by
  obtain ⟨l, t, s, br, b, n, o⟩ := z
  have h1 := h.l
  have h2 := h.t
  have h3 := h.br
  have h4 := h.st.cat
  have h5 := h.st.syn
  simp only at h1 h2 h3 h4 h5
  subst h1 h2 h3 h4 h5
  unfold docZ
  rw [Int.toNat_natCast]
theorem smallL_smF {F : List (List Int)} (h : smallL F = true) : smF F = true := by
  unfold smallL at h
  simp only [Bool.and_eq_true, decide_eq_true_eq] at h
  unfold smF
  rw [decide_eq_true h.2]
  simp only [Bool.true_and, List.all_eq_true, decide_eq_true_eq]
  intro x hx
  have := smB_mem h.1 x hx
  omega
def gF (F : List (List Int)) (y : Int) : Bool := decide (0 ≤ y) && (decide (y ≤ (F.length : Int)) && smallL F)
theorem gF_iff {F : List (List Int)} {y : Int} : gF F y = true ↔ 0 ≤ y ∧ y ≤ (F.length : Int) ∧ smallL F = true := by
  unfold gF
  simp only [Bool.and_eq_true, decide_eq_true_eq]
def ofC : List AV → Tr AV
  | [.agg [.slice .str F .view, .int .i64 y, .bool f, .int .i64 s]] => .br (smF F) (.yes (whV (sgR F [] 0).1 (sgR F [] 0).2.1 (sgR F [] 0).2.2)) .no
  | _ => .no
theorem of_ok : Con PR A n_ref09_Of (pureC ofC) := by
  refine pure_con0 (cfg := cfgS) [rd9E] mixed (by kernel_rfl) (by kernel_rfl) (by kernel_rfl) fun args v hv ha S => ?_
  unfold ofC at hv
  split at hv
  · rename_i F y f s
    obtain ⟨hc, hv2⟩ := Tr.br_no hv
    cases hv2
    have h : body PR (cfE (P := PR) (A := A) [rd9E]) cfgS lf0 n_ref09_Of [dSg F y f s] S some = (bif smF F then some (whV (sgR F [] 0).1 (sgR F [] 0).2.1 (sgR F [] 0).2.2, [], S) else none) := by kernel_rfl
    refine h.trans ?_
    rw [hc]; rfl
  · cases hv
def ofE : Ent PR A := ⟨n_ref09_Of, _, of_ok⟩
def dopC : List AV → Tr AV
  | [.agg [.slice .str F .view, .int .i64 y, .bool f]] => .br (smF F) (.yes (dSg F y f ((sgR F [] 0).1.length : Int))) .no
  | _ => .no
theorem dop_ok : Con PR A n_ref09_Open (pureC dopC) := by
  refine pure_con0 (cfg := cfgS) [rd9E] mixed (by kernel_rfl) (by kernel_rfl) (by kernel_rfl) fun args v hv ha S => ?_
  unfold dopC at hv
  split at hv
  · rename_i F y f
    obtain ⟨hc, hv2⟩ := Tr.br_no hv
    cases hv2
    have h : body PR (cfE (P := PR) (A := A) [rd9E]) cfgS lf0 n_ref09_Open [dSt F y f] S some = (bif smF F then some (dSg F y f ((sgR F [] 0).1.length : Int), [], S) else none) := by kernel_rfl
    refine h.trans ?_
    rw [hc]; rfl
  · cases hv
def dopE : Ent PR A := ⟨n_ref09_Open, _, dop_ok⟩
/-! ### add -/
def adC : List AV → Tr AV
  | [.agg [.slice .str F .view, .int .i64 y, .bool f, .int .i64 s], .str x] => .br (smallL F && decide (x.length ≤ 100000000)) (.yes (.tuple [dSg (bif appOK (catF F) x f then F ++ [x] else F) y f s, .int .i64 (bif appOK (catF F) x f then 0 else bif f then 81 else 80)])) .no
  | _ => .no
theorem ad_ok : Con PR A n_ref09_add (pureC adC) := by
  refine pure_con0 (cfg := cfgS) [dapE] mixed (by kernel_rfl) (by kernel_rfl) (by kernel_rfl) fun args v hv ha S => ?_
  unfold adC at hv
  split at hv
  · rename_i F y f s x
    obtain ⟨hc, hv2⟩ := Tr.br_no hv
    cases hv2
    have h : body PR (cfE (P := PR) (A := A) [dapE]) cfgS lf0 n_ref09_add [dSg F y f s, .str x] S some = (bif smallL F && decide (x.length ≤ 100000000) then
        bif appOK (catF F) x f then some (.tuple [dSg (F ++ [x]) y f s, .int .i64 0], [], S) else some (.tuple [dSg F y f s, .int .i64 (bif f then 81 else 80)], [], S) else none) := by kernel_rfl
    refine h.trans ?_
    rw [hc]
    cases appOK (catF F) x f <;> rfl
  · cases hv
def adE : Ent PR A := ⟨n_ref09_add, _, ad_ok⟩
/-! ### Append -/
def dAF (F : List (List Int)) (y : Int) (f : Bool) (s lc c n : Int) (t d : List Int) : List (List Int) := bif apGo (docZ F y f s) lc c n t d then F ++ [1 :: encB c n t d] else F
def dapC9 : List AV → Tr AV
  | [.agg [.slice .str F .view, .int .i64 y, .bool f, .int .i64 s], .int .i64 lc, .agg [.int .i64 c, .int .i64 n, .slice (.int .i64) t .view, .str d]] => .br (gF F y) (.yes (.tuple [dSg (dAF F y f s lc c n t d) y f s, .int .i64 (apErr (docZ F y f s) lc c n t d)])) .no
  | _ => .no
noncomputable abbrev EDap : List (Ent PR A) := [ofE, rdrE, samerE, rencE, adE]
def dapR (F : List (List Int)) (y : Int) (f : Bool) (s lc c n : Int) (t d : List Int) (S : Stack) : Option Res :=
  bif smF F then
    bif !rightR c n t d then some (.tuple [dSg F y f s, .int .i64 1], [], S) else bif decide (lc < 0) then some (.tuple [dSg F y f s, .int .i64 1], [], S)
    else bif decide (lc < ((sgR F [] 0).1.length : Int)) then
      bif decide (lc < (sgR F [] 0).2.1) then some (.tuple [dSg F y f s, .int .i64 0], [], S)
      else (at? (sgR F [] 0).1 lc).bind fun x => bif sameRc x c n t d then some (.tuple [dSg F y f s, .int .i64 0], [], S) else some (.tuple [dSg F y f s, .int .i64 1], [], S)
    else bif decide (lc > ((sgR F [] 0).1.length : Int)) then some (.tuple [dSg F y f s, .int .i64 91], [], S)
    else bif (sgR F [] 0).2.2 then some (.tuple [dSg F y f s, .int .i64 90], [], S) else bif decide (((sgR F [] 0).1.length : Int) ≥ 512) then some (.tuple [dSg F y f s, .int .i64 90], [], S)
    else bif decide (1 + (encB c n t d).length ≤ maxInt) then bif smallL F && decide (([1] ++ encB c n t d).length ≤ 100000000) then
      some (.tuple [dSg (bif appOK (catF F) ([1] ++ encB c n t d) f then F ++ [[1] ++ encB c n t d] else F) y f s, .int .i64 (bif appOK (catF F) ([1] ++ encB c n t d) f then 0 else bif f then 81 else 80)], [], S)
    else none else none
  else none
theorem dap_eq (F : List (List Int)) (y : Int) (f : Bool) (s lc c n : Int) (t d : List Int) (S : Stack) : body PR (cfE EDap) cfgS lf0 n_ref09_Append [dSg F y f s, .int .i64 lc, rec4 c n t d] S some = dapR F y f s lc c n t d S := by kernel_rfl
theorem dapR_ok {F : List (List Int)} {y : Int} (h : gF F y = true) (f : Bool) (s lc c n : Int) (t d : List Int) (S : Stack) : dapR F y f s lc c n t d S = some (.tuple [dSg (dAF F y f s lc c n t d) y f s, .int .i64 (apErr (docZ F y f s) lc c n t d)], [], S) := by
  obtain ⟨g1, g2, g3⟩ := gF_iff.1 h
  have hin := sgR_in F (L := []) (t := 0) ⟨Int.le_refl _, Int.le_refl _⟩
  unfold SgIn at hin
  have hl := encB_len c n t d
  have hsl : ([1] ++ encB c n t d : List Int) = 1 :: encB c n t d := rfl
  unfold dapR dAF docZ
  rw [apGo_mk, apErr_mk]
  rw [hsl, smallL_smF g3, g3, decide_eq_true (show 1 + (encB c n t d).length ≤ maxInt by simp only [maxInt]; omega), decide_eq_true (show (1 :: encB c n t d).length ≤ 100000000 by simp only [List.length_cons]; omega)]
  cases rightR c n t d with
  | false => rfl
  | true =>
    simp only [Bool.not_true, cond_false, Bool.true_and, cond_true]
    by_cases h1 : lc < 0
    · rw [decide_eq_true h1]; rfl
    rw [decide_eq_false h1]
    simp only [cond_false, Bool.not_false, Bool.true_and]
    by_cases h3 : lc < (sgR F [] 0).2.1
    · rw [decide_eq_true h3, decide_eq_true (show lc < ((sgR F [] 0).1.length : Int) by omega)]; rfl
    rw [decide_eq_false h3]
    simp only [cond_false, Bool.not_false, Bool.true_and]
    by_cases h2 : lc < ((sgR F [] 0).1.length : Int)
    · obtain ⟨x, hx, _⟩ := at_lt (by omega) h2
      have hra : recAt (sgR F [] 0).1 lc = x := by unfold recAt; rw [hx]
      rw [decide_eq_true h2, hra, hx]
      simp only [cond_true, Option.bind_some, Bool.not_true, Bool.false_and, cond_false]
      cases sameRc x c n t d <;> rfl
    rw [decide_eq_false h2]
    simp only [cond_false, Bool.not_false, Bool.true_and]
    cases decide (lc > ((sgR F [] 0).1.length : Int)) with
    | true => rfl
    | false =>
    simp only [cond_false, Bool.not_false, Bool.true_and]
    cases (sgR F [] 0).2.2 with
    | true => rfl
    | false =>
    simp only [cond_false, Bool.not_false, Bool.true_and]
    cases decide (((sgR F [] 0).1.length : Int) ≥ 512) with
    | true => rfl
    | false => rfl
theorem dap9_ok : Con PR A n_ref09_Append (pureC dapC9) := by
  refine pure_con0 (cfg := cfgS) EDap mixed (by kernel_rfl) (by kernel_rfl) (by kernel_rfl) fun args v hv ha S => ?_
  unfold dapC9 at hv
  split at hv
  · rename_i F y f s lc c n t d
    obtain ⟨hc, hv2⟩ := Tr.br_no hv
    cases hv2
    exact (dap_eq F y f s lc c n t d S).trans (dapR_ok hc f s lc c n t d S)
  · cases hv
def dap9E : Ent PR A := ⟨n_ref09_Append, _, dap9_ok⟩
/-! ### Get -/
def dgtC : List AV → Tr AV
  | [.agg [.slice .str F .view, .int .i64 y, .bool f, .int .i64 s], .int .i64 k] => .br (gF F y) (.yes (.tuple [recA (gtR (docZ F y f s) k), .int .i64 (gtE (docZ F y f s) k)])) .no
  | _ => .no
theorem dgt_ok : Con PR A n_ref09_Get (pureC dgtC) := by
  refine pure_con0 (cfg := cfgS) [ofE] mixed (by kernel_rfl) (by kernel_rfl) (by kernel_rfl) fun args v hv ha S => ?_
  unfold dgtC at hv
  split at hv
  · rename_i F y f s k
    obtain ⟨hc, hv2⟩ := Tr.br_no hv
    cases hv2
    obtain ⟨g1, g2, g3⟩ := gF_iff.1 hc
    have h : body PR (cfE (P := PR) (A := A) [ofE]) cfgS lf0 n_ref09_Get [dSg F y f s, .int .i64 k] S some =
      (bif smF F then bif decide (k < 0) then some (.tuple [rec4 0 0 [] [], .int .i64 91], [], S) else bif decide (k ≥ ((sgR F [] 0).1.length : Int)) then some (.tuple [rec4 0 0 [] [], .int .i64 91], [], S)
        else bif decide (k < (sgR F [] 0).2.1) then some (.tuple [rec4 0 0 [] [], .int .i64 92], [], S) else (at? (sgR F [] 0).1 k).bind fun x => some (.tuple [recA x, .int .i64 0], [], S) else none) := by kernel_rfl
    refine h.trans ?_
    unfold docZ
    rw [gtR_mk, gtE_mk]
    rw [smallL_smF g3]
    by_cases h1 : k < 0
    · rw [decide_eq_true h1]; rfl
    by_cases h2 : k ≥ ((sgR F [] 0).1.length : Int)
    · rw [decide_eq_false h1, decide_eq_true h2]; rfl
    by_cases h3 : k < (sgR F [] 0).2.1
    · rw [decide_eq_false h1, decide_eq_false h2, decide_eq_true h3]; rfl
    obtain ⟨x, hx, hx2⟩ := at_lt (by omega) (show k < ((sgR F [] 0).1.length : Int) by omega)
    have hra : recAt (sgR F [] 0).1 k = x := by unfold recAt; rw [hx]
    rw [decide_eq_false h1, decide_eq_false h2, decide_eq_false h3, hx, hra]
    rfl
  · cases hv
def dgtE : Ent PR A := ⟨n_ref09_Get, _, dgt_ok⟩
/-! ### Trim -/
def dTF (F : List (List Int)) (y : Int) (f : Bool) (s u : Int) : List (List Int) := bif tmGo (docZ F y f s) u then F ++ [2 :: num u] else F
def dtmC : List AV → Tr AV
  | [.agg [.slice .str F .view, .int .i64 y, .bool f, .int .i64 s], .int .i64 u] => .br (gF F y) (.yes (.tuple [dSg (dTF F y f s u) y f s, .int .i64 (tmErr (docZ F y f s) u)])) .no
  | _ => .no
theorem dtm_ok : Con PR A n_ref09_Trim (pureC dtmC) := by
  refine pure_con0 (cfg := cfgS) [ofE, rnumE, adE] mixed (by kernel_rfl) (by kernel_rfl) (by kernel_rfl) fun args v hv ha S => ?_
  unfold dtmC at hv
  split at hv
  · rename_i F y f s u
    obtain ⟨hc, hv2⟩ := Tr.br_no hv
    cases hv2
    obtain ⟨g1, g2, g3⟩ := gF_iff.1 hc
    have h : body PR (cfE (P := PR) (A := A) [ofE, rnumE, adE]) cfgS lf0 n_ref09_Trim [dSg F y f s, .int .i64 u] S some =
      (bif smF F then bif decide (u < 0) then some (.tuple [dSg F y f s, .int .i64 1], [], S) else bif decide (u > ((sgR F [] 0).1.length : Int)) then some (.tuple [dSg F y f s, .int .i64 1], [], S)
        else bif decide (u ≤ (sgR F [] 0).2.1) then some (.tuple [dSg F y f s, .int .i64 0], [], S)
        else bif (sgR F [] 0).2.2 then some (.tuple [dSg F y f s, .int .i64 90], [], S)
        else bif decide (1 + (numS u).length ≤ maxInt) then bif smallL F && decide (([2] ++ numS u).length ≤ 100000000) then
          some (.tuple [dSg (bif appOK (catF F) ([2] ++ numS u) f then F ++ [[2] ++ numS u] else F) y f s, .int .i64 (bif appOK (catF F) ([2] ++ numS u) f then 0 else bif f then 81 else 80)], [], S)
        else none else none else none) := by kernel_rfl
    refine h.trans ?_
    have hlen := sgR_len F [] 0
    have g3' := g3
    unfold smallL at g3'
    simp only [Bool.and_eq_true, decide_eq_true_eq] at g3'
    have hl0 : ([] : List Rc).length = 0 := rfl
    unfold dTF docZ
    rw [tmGo_mk, tmErr_mk]
    rw [smallL_smF g3, g3]
    by_cases h1 : u < 0
    · rw [decide_eq_true h1]; rfl
    by_cases h2 : u > ((sgR F [] 0).1.length : Int)
    · rw [decide_eq_false h1, decide_eq_true h2]; rfl
    have hu : numS u = num u := by
      unfold numS
      rw [okN_iff.2 ⟨by omega, by omega⟩]; rfl
    have hn := num_len u
    rw [decide_eq_false h1, decide_eq_false h2, hu, decide_eq_true (show 1 + (num u).length ≤ maxInt by simp only [maxInt]; omega), decide_eq_true (show ([2] ++ num u : List Int).length ≤ 100000000 by simp only [List.length_append, List.length_cons, List.length_nil]; omega)]
    cases decide (u ≤ (sgR F [] 0).2.1) with
    | true => rfl
    | false =>
    cases (sgR F [] 0).2.2 with
    | true => rfl
    | false => rfl
  · cases hv
def dtmE : Ent PR A := ⟨n_ref09_Trim, _, dtm_ok⟩
end Go.Crc
