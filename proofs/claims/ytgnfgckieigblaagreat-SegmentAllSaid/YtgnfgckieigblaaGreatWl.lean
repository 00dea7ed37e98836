/- Contracts of functions of this program. Conditions: none. -/
import Derived.Test.YtgnfgckieigblaaGreatWk
set_option linter.unusedVariables false
set_option linter.unusedSimpArgs false
/- Segments: appended to, trimmed, told, synced, crashed, opened. Conditions: none. A text of this seat's numbers. -/
set_option linter.unusedVariables false
set_option linter.unusedSimpArgs false
set_option maxRecDepth 100000
namespace Go.Crc
open Go.Vm Go.Pack Go.Rec Go.RowKit
/-! ### Numbers behind bytes of one's own -/
theorem SimCall.argLe {g : FuncId} {a b : AV} {rest : List AV} {S : Stack} {res : Res} (hab : AvLe a b) (h : SimCall PR A g (b :: rest) S res) : SimCall PR A g (a :: rest) S res := by
  intro e vs w h1 h2 h3
  refine h e vs w h1 h2 ⟨by simpa using h3.1, fun i x v hx hv => ?_⟩
  cases i with
  | zero =>
    simp at hx; subst hx
    exact VR.le hab (h3.2 0 a v rfl hv)
  | succ i => exact h3.2 (i + 1) x v (by simpa using hx) hv
def pnum2F : List AV → Tr AV
  | [.slice (.int .u8) b .own, .slice (.int .i64) l .view] => .br (decide (b.length + 10 * l.length ≤ 140737488355328)) (.yes (pnumV b l)) .no
  | [.slice (.int .u8) b .mine, .slice (.int .i64) l .view] => .br (decide (b.length + 10 * l.length ≤ 140737488355328)) (.yes (pnumV b l)) .no
  | _ => .no
theorem pnum2_ok : Con PR A n_pack_Num (pureC pnum2F) := by
  have key : ∀ (b l : List Int) S, decide (b.length + 10 * l.length ≤ 140737488355328) = true → SimCall PR A n_pack_Num [.slice (.int .u8) b .own, .slice (.int .i64) l .view] S (pnumV b l, [], S) := fun b l S hc => by
    obtain ⟨res, h1, h2, h3, _⟩ := pnum_ok [.slice (.int .u8) b .own, .slice (.int .i64) l .view] S some (pnumV b l, [], S) (by
      have : pureC pnumF [.slice (.int .u8) b .own, .slice (.int .i64) l .view] S some = (bif decide (b.length + 10 * l.length ≤ 140737488355328) then some (pnumV b l, [], S) else none) := rfl
      rw [this, hc]; rfl)
    cases h2
    exact h3
  refine pureC_ok fun args v hv ha S => ?_
  unfold pnum2F at hv
  split at hv
  · obtain ⟨hl, hv2⟩ := Tr.br_no hv
    cases hv2
    exact key _ _ S hl
  · obtain ⟨hl, hv2⟩ := Tr.br_no hv
    cases hv2
    exact SimCall.argLe (.sl _ _ _ _ rfl) (key _ _ S hl)
  · cases hv
def pnum2E : Ent PR A := ⟨n_pack_Num, _, pnum2_ok⟩
/-! ### Append -/
def recAt (L : List Rc) (k : Int) : Rc := match at? L k with | some x => x | none => ((0, 0), ([], []))
def sameRc (x : Rc) (c n : Int) (t d : List Int) : Bool := sameB x.1.1 x.1.2 x.2.1 x.2.2 c n t d
def apGo (z : SgS) (lc c n : Int) (t d : List Int) : Bool := rightR c n t d && (!decide (lc < 0) && (!decide (lc < z.t) && (!decide (lc < (z.l.length : Int)) && (!decide (lc > (z.l.length : Int)) && (!z.br && (!decide ((z.l.length : Int) ≥ 512) && appOK z.b (1 :: encB c n t d) z.o))))))
def apErr (z : SgS) (lc c n : Int) (t d : List Int) : Int :=
  bif !rightR c n t d then 1 else bif decide (lc < 0) then 1 else bif decide (lc < z.t) then 0
  else bif decide (lc < (z.l.length : Int)) then (bif sameRc (recAt z.l lc) c n t d then 0 else 1)
  else bif decide (lc > (z.l.length : Int)) then 91 else bif z.br then 90 else bif decide ((z.l.length : Int) ≥ 512) then 90
  else bif appOK z.b (1 :: encB c n t d) z.o then 0 else bif z.o then 81 else 80
def apZ (z : SgS) (lc c n : Int) (t d : List Int) : SgS :=
  { z with l := bif apGo z lc c n t d then z.l ++ [((c, n), (t, d))] else z.l, b := bif apGo z lc c n t d then z.b ++ frB (1 :: encB c n t d) else z.b }
def sApF : List AV → SgS → Tr (AV × SgS)
  | [.int .i64 lc, .agg [.int .i64 c, .int .i64 n, .slice (.int .i64) t .view, .str d]], z => .br (goodS z) (.yes (.int .i64 (apErr z lc c n t d), apZ z lc c n t d)) .no
  | _, _ => .no
noncomputable abbrev EAp : List (Ent PR A) := [rrE, sameE, encE', stApE, ownRE]
def apR (L : List Rc) (t s : Int) (br : Bool) (b : List Int) (nn : Int) (o : Bool) (lc c n : Int) (tg d : List Int) : Option Res :=
  bif !rightR c n tg d then some (.int .i64 1, [], sgH ⟨L, t, s, br, b, nn, o⟩) else bif decide (lc < 0) then some (.int .i64 1, [], sgH ⟨L, t, s, br, b, nn, o⟩)
  else bif decide (lc < t) then some (.int .i64 0, [], sgH ⟨L, t, s, br, b, nn, o⟩)
  else bif decide (lc < (L.length : Int)) then (at? L lc).bind fun x => bif sameRc x c n tg d then some (.int .i64 0, [], sgH ⟨L, t, s, br, b, nn, o⟩) else some (.int .i64 1, [], sgH ⟨L, t, s, br, b, nn, o⟩)
  else bif decide (lc > (L.length : Int)) then some (.int .i64 91, [], sgH ⟨L, t, s, br, b, nn, o⟩)
  else bif br then some (.int .i64 90, [], sgH ⟨L, t, s, br, b, nn, o⟩) else bif decide ((L.length : Int) ≥ 512) then some (.int .i64 90, [], sgH ⟨L, t, s, br, b, nn, o⟩)
  else bif decide ((1 + (encB c n tg d).length) * 1 ≤ 140737488355328) then bif decide (b.length ≤ 1000000) then
    bif appOK b ([1] ++ encB c n tg d) o then
      bif decide (tg.length * 8 ≤ 140737488355328) then bif decide ((L.length + 1) * 56 ≤ 140737488355328) then some (.int .i64 0, [(1, 0), (1, 1)], sgH ⟨L ++ [((c, n), (tg, d))], t, s, br, b ++ frB ([1] ++ encB c n tg d), nn, o⟩) else none else none
    else bif (bif o then 81 else 80 : Int) == 0 then
      bif decide (tg.length * 8 ≤ 140737488355328) then bif decide ((L.length + 1) * 56 ≤ 140737488355328) then some (.int .i64 (bif o then 81 else 80), [(1, 0)], sgH ⟨L ++ [((c, n), (tg, d))], t, s, br, b, nn, o⟩) else none else none
    else some (.int .i64 (bif o then 81 else 80), [], sgH ⟨L, t, s, br, b, nn, o⟩)
  else none else none
theorem sAp_eq (L : List Rc) (t s : Int) (br : Bool) (b : List Int) (nn : Int) (o : Bool) (lc c n : Int) (tg d : List Int) : body PR (cfE EAp) cfgS lf0 n_segment_Segment_Append [.ptr 1 0 0, .int .i64 lc, rec4 c n tg d] (sgH ⟨L, t, s, br, b, nn, o⟩) some = apR L t s br b nn o lc c n tg d := by kernel_rfl
theorem at_lt {α : Type} {L : List α} {k : Int} (h0 : 0 ≤ k) (h1 : k < (L.length : Int)) : ∃ x, at? L k = some x ∧ L[k.toNat]? = some x := by
  have hlt : k.toNat < L.length := by omega
  refine ⟨L[k.toNat], ?_, List.getElem?_eq_getElem hlt⟩
  have := at_some (List.getElem?_eq_getElem hlt)
  rwa [show ((k.toNat : Nat) : Int) = k by omega] at this
theorem apR_ok {z : SgS} (hz : goodS z = true) (lc c n : Int) (tg d : List Int) : ∃ wr, subW wr [(1, 0), (1, 1)] = true ∧ apR z.l z.t z.s z.br z.b z.n z.o lc c n tg d = some (.int .i64 (apErr z lc c n tg d), wr, sgH (apZ z lc c n tg d)) := by
  obtain ⟨g1, g2, g3, g4, g5, g6, g7⟩ := goodS_iff.1 hz
  have e81 : ((bif z.o then 81 else 80 : Int) == 0) = false := by cases z.o <;> rfl
  have hsl : ([1] ++ encB c n tg d : List Int) = 1 :: encB c n tg d := rfl
  unfold apR apErr apZ apGo
  rw [hsl]
  cases hr : rightR c n tg d with
  | false => exact ⟨_, rfl, rfl⟩
  | true =>
    have ht := (rightR_iff.1 hr).2.2.1
    have hl : (encB c n tg d).length ≤ 1204 := by
      unfold encB
      rw [hr, cond_true]
      have := text_len hr
      unfold crcPut
      rw [List.length_append]
      have h4 : (le4 (crcSum (textR' c n tg d))).length = 4 := rfl
      omega
    rw [decide_eq_true (show (1 + (encB c n tg d).length) * 1 ≤ 140737488355328 by omega), decide_eq_true (show z.b.length ≤ 1000000 by omega), decide_eq_true (show tg.length * 8 ≤ 140737488355328 by omega), decide_eq_true (show (z.l.length + 1) * 56 ≤ 140737488355328 by omega), e81]
    simp only [Bool.not_true, cond_false, Bool.true_and, cond_true]
    by_cases h1 : lc < 0
    · rw [decide_eq_true h1]; exact ⟨_, rfl, rfl⟩
    rw [decide_eq_false h1]
    simp only [cond_false, Bool.not_false, Bool.true_and]
    cases decide (lc < z.t) with
    | true => exact ⟨_, rfl, rfl⟩
    | false =>
    simp only [cond_false, Bool.not_false, Bool.true_and]
    by_cases h2 : lc < (z.l.length : Int)
    · obtain ⟨x, hx, _⟩ := at_lt (by omega) h2
      have hra : recAt z.l lc = x := by unfold recAt; rw [hx]
      rw [decide_eq_true h2, hra, hx]
      simp only [cond_true, Option.bind_some, Bool.not_true, Bool.false_and, cond_false]
      cases sameRc x c n tg d with
      | true => exact ⟨_, rfl, rfl⟩
      | false => exact ⟨_, rfl, rfl⟩
    rw [decide_eq_false h2]
    simp only [cond_false, Bool.not_false, Bool.true_and]
    cases decide (lc > (z.l.length : Int)) with
    | true => exact ⟨_, rfl, rfl⟩
    | false =>
    simp only [cond_false, Bool.not_false, Bool.true_and]
    cases hbr : z.br with
    | true => exact ⟨[], rfl, by simp only [cond_true, Bool.not_true, Bool.false_and, cond_false, hbr]⟩
    | false =>
    simp only [cond_false, Bool.not_false, Bool.true_and]
    cases decide ((z.l.length : Int) ≥ 512) with
    | true => exact ⟨[], rfl, by simp only [cond_true, Bool.not_true, Bool.false_and, cond_false, hbr]⟩
    | false =>
    simp only [cond_false, Bool.not_false, Bool.true_and]
    cases appOK z.b (1 :: encB c n tg d) z.o with
    | true => exact ⟨[(1, 0), (1, 1)], rfl, by simp only [cond_true, hbr]⟩
    | false => exact ⟨[], rfl, by simp only [cond_false, hbr]⟩
theorem sAp_ok : Con PR A n_segment_Segment_Append (obj2C (sgF true true sApF)) := by
  refine obj2C_ok (sg_two fun rest z v z' hv => ?_)
  unfold sApF at hv
  split at hv
  · rename_i lc c n t d
    obtain ⟨hc, hv2⟩ := Tr.br_no hv
    cases hv2
    refine ⟨rfl, rfl, by simp, by simp, fun _ hh => ?_⟩
    obtain ⟨wr, h1, h2⟩ := apR_ok hc lc c n t d
    exact SimCall.wr (fun_call _ mixed (by kernel_rfl) (by kernel_rfl) (no_loops (by kernel_rfl)) ((sAp_eq z.l z.t z.s z.br z.b z.n z.o lc c n t d).trans h2)) (subW_le h1)
  · cases hv
def sApE : Ent PR A := ⟨n_segment_Segment_Append, _, sAp_ok⟩
/-! ### Get -/
def gtE (z : SgS) (k : Int) : Int := bif decide (k < 0) then 91 else bif decide (k ≥ (z.l.length : Int)) then 91 else bif decide (k < z.t) then 92 else 0
def gtR (z : SgS) (k : Int) : Rc := bif gtE z k == 0 then recAt z.l k else ((0, 0), ([], []))
def sGtF : List AV → SgS → Tr (AV × SgS)
  | [.int .i64 k], z => .br (goodS z) (.yes (.tuple [recA (gtR z k), .int .i64 (gtE z k)], z)) .no
  | _, _ => .no
theorem sGt_eq (z : SgS) (k : Int) : body PR (cfE (P := PR) (A := A) [ownRE]) cfgS lf0 n_segment_Segment_Get [.ptr 1 0 0, .int .i64 k] (sgH z) some =
    (bif decide (k < 0) then some (.tuple [rec4 0 0 [] [], .int .i64 91], [], sgH z) else bif decide (k ≥ (z.l.length : Int)) then some (.tuple [rec4 0 0 [] [], .int .i64 91], [], sgH z)
    else bif decide (k < z.t) then some (.tuple [rec4 0 0 [] [], .int .i64 92], [], sgH z)
    else (at? z.l k).bind fun x => bif decide (x.2.1.length * 8 ≤ 140737488355328) then some (.tuple [recA x, .int .i64 0], [], sgH z) else none) := by kernel_rfl
theorem sGt_ok : Con PR A n_segment_Segment_Get (obj2C (sgF false false sGtF)) := by
  refine obj2C_ok (sg_two fun rest z v z' hv => ?_)
  unfold sGtF at hv
  split at hv
  · rename_i k
    obtain ⟨hc, hv2⟩ := Tr.br_no hv
    cases hv2
    obtain ⟨g1, g2, g3, g4, g5, g6, g7⟩ := goodS_iff.1 hc
    refine ⟨rfl, rfl, by simp, by simp, fun _ hh => ?_⟩
    refine fun_call _ mixed (by kernel_rfl) (by kernel_rfl) (no_loops (by kernel_rfl)) ((sGt_eq z k).trans ?_)
    unfold gtR gtE
    by_cases h1 : k < 0
    · rw [decide_eq_true h1]; rfl
    by_cases h2 : k ≥ (z.l.length : Int)
    · rw [decide_eq_false h1, decide_eq_true h2]; rfl
    by_cases h3 : k < z.t
    · rw [decide_eq_false h1, decide_eq_false h2, decide_eq_true h3]; rfl
    obtain ⟨x, hx, hx2⟩ := at_lt (by omega) (show k < (z.l.length : Int) by omega)
    have hra : recAt z.l k = x := by unfold recAt; rw [hx]
    have ht := rightRc_tags (all_get g7 hx2)
    rw [decide_eq_false h1, decide_eq_false h2, decide_eq_false h3, hx, hra, cond_false, cond_false, cond_false, Option.bind_some, decide_eq_true (show x.2.1.length * 8 ≤ 140737488355328 by omega)]
    rfl
  · cases hv
def sGtE : Ent PR A := ⟨n_segment_Segment_Get, _, sGt_ok⟩
/-! ### Trim -/
def tmGo (z : SgS) (u : Int) : Bool := !decide (u < 0) && (!decide (u > (z.l.length : Int)) && (!decide (u ≤ z.t) && (!z.br && appOK z.b (2 :: num u) z.o)))
def tmErr (z : SgS) (u : Int) : Int := bif decide (u < 0) then 1 else bif decide (u > (z.l.length : Int)) then 1 else bif decide (u ≤ z.t) then 0 else bif z.br then 90 else bif appOK z.b (2 :: num u) z.o then 0 else bif z.o then 81 else 80
def tmZ (z : SgS) (u : Int) : SgS := { z with t := bif tmGo z u then u else z.t, b := bif tmGo z u then z.b ++ frB (2 :: num u) else z.b }
def sTmF : List AV → SgS → Tr (AV × SgS)
  | [.int .i64 u], z => .br (goodS z) (.yes (.int .i64 (tmErr z u), tmZ z u)) .no
  | _, _ => .no
def tmR (L : List Rc) (t s : Int) (br : Bool) (b : List Int) (nn : Int) (o : Bool) (u : Int) (bb : List Int) : Option Res :=
  bif decide (u < 0) then some (.int .i64 1, [], sgH ⟨L, t, s, br, b, nn, o⟩) else bif decide (u > (L.length : Int)) then some (.int .i64 1, [], sgH ⟨L, t, s, br, b, nn, o⟩)
  else bif decide (u ≤ t) then some (.int .i64 0, [], sgH ⟨L, t, s, br, b, nn, o⟩)
  else bif br then some (.int .i64 90, [], sgH ⟨L, t, s, br, b, nn, o⟩)
  else bif decide (b.length ≤ 1000000) then
    bif appOK b bb o then some (.int .i64 0, [(1, 0), (1, 1)], sgH ⟨L, u, s, br, b ++ frB bb, nn, o⟩)
    else bif (bif o then 81 else 80 : Int) == 0 then some (.int .i64 (bif o then 81 else 80), [(1, 0)], sgH ⟨L, u, s, br, b, nn, o⟩)
    else some (.int .i64 (bif o then 81 else 80), [], sgH ⟨L, t, s, br, b, nn, o⟩)
  else none
theorem sTm_eq (L : List Rc) (t s : Int) (br : Bool) (b : List Int) (nn : Int) (o : Bool) (u : Int) : body PR (cfE (P := PR) (A := A) [pnum2E, stApE]) cfgS lf0 n_segment_Segment_Trim [.ptr 1 0 0, .int .i64 u] (sgH ⟨L, t, s, br, b, nn, o⟩) some = tmR L t s br b nn o u (bif okAll [u] then [2] ++ nums [u] else [2]) := by kernel_rfl
theorem tmR_ok {z : SgS} (hz : goodS z = true) (u : Int) : ∃ wr, subW wr [(1, 0), (1, 1)] = true ∧ tmR z.l z.t z.s z.br z.b z.n z.o u (bif okAll [u] then [2] ++ nums [u] else [2]) = some (.int .i64 (tmErr z u), wr, sgH (tmZ z u)) := by
  obtain ⟨g1, g2, g3, g4, g5, g6, g7⟩ := goodS_iff.1 hz
  have e81 : ((bif z.o then 81 else 80 : Int) == 0) = false := by cases z.o <;> rfl
  unfold tmR tmErr tmZ tmGo
  rw [decide_eq_true (show z.b.length ≤ 1000000 by omega), e81]
  by_cases h1 : u < 0
  · rw [decide_eq_true h1]; exact ⟨_, rfl, rfl⟩
  by_cases h2 : u > (z.l.length : Int)
  · rw [decide_eq_false h1, decide_eq_true h2]; exact ⟨_, rfl, rfl⟩
  have hu : okAll [u] = true := by
    simp only [okAll, Bool.and_true]
    exact okN_iff.2 ⟨by omega, by omega⟩
  have hn : ([2] ++ nums [u] : List Int) = 2 :: num u := by simp [nums]
  rw [decide_eq_false h1, decide_eq_false h2, hu, hn]
  simp only [cond_false, cond_true, Bool.not_false, Bool.true_and]
  cases decide (u ≤ z.t) with
  | true => exact ⟨_, rfl, rfl⟩
  | false =>
  simp only [cond_false, Bool.not_false, Bool.true_and]
  cases hbr : z.br with
  | true => exact ⟨[], rfl, by simp only [cond_true, Bool.not_true, Bool.false_and, cond_false, hbr]⟩
  | false =>
  simp only [cond_false, Bool.not_false, Bool.true_and]
  cases appOK z.b (2 :: num u) z.o with
  | true => exact ⟨[(1, 0), (1, 1)], rfl, by simp only [cond_true, hbr]⟩
  | false => exact ⟨[], rfl, by simp only [cond_false, hbr]⟩
theorem sTm_ok : Con PR A n_segment_Segment_Trim (obj2C (sgF true true sTmF)) := by
  refine obj2C_ok (sg_two fun rest z v z' hv => ?_)
  unfold sTmF at hv
  split at hv
  · rename_i u
    obtain ⟨hc, hv2⟩ := Tr.br_no hv
    cases hv2
    refine ⟨rfl, rfl, by simp, by simp, fun _ hh => ?_⟩
    obtain ⟨wr, h1, h2⟩ := tmR_ok hc u
    exact SimCall.wr (fun_call _ mixed (by kernel_rfl) (by kernel_rfl) (no_loops (by kernel_rfl)) ((sTm_eq z.l z.t z.s z.br z.b z.n z.o u).trans h2)) (subW_le h1)
  · cases hv
def sTmE : Ent PR A := ⟨n_segment_Segment_Trim, _, sTm_ok⟩
/-! ### Sync -/
def syN (z : SgS) : Int := bif z.o then z.n else (z.b.length : Int)
def syZ (z : SgS) : SgS := { z with n := syN z, s := bif syN z == (z.b.length : Int) then (z.l.length : Int) else z.s }
def sSyF : List AV → SgS → Tr (AV × SgS)
  | [], z => .yes (.tuple [], syZ z)
  | _, _ => .no
theorem sSy_eq (z : SgS) : body PR (cfE (P := PR) (A := A) [stSyncE, stSynE, stLenE]) cfgS lf0 n_segment_Segment_Sync [.ptr 1 0 0] (sgH z) some =
    (bif (bif z.o then z.n else (z.b.length : Int)) == (z.b.length : Int) then some (.tuple [], [(1, 0), (1, 1)], sgH { z with n := syN z, s := (z.l.length : Int) }) else some (.tuple [], [(1, 1)], sgH { z with n := syN z })) := by kernel_rfl
theorem sSy_ok : Con PR A n_segment_Segment_Sync (obj2C (sgF true true sSyF)) := by
  refine obj2C_ok (sg_two fun rest z v z' hv => ?_)
  unfold sSyF at hv
  split at hv
  · cases hv
    refine ⟨rfl, rfl, by simp, by simp, fun _ hh => ?_⟩
    have h := sSy_eq z
    have hs : ∀ wr S', subW wr [(1, 0), (1, 1)] = true → body PR (cfE (P := PR) (A := A) [stSyncE, stSynE, stLenE]) cfgS lf0 n_segment_Segment_Sync [.ptr 1 0 0] (sgH z) some = some (.tuple [], wr, S') → SimCall PR A n_segment_Segment_Sync [.ptr 1 0 0] (sgH z) (.tuple [], [(1, 0), (1, 1)], S') := fun wr S' h1 h2 => SimCall.wr (fun_call _ mixed (by kernel_rfl) (by kernel_rfl) (no_loops (by kernel_rfl)) h2) (subW_le h1)
    cases hb : ((bif z.o then z.n else (z.b.length : Int)) == (z.b.length : Int)) with
    | true =>
      rw [hb] at h
      have e : syZ z = { z with n := syN z, s := (z.l.length : Int) } := by unfold syZ; rw [show (syN z == (z.b.length : Int)) = true from hb]; rfl
      rw [e]
      exact hs _ _ rfl h
    | false =>
      rw [hb] at h
      have e : syZ z = { z with n := syN z } := by unfold syZ; rw [show (syN z == (z.b.length : Int)) = false from hb]; rfl
      rw [e]
      exact hs _ _ rfl h
  · cases hv
def sSyE : Ent PR A := ⟨n_segment_Segment_Sync, _, sSy_ok⟩
/-! ### Crash -/
/-- a segment as its frames say. -/
def ofB (b : List Int) (n : Int) (o : Bool) : SgS := ⟨(sgR (scanL b) [] 0).1, (sgR (scanL b) [] 0).2.1, ((sgR (scanL b) [] 0).1.length : Int), (sgR (scanL b) [] 0).2.2, b, n, o⟩
def csZ (z : SgS) (k : Int) : SgS := ofB (crB z.b z.n k) (scanN (crT z.b z.n k)) false
def sCrF : List AV → SgS → Tr (AV × SgS)
  | [.int .i64 k], z => .br (goodS z) (.yes (.tuple [], csZ z k)) .no
  | _, _ => .no
theorem sCr_eq (z : SgS) (k : Int) : body PR (cfE (P := PR) (A := A) [stCr2E, sReE]) cfgS lf0 n_segment_Segment_Crash [.ptr 1 0 0, .int .i64 k] (sgH z) some =
    (bif decide (z.b.length ≤ 1000000) && (decide (0 ≤ z.n) && decide (z.n ≤ (z.b.length : Int))) then bif decide ((crB z.b z.n k).length ≤ 65536) then some (.tuple [], [(1, 0), (1, 1)], sgH (csZ z k)) else none else none) := by kernel_rfl
theorem crB_le (b : List Int) (n k : Int) : (crB b n k).length ≤ b.length := by
  unfold crB
  rw [List.length_take]
  omega
theorem sCr_ok : Con PR A n_segment_Segment_Crash (obj2C (sgF true true sCrF)) := by
  refine obj2C_ok (sg_two fun rest z v z' hv => ?_)
  unfold sCrF at hv
  split at hv
  · rename_i k
    obtain ⟨hc, hv2⟩ := Tr.br_no hv
    cases hv2
    obtain ⟨g1, g2, g3, g4, g5, g6, g7⟩ := goodS_iff.1 hc
    refine ⟨rfl, rfl, by simp, by simp, fun _ hh => ?_⟩
    refine fun_call _ mixed (by kernel_rfl) (by kernel_rfl) (no_loops (by kernel_rfl)) ((sCr_eq z k).trans ?_)
    have := crB_le z.b z.n k
    rw [decide_eq_true (show z.b.length ≤ 1000000 by omega), decide_eq_true g5, decide_eq_true g6, decide_eq_true (show (crB z.b z.n k).length ≤ 65536 by omega)]
    rfl
  · cases hv
def sCrE : Ent PR A := ⟨n_segment_Segment_Crash, _, sCr_ok⟩
/-! ### Open -/
abbrev sgO (j : Nat) (z : SgS) : Ob := .cells [.ptr 0 j 0, .slice RecT z.l .own, .int .i64 z.t, .int .i64 z.s, .bool z.br]
abbrev sgD (z : SgS) : Ob := .cells [.slice (.int .u8) z.b .own, .int .i64 z.n, .bool z.o]
def sOpF : List AV → Stack → Tr Res
  | [.ptr 0 0 0], [.cells [.slice (.int .u8) b .own, .int .i64 n, .bool o]] :: S => .br (decide (b.length ≤ 65536)) (.yes (.ptr 0 1 0, [], [.cells (stC b n o), sgO 0 (ofB b n o)] :: S)) .no
  | [.ptr 0 1 0], [x, .cells [.slice (.int .u8) b .own, .int .i64 n, .bool o]] :: S => .br (decide (b.length ≤ 65536)) (.yes (.ptr 0 2 0, [], [x, .cells (stC b n o), sgO 1 (ofB b n o)] :: S)) .no
  | _, _ => .no
theorem sOp_ok : Con PR A n_segment_Open (shapeC sOpF) := by
  refine shapeC_ok fun args S res hv => ?_
  unfold sOpF at hv
  split at hv
  · rename_i b n o S
    obtain ⟨hc, hv2⟩ := Tr.br_no hv
    cases hv2
    refine ⟨fun _ _ => ?_, app_keeps [.cells (stC b n o)] [sgO 0 (ofB b n o)] S⟩
    have h : body PR (cfE (P := PR) (A := A) [sReE]) cfgS lf0 n_segment_Open [.ptr 0 0 0] ([.cells (stC b n o)] :: S) some = (bif decide (b.length ≤ 65536) then some (.ptr 0 1 0, [], [.cells (stC b n o), sgO 0 (ofB b n o)] :: S) else none) := by kernel_rfl
    rw [hc] at h
    exact fun_call _ mixed (by kernel_rfl) (by kernel_rfl) (no_loops (by kernel_rfl)) h
  · rename_i x b n o S
    obtain ⟨hc, hv2⟩ := Tr.br_no hv
    cases hv2
    refine ⟨fun _ _ => ?_, app_keeps [x, .cells (stC b n o)] [sgO 1 (ofB b n o)] S⟩
    have h : body PR (cfE (P := PR) (A := A) [sReE]) cfgS lf0 n_segment_Open [.ptr 0 1 0] ([x, .cells (stC b n o)] :: S) some = (bif decide (b.length ≤ 65536) then some (.ptr 0 2 0, [], [x, .cells (stC b n o), sgO 1 (ofB b n o)] :: S) else none) := by kernel_rfl
    rw [hc] at h
    exact fun_call _ mixed (by kernel_rfl) (by kernel_rfl) (no_loops (by kernel_rfl)) h
  · cases hv
def sOpE : Ent PR A := ⟨n_segment_Open, _, sOp_ok⟩
end Go.Crc

/- Segments: rows of records compared, seats, calls of scripts. Conditions: none. A text of this seat's numbers. -/
set_option linter.unusedVariables false
set_option linter.unusedSimpArgs false
set_option maxRecDepth 100000
namespace Go.Crc
open Go.Vm Go.Pack Go.Rec Go.RowKit
/-! ### SameAll -/
def sallF : List AV → Tr AV
  | [.slice (.pair (.pair (.int .i64) (.int .i64)) (.pair (.slice (.int .i64)) .str)) a .view, .slice (.pair (.pair (.int .i64) (.int .i64)) (.pair (.slice (.int .i64)) .str)) b .view] => .yes (.bool (a == b))
  | _ => .no
def lfSall : Nat → Option LoopSum := lfOf [(58, loopT [0, 1, 5] [4] fun vs H => match vs, H with
  | [.slice (.pair (.pair (.int .i64) (.int .i64)) (.pair (.slice (.int .i64)) .str)) a .view, .slice (.pair (.pair (.int .i64) (.int .i64)) (.pair (.slice (.int .i64)) .str)) b .view, .int .i64 i], [] :: S => .br (decide (i = 0) && decide (a.length = b.length)) (.br (a == b) (.yes (.exit 0, [.undef], [] :: S, [])) (.yes (.ret, [.bool false], [] :: S, []))) .no
  | _, _ => .no)]
noncomputable abbrev LSall (N : Nat) := LC PR (cfE (P := PR) (A := A) [samerE]) cfgS lfSall n_ref04_SameAll 0 58 [0, 1, 5] [4] N
theorem sall_round (a b : List Rc) (i : Int) (S : Stack) (wr : Wr) (N : Nat) (k : Ex → List AV → Stack → Wr → Option Res) :
    LSall (N + 1) [.slice RecT a .view, .slice RecT b .view, .int .i64 i] ([] :: S) wr k =
      (bif decide (i < (a.length : Int)) then (at? a i).bind fun x => (at? b i).bind fun y => bif x != y then k .ret [.bool false] ([] :: S) wr
        else LSall N [.slice RecT a .view, .slice RecT b .view, .int .i64 (IntKind.i64.wrap (i + 1))] ([] :: S) wr k
      else k (.exit 0) [.undef] ([] :: S) wr) := by kernel_rfl
theorem sall_loops : ∀ x ∈ funLoops PR n_ref04_SameAll, ∀ L, lfSall x.1 = some L → LoopOK (ntm PR n_ref04_SameAll) (fun fr H wr k => code PR (cfE (P := PR) (A := A) [samerE]) cfgS lfSall (cfgS.live n_ref04_SameAll) x.2 (2 * x.1) fr H wr k) L := by
  refine one_loop (p := 58) rfl (by kernel_rfl) (loopT_ok (by decide) fun vs H wr ex vs' H' w hv ha hh => ?_)
  split at hv
  · rename_i a b i S
    obtain ⟨hc, hv2⟩ := Tr.br_no hv
    clear hv
    simp only [Bool.and_eq_true, decide_eq_true_eq] at hc
    obtain ⟨rfl, hl⟩ := hc
    have hmax : a.length ≤ maxInt := by simp only [okAVs, okAV] at ha; exact ha.1.1
    refine ⟨a.length + 1, fun k => ?_⟩
    have := eq_loop (F := fun N i => LSall N [.slice RecT a .view, .slice RecT b .view, .int .i64 i] ([] :: S) wr k) (R := k .ret [.bool false] ([] :: S) wr) (E := k (.exit 0) [.undef] ([] :: S) wr) rfl hl hmax (fun N i => sall_round a b i S wr N k) a.length 0 (by omega)
    rw [List.drop_zero, List.drop_zero] at this
    rcases Tr.br_or hv2 with ⟨he, h4⟩ | ⟨he, h4⟩
    · cases h4; rw [he] at this; exact this
    · cases h4; rw [he] at this; exact this
  · cases hv
theorem lenR_neq {a b : List Rc} : ((a.length : Int) != (b.length : Int)) = !decide (a.length = b.length) := by
  by_cases h : a.length = b.length
  · simp [h]
  · simp [h]; omega
theorem sall_ok : Con PR A n_ref04_SameAll (pureC sallF) := by
  refine pure_con (cfg := cfgS) (lf := lfSall) [samerE] mixed (by kernel_rfl) (by kernel_rfl) sall_loops fun args v hv ha S => ?_
  unfold sallF at hv
  split at hv
  · rename_i a b
    cases hv
    have h : body PR (cfE (P := PR) (A := A) [samerE]) cfgS lfSall n_ref04_SameAll [.slice RecT a .view, .slice RecT b .view] S some =
      (bif (a.length : Int) != (b.length : Int) then some (.bool false, [], S)
      else bif true && decide (a.length = b.length) then (bif a == b then some (.bool true, [], S) else some (.bool false, [], S)) else none) := by kernel_rfl
    refine h.trans ?_
    rw [lenR_neq]
    by_cases hl : a.length = b.length
    · rw [decide_eq_true hl]
      cases a == b <;> rfl
    · rw [decide_eq_false hl, ne_len hl]; rfl
  · cases hv
def sallE : Ent PR A := ⟨n_ref04_SameAll, _, sall_ok⟩
/-! ### opened -/
def opF : List AV → Stack → Tr Res
  | [.slice (.int .u8) b .view], l :: S => .yes (.tuple [.agg [.ptr 0 (lenN l + 1) 0, .ptr 0 (lenN l + 2) 0], .bool true], [], app l [.cells [.ptr 0 (lenN l + 1) 0, .ptr 0 (lenN l + 2) 0], .cells (stC (nwB b) (scanN (b.take 65536)) false), sgO (lenN l + 1) (ofB (nwB b) (scanN (b.take 65536)) false)] :: S)
  | _, _ => .no
theorem nwB_le (b : List Int) : (nwB b).length ≤ 65536 := by
  unfold nwB
  rw [List.length_take, List.length_take]
  omega
theorem op_ok : Con PR A n_law_opened (shapeC opF) := by
  refine shapeC_ok fun args S res hv => ?_
  unfold opF at hv
  split at hv
  · rename_i b l S
    cases hv
    refine ⟨fun _ _ => ?_, app_keeps l _ S⟩
    have h : body PR (cfE (P := PR) (A := A) [stNwE, sOpE]) cfgS lf0 n_law_opened [.slice (.int .u8) b .view] (l :: S) some = (bif decide ((nwB b).length ≤ 65536) then some (.tuple [.agg [.ptr 0 (lenN l + 1) 0, .ptr 0 (lenN l + 2) 0], .bool true], [], app l [.cells [.ptr 0 (lenN l + 1) 0, .ptr 0 (lenN l + 2) 0], .cells (stC (nwB b) (scanN (b.take 65536)) false), sgO (lenN l + 1) (ofB (nwB b) (scanN (b.take 65536)) false)] :: S) else none) := by kernel_rfl
    rw [decide_eq_true (nwB_le b)] at h
    exact fun_call _ mixed (by kernel_rfl) (by kernel_rfl) (no_loops (by kernel_rfl)) h
  · cases hv
def opE : Ent PR A := ⟨n_law_opened, _, op_ok⟩
/-! ### does -/
def dZ (z : SgS) (kd N c n : Int) (t d : List Int) (is : Bool) : SgS := bif kd == 0 then apZ z N c n t d else bif kd == 2 then tmZ z N else bif kd == 3 then syZ z else bif kd == 4 then csZ z N else bif kd == 5 then { z with o := is } else z
def dE (z : SgS) (kd N c n : Int) (t d : List Int) : Int := bif kd == 0 then apErr z N c n t d else bif kd == 1 then gtE z N else bif kd == 2 then tmErr z N else 0
def dR (z : SgS) (kd N : Int) : Rc := bif kd == 1 then gtR z N else ((0, 0), ([], []))
def sDoF : List AV → SgS → Tr (AV × SgS)
  | [.agg [.int .i64 kd, .int .i64 N, .int .i64 c, .int .i64 n, .slice (.int .i64) t .view, .str d, .bool is]], z => .br (goodS z) (.yes (.tuple [recA (dR z kd N), .int .i64 (dE z kd N c n t d)], dZ z kd N c n t d is)) .no
  | _, _ => .no
noncomputable abbrev EDo : List (Ent PR A) := [sApE, sGtE, sTmE, sSyE, sCrE, stOffE]
abbrev sopV (kd N c n : Int) (t d : List Int) (is : Bool) : AV := .agg [.int .i64 kd, .int .i64 N, .int .i64 c, .int .i64 n, .slice (.int .i64) t .view, .str d, .bool is]
def sDoR (z : SgS) (kd N c n : Int) (t d : List Int) (is : Bool) : Option Res :=
  bif kd == 0 then bif goodS z then some (.tuple [rec4 0 0 [] [], .int .i64 (apErr z N c n t d)], [(1, 0), (1, 1)], sgH (apZ z N c n t d)) else none
  else bif kd == 1 then bif goodS z then some (.tuple [recA (gtR z N), .int .i64 (gtE z N)], [], sgH z) else none
  else bif kd == 2 then bif goodS z then some (.tuple [rec4 0 0 [] [], .int .i64 (tmErr z N)], [(1, 0), (1, 1)], sgH (tmZ z N)) else none
  else bif kd == 3 then some (.tuple [rec4 0 0 [] [], .int .i64 0], [(1, 0), (1, 1)], sgH (syZ z))
  else bif kd == 4 then bif goodS z then some (.tuple [rec4 0 0 [] [], .int .i64 0], [(1, 0), (1, 1)], sgH (csZ z N)) else none
  else bif kd == 5 then some (.tuple [rec4 0 0 [] [], .int .i64 0], [(1, 1)], sgH { z with o := is })
  else some (.tuple [rec4 0 0 [] [], .int .i64 0], [], sgH z)
theorem sDo_eq (z : SgS) (kd N c n : Int) (t d : List Int) (is : Bool) : body PR (cfE EDo) cfgS lf0 n_law_seat_does [.agg [.ptr 1 1 0, .ptr 1 0 0], sopV kd N c n t d is] (sgH z) some = sDoR z kd N c n t d is := by kernel_rfl
theorem ne_beqI {a c : Int} (h : a ≠ c) : (a == c) = false := by simpa using h
theorem sDoR_ok {z : SgS} (hz : goodS z = true) (kd N c n : Int) (t d : List Int) (is : Bool) : ∃ wr, subW wr [(1, 0), (1, 1)] = true ∧ sDoR z kd N c n t d is = some (.tuple [recA (dR z kd N), .int .i64 (dE z kd N c n t d)], wr, sgH (dZ z kd N c n t d is)) := by
  unfold sDoR
  rw [hz]
  by_cases e0 : kd = 0
  · subst e0; exact ⟨_, rfl, rfl⟩
  by_cases e1 : kd = 1
  · subst e1; exact ⟨[], rfl, rfl⟩
  by_cases e2 : kd = 2
  · subst e2; exact ⟨_, rfl, rfl⟩
  by_cases e3 : kd = 3
  · subst e3; exact ⟨_, rfl, rfl⟩
  by_cases e4 : kd = 4
  · subst e4; exact ⟨_, rfl, rfl⟩
  by_cases e5 : kd = 5
  · subst e5; exact ⟨[(1, 1)], rfl, rfl⟩
  unfold dR dE dZ
  rw [ne_beqI e0, ne_beqI e1, ne_beqI e2, ne_beqI e3, ne_beqI e4, ne_beqI e5]
  exact ⟨[], rfl, rfl⟩
theorem sDo_ok : Con PR A n_law_seat_does (pair2C (sgF true true sDoF)) := by
  refine pair2C_ok (sg_two fun rest z v z' hv => ?_)
  unfold sDoF at hv
  split at hv
  · rename_i kd N c n t d is
    obtain ⟨hc, hv2⟩ := Tr.br_no hv
    cases hv2
    refine ⟨rfl, rfl, by simp, by simp, fun _ hh => ?_⟩
    obtain ⟨wr, h1, h2⟩ := sDoR_ok hc kd N c n t d is
    exact SimCall.wr (fun_call _ mixed (by kernel_rfl) (by kernel_rfl) (no_loops (by kernel_rfl)) ((sDo_eq z kd N c n t d is).trans h2)) (subW_le h1)
  · cases hv
def sDoE : Ent PR A := ⟨n_law_seat_does, _, sDo_ok⟩
/-! ### few -/
abbrev SOpT : Ty := .pair (.int .i64) (.pair (.int .i64) (.pair RecT .bool))
abbrev SOp := Int × Int × Rc × Bool
def sfewN : List SOp → Int → Int
  | [], n => n
  | x :: r, n => sfewN r (IntKind.i64.wrap (n + IntKind.i64.wrap (IntKind.i64.wrap ((x.2.2.1.2.2.length : Int) + (x.2.2.1.2.1.length : Int)) + 10)))
def sfewF (vs : List AV) (H : Stack) : Tr (Ex × List AV × Stack × Wr) := match vs, H with
  | [.slice (.pair (.int .i64) (.pair (.int .i64) (.pair (.pair (.pair (.int .i64) (.int .i64)) (.pair (.slice (.int .i64)) .str)) .bool))) l .view, .int .i64 n, .slice (.pair (.int .i64) (.pair (.int .i64) (.pair (.pair (.pair (.int .i64) (.int .i64)) (.pair (.slice (.int .i64)) .str)) .bool))) l2 .view, .int .i64 m, .int .i64 i], [] :: S =>
    .br (decide (m = l2.length) && decide (i = 0)) (.yes (.exit 0, [.slice SOpT l .view, .int .i64 (sfewN l2 n)], [] :: S, repApp l2.length [(0, 0)])) .no
  | _, _ => .no
def lfSfw : Nat → Option LoopSum := lfOf [(58, loopT [0, 3, 6, 7, 8] [0, 3] sfewF)]
noncomputable abbrev LSfw (N : Nat) := LC PR (cfE (P := PR) (A := A) []) cfgS lfSfw n_law_few 0 58 [0, 3, 6, 7, 8] [0, 3] N
theorem sfew_round (l l2 : List SOp) (n m i : Int) (S : Stack) (wr : Wr) (N : Nat) (k : Ex → List AV → Stack → Wr → Option Res) :
    LSfw (N + 1) [.slice SOpT l .view, .int .i64 n, .slice SOpT l2 .view, .int .i64 m, .int .i64 i] ([] :: S) wr k =
      (bif decide (i < m) then (at? l2 i).bind fun x => LSfw N [.slice SOpT l .view, .int .i64 (IntKind.i64.wrap (n + IntKind.i64.wrap (IntKind.i64.wrap ((x.2.2.1.2.2.length : Int) + (x.2.2.1.2.1.length : Int)) + 10))), .slice SOpT l2 .view, .int .i64 m, .int .i64 (IntKind.i64.wrap (i + 1))] ([] :: S) ((0, 0) :: wr) k
      else k (.exit 0) [.slice SOpT l .view, .int .i64 n] ([] :: S) wr) := by kernel_rfl
theorem sfew_fold (E : Int × Wr → Option Res) : ∀ (r : List SOp) (j : Nat) (n : Int) (wr : Wr), foldK (fun _ x s k => k (IntKind.i64.wrap (s.1 + IntKind.i64.wrap (IntKind.i64.wrap ((x.2.2.1.2.2.length : Int) + (x.2.2.1.2.1.length : Int)) + 10)), (0, 0) :: s.2)) E j r (n, wr) = E (sfewN r n, app (repApp r.length [(0, 0)]) wr)
  | [], j, n, wr => by simp [foldK, sfewN, repApp, app]
  | x :: r, j, n, wr => by
    have hi := sfew_fold E r (j + 1) (IntKind.i64.wrap (n + IntKind.i64.wrap (IntKind.i64.wrap ((x.2.2.1.2.2.length : Int) + (x.2.2.1.2.1.length : Int)) + 10))) ((0, 0) :: wr)
    simp only [foldK, sfewN, List.length_cons, rep_more]
    exact hi
theorem sfew_loops : ∀ x ∈ funLoops PR n_law_few, ∀ L, lfSfw x.1 = some L → LoopOK (ntm PR n_law_few) (fun fr H wr k => code PR (cfE (P := PR) (A := A) []) cfgS lfSfw (cfgS.live n_law_few) x.2 (2 * x.1) fr H wr k) L := by
  refine one_loop (p := 58) rfl (by kernel_rfl) (loopT_ok (by decide) fun vs H wr ex vs' H' w hv ha hh => ?_)
  unfold sfewF at hv
  split at hv
  · rename_i l n l2 m i S
    obtain ⟨hc, hv2⟩ := Tr.br_no hv
    cases hv2
    simp only [Bool.and_eq_true, decide_eq_true_eq] at hc
    obtain ⟨h1, h2⟩ := hc
    subst h2
    simp only [okAVs, okAV] at ha
    have hl : l2.length ≤ maxInt := ha.2.2.1.1
    refine ⟨l2.length + 1, fun k => ?_⟩
    have := fold_loop (F := fun N i s => LSfw N [.slice SOpT l .view, .int .i64 s.1, .slice SOpT l2 .view, .int .i64 m, .int .i64 i] ([] :: S) s.2 k) (xs := l2) (m := m) (step := fun _ x s k => k (IntKind.i64.wrap (s.1 + IntKind.i64.wrap (IntKind.i64.wrap ((x.2.2.1.2.2.length : Int) + (x.2.2.1.2.1.length : Int)) + 10)), (0, 0) :: s.2)) (E := fun s => k (.exit 0) [.slice SOpT l .view, .int .i64 s.1] ([] :: S) s.2) h1 hl (fun N i s => sfew_round l l2 s.1 m i S s.2 N k) l2.length 0 (n, wr) (by omega)
    rw [List.drop_zero, sfew_fold] at this
    exact this
  · cases hv
def sfewV (l : List SOp) : Bool := decide (((l.length : Nat) : Int) ≤ 60) && decide (sfewN l 0 ≤ 10000)
def sfewC : List AV → Tr AV
  | [.slice (.pair (.int .i64) (.pair (.int .i64) (.pair (.pair (.pair (.int .i64) (.int .i64)) (.pair (.slice (.int .i64)) .str)) .bool))) l .view] => .yes (.bool (sfewV l))
  | _ => .no
theorem sfew_ok : Con PR A n_law_few (pureC sfewC) := by
  refine pureC_ok fun args v hv ha S => ?_
  unfold sfewC at hv
  split at hv
  · rename_i l
    cases hv
    have h : body PR (cfE (P := PR) (A := A) []) cfgS lfSfw n_law_few [.slice SOpT l .view] S some = (bif decide (((l.length : Nat) : Int) = (l.length : Int)) && decide ((0 : Int) = 0) then bif decide (((l.length : Nat) : Int) ≤ 60) then some (.bool (decide (sfewN l 0 ≤ 10000)), outer (app (repApp l.length [(0, 0)]) []), S) else some (.bool false, outer (app (repApp l.length [(0, 0)]) []), S) else none) := by kernel_rfl
    rw [outer_app0 _ _ (all0_rep rfl _)] at h
    refine fun_call _ mixed (by kernel_rfl) (by kernel_rfl) sfew_loops (h.trans ?_)
    unfold sfewV
    rw [decide_eq_true (rfl : ((l.length : Nat) : Int) = (l.length : Int)), decide_eq_true (rfl : (0 : Int) = 0)]
    cases decide (((l.length : Nat) : Int) ≤ 60) <;> rfl
  · cases hv
def sfewE : Ent PR A := ⟨n_law_few, _, sfew_ok⟩
end Go.Crc
