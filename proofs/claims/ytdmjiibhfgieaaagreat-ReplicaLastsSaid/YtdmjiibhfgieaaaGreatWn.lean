/- Contracts of functions of this program. Conditions: none. -/
import Derived.Test.YtdmjiibhfgieaaaGreatWm
set_option linter.unusedVariables false
set_option linter.unusedSimpArgs false
/- Calls of scripts on replicas: the contract. Conditions: none. A text of this seat's numbers. -/
set_option linter.unusedVariables false
set_option linter.unusedSimpArgs false
set_option maxRecDepth 100000
namespace Go.Crc
open Go.Vm Go.Pack Go.Rec Go.RowKit
theorem dsOK_iff {z : RpS} {id t : Int} {s : List Int} {sh : List (List Int)} : dsOK z id t s sh = true ↔ goodR z = true ∧ conOK t s sh id = true ∧ rdG (rsB z) = true ∧ id = z.id ∧ t = z.te := by
  unfold dsOK
  simp only [Bool.and_eq_true, decide_eq_true_eq]
theorem cid_tk (z : RpS) (m : Msg) : cid z (tkZ z m) = tkZ z m := cid_self (tkZ_ids z m)
theorem dkeeps1 (a b c : Ob) (z z' : RpS) (r : List Ob) (S : Stack) : ∀ l i, memWr l i [(0, 4), (0, 2)] = false → ObE (getH (dfr1 a b c z' r :: S) l i) (getH (dfr1 a b c z r :: S) l i) ∨ (l = 0 ∧ headLen (dfr1 a b c z r :: S) ≤ i)
  | 0, 0, _ => .inl (copyvs_refl_ObE _)
  | 0, 1, _ => .inl (copyvs_refl_ObE _)
  | 0, 2, h => by simp [memWr, (beq_iff _ _).2 rfl] at h
  | 0, 3, _ => .inl (copyvs_refl_ObE _)
  | 0, 4, h => by simp [memWr, (beq_iff _ _).2 rfl] at h
  | 0, i + 5, _ => .inl (copyvs_refl_ObE _)
  | l + 1, i, _ => .inl (copyvs_refl_ObE _)
theorem doR1_ok (a b c : Ob) {z : RpS} (r : List Ob) (S : Stack) {id t : Int} {s : List Int} {sh : List (List Int)} {x : Op11} (h : dsOK z id t s sh = true) (h3 : (x.kd == 3) = false) : ∃ wr, subW wr [(0, 4), (0, 2)] = true ∧ doR1 a b c z r S id t s sh x = some (.tuple [.ptr 0 4 0, msgA (dsM z x), .int .i64 (dsE z x)], wr, dfr1 a b c (dsZ z x) r :: S) := by
  obtain ⟨g1, g2, g3, rfl, rfl⟩ := dsOK_iff.1 h
  unfold doR1 dsM dsE dsZ
  rw [g1, h3, cid_tk]
  cases x.kd == 0 with
  | true => exact ⟨_, rfl, rfl⟩
  | false =>
  cases x.kd == 1 with
  | true => exact ⟨_, rfl, rfl⟩
  | false =>
  cases x.kd == 2 with
  | true => exact ⟨_, rfl, rfl⟩
  | false => exact ⟨[], rfl, rfl⟩
theorem doR1_3 (a b c : Ob) {z : RpS} (r : List Ob) (S : Stack) {id t : Int} {s : List Int} {sh : List (List Int)} {x : Op11} (h : dsOK z id t s sh = true) (h3 : (x.kd == 3) = true) : doR1 a b c z r S id t s sh x = some (.tuple [.ptr 0 (lenN (dfr1 a b c z r) + 5) 0, msgA msg0, .int .i64 0], [], app (dfr1 a b c z r) (rsObs (lenN (dfr1 a b c z r) + 3) z s sh x) :: S) := by
  obtain ⟨g1, g2, g3, rfl, rfl⟩ := dsOK_iff.1 h
  obtain ⟨k1, k2, k3, k4, k5⟩ := goodR_iff.1 g1
  rw [beq_iff_eq] at h3
  unfold doR1
  rw [g2, g3, h3, decide_eq_true (show z.b.length ≤ 1000000 by omega), decide_eq_true k3, decide_eq_true k4, decide_eq_true (show (rsB z).length ≤ 65536 from nwB_le _)]
  rfl
theorem sDo1_3 (a b c : Ob) {z : RpS} (r : List Ob) (S : Stack) {id t : Int} {s : List Int} {sh : List (List Int)} {x : Op11} (h : dsOK z id t s sh = true) (h3 : (x.kd == 3) = true) : SimCall PR A n_law_Seat_does [.agg (seatC id t s sh), .ptr 0 4 0, .agg (op11C x)] (dfr1 a b c z r :: S) (.tuple [.ptr 0 (lenN (dfr1 a b c z r) + 5) 0, msgA msg0, .int .i64 0], [], app (dfr1 a b c z r) (rsObs (lenN (dfr1 a b c z r) + 3) z s sh x) :: S) :=
  fun_call _ mixed (by kernel_rfl) (by kernel_rfl) (no_loops (by kernel_rfl)) ((do_eq1 a b c z r S id t s sh x).trans (doR1_3 a b c r S h h3))
theorem sDo1_n (a b c : Ob) {z : RpS} (r : List Ob) (S : Stack) {id t : Int} {s : List Int} {sh : List (List Int)} {x : Op11} (h : dsOK z id t s sh = true) (h3 : (x.kd == 3) = false) : SimCall PR A n_law_Seat_does [.agg (seatC id t s sh), .ptr 0 4 0, .agg (op11C x)] (dfr1 a b c z r :: S) (.tuple [.ptr 0 4 0, msgA (dsM z x), .int .i64 (dsE z x)], [(0, 4), (0, 2)], dfr1 a b c (dsZ z x) r :: S) := by
  obtain ⟨wr, h1, h2⟩ := doR1_ok a b c r S h h3
  exact SimCall.wr (fun_call _ mixed (by kernel_rfl) (by kernel_rfl) (no_loops (by kernel_rfl)) ((do_eq1 a b c z r S id t s sh x).trans h2)) (subW_le h1)
theorem dkeeps2 (a b c d : Ob) (z z' : RpS) (r : List Ob) (S : Stack) : ∀ l i, memWr l i [(0, 5), (0, 3)] = false → ObE (getH (dfr2 a b c d z' r :: S) l i) (getH (dfr2 a b c d z r :: S) l i) ∨ (l = 0 ∧ headLen (dfr2 a b c d z r :: S) ≤ i)
  | 0, 0, _ => .inl (copyvs_refl_ObE _)
  | 0, 1, _ => .inl (copyvs_refl_ObE _)
  | 0, 2, _ => .inl (copyvs_refl_ObE _)
  | 0, 3, h => by simp [memWr, (beq_iff _ _).2 rfl] at h
  | 0, 4, _ => .inl (copyvs_refl_ObE _)
  | 0, 5, h => by simp [memWr, (beq_iff _ _).2 rfl] at h
  | 0, i + 6, _ => .inl (copyvs_refl_ObE _)
  | l + 1, i, _ => .inl (copyvs_refl_ObE _)
theorem doR2_ok (a b c d : Ob) {z : RpS} (r : List Ob) (S : Stack) {id t : Int} {s : List Int} {sh : List (List Int)} {x : Op11} (h : dsOK z id t s sh = true) (h3 : (x.kd == 3) = false) : ∃ wr, subW wr [(0, 5), (0, 3)] = true ∧ doR2 a b c d z r S id t s sh x = some (.tuple [.ptr 0 5 0, msgA (dsM z x), .int .i64 (dsE z x)], wr, dfr2 a b c d (dsZ z x) r :: S) := by
  obtain ⟨g1, g2, g3, rfl, rfl⟩ := dsOK_iff.1 h
  unfold doR2 dsM dsE dsZ
  rw [g1, h3, cid_tk]
  cases x.kd == 0 with
  | true => exact ⟨_, rfl, rfl⟩
  | false =>
  cases x.kd == 1 with
  | true => exact ⟨_, rfl, rfl⟩
  | false =>
  cases x.kd == 2 with
  | true => exact ⟨_, rfl, rfl⟩
  | false => exact ⟨[], rfl, rfl⟩
theorem doR2_3 (a b c d : Ob) {z : RpS} (r : List Ob) (S : Stack) {id t : Int} {s : List Int} {sh : List (List Int)} {x : Op11} (h : dsOK z id t s sh = true) (h3 : (x.kd == 3) = true) : doR2 a b c d z r S id t s sh x = some (.tuple [.ptr 0 (lenN (dfr2 a b c d z r) + 5) 0, msgA msg0, .int .i64 0], [], app (dfr2 a b c d z r) (rsObs (lenN (dfr2 a b c d z r) + 3) z s sh x) :: S) := by
  obtain ⟨g1, g2, g3, rfl, rfl⟩ := dsOK_iff.1 h
  obtain ⟨k1, k2, k3, k4, k5⟩ := goodR_iff.1 g1
  rw [beq_iff_eq] at h3
  unfold doR2
  rw [g2, g3, h3, decide_eq_true (show z.b.length ≤ 1000000 by omega), decide_eq_true k3, decide_eq_true k4, decide_eq_true (show (rsB z).length ≤ 65536 from nwB_le _)]
  rfl
theorem sDo2_3 (a b c d : Ob) {z : RpS} (r : List Ob) (S : Stack) {id t : Int} {s : List Int} {sh : List (List Int)} {x : Op11} (h : dsOK z id t s sh = true) (h3 : (x.kd == 3) = true) : SimCall PR A n_law_Seat_does [.agg (seatC id t s sh), .ptr 0 5 0, .agg (op11C x)] (dfr2 a b c d z r :: S) (.tuple [.ptr 0 (lenN (dfr2 a b c d z r) + 5) 0, msgA msg0, .int .i64 0], [], app (dfr2 a b c d z r) (rsObs (lenN (dfr2 a b c d z r) + 3) z s sh x) :: S) :=
  fun_call _ mixed (by kernel_rfl) (by kernel_rfl) (no_loops (by kernel_rfl)) ((do_eq2 a b c d z r S id t s sh x).trans (doR2_3 a b c d r S h h3))
theorem sDo2_n (a b c d : Ob) {z : RpS} (r : List Ob) (S : Stack) {id t : Int} {s : List Int} {sh : List (List Int)} {x : Op11} (h : dsOK z id t s sh = true) (h3 : (x.kd == 3) = false) : SimCall PR A n_law_Seat_does [.agg (seatC id t s sh), .ptr 0 5 0, .agg (op11C x)] (dfr2 a b c d z r :: S) (.tuple [.ptr 0 5 0, msgA (dsM z x), .int .i64 (dsE z x)], [(0, 5), (0, 3)], dfr2 a b c d (dsZ z x) r :: S) := by
  obtain ⟨wr, h1, h2⟩ := doR2_ok a b c d r S h h3
  exact SimCall.wr (fun_call _ mixed (by kernel_rfl) (by kernel_rfl) (no_loops (by kernel_rfl)) ((do_eq2 a b c d z r S id t s sh x).trans h2)) (subW_le h1)
noncomputable def sDoF1 : List AV → Stack → Tr Res
  | [.agg [.int .i64 id, .int .i64 t, .slice (.int .i64) s .view, .slice (.slice (.int .i64)) sh .view], .ptr 0 4 0, .agg oc], (a :: b :: .cells [.slice (.int .u8) bb .own, .int .i64 n, .bool o] :: c :: .cells [.int .i64 zi, .int .i64 zt, .ptr 0 2 0, .slice (.pair (.int .i64) (.pair (.int .i64) (.pair (.slice (.int .i64)) (.pair (.int .i64) (.pair (.int .i64) (.int .i64)))))) L .own, .bool se] :: r) :: S => match op11Of oc with
    | some x => .br (dsOK ⟨zi, zt, L, se, bb, n, o⟩ id t s sh) (.br (x.kd == 3) (.yes (.tuple [.ptr 0 (lenN (dfr1 a b c ⟨zi, zt, L, se, bb, n, o⟩ r) + 5) 0, msgA msg0, .int .i64 0], [], app (dfr1 a b c ⟨zi, zt, L, se, bb, n, o⟩ r) (rsObs (lenN (dfr1 a b c ⟨zi, zt, L, se, bb, n, o⟩ r) + 3) ⟨zi, zt, L, se, bb, n, o⟩ s sh x) :: S))
      (.yes (.tuple [.ptr 0 4 0, msgA (dsM ⟨zi, zt, L, se, bb, n, o⟩ x), .int .i64 (dsE ⟨zi, zt, L, se, bb, n, o⟩ x)], [(0, 4), (0, 2)], dfr1 a b c (dsZ ⟨zi, zt, L, se, bb, n, o⟩ x) r :: S))) .no
    | none => .no
  | _, _ => .no
theorem sDo_ok1 : Con PR A n_law_Seat_does (shapeC sDoF1) := by
  refine shapeC_ok fun args S res hv => ?_
  unfold sDoF1 at hv
  split at hv
  · rename_i id t s sh oc a b bb n o c zi zt L se r S
    split at hv
    · rename_i x hm
      have := op11Of_some hm
      subst this
      obtain ⟨hc, hv2⟩ := Tr.br_no hv
      clear hv
      rcases Tr.br_or hv2 with ⟨he, h4⟩ | ⟨he, h4⟩
      · cases h4
        exact ⟨fun _ _ => sDo1_3 a b c r S hc he, app_keeps (dfr1 a b c ⟨zi, zt, L, se, bb, n, o⟩ r) _ S⟩
      · cases h4
        exact ⟨fun _ _ => sDo1_n a b c r S hc he, dkeeps1 a b c ⟨zi, zt, L, se, bb, n, o⟩ _ r S⟩
    · cases hv
  · cases hv
noncomputable def sDoE1 : Ent PR A := ⟨n_law_Seat_does, _, sDo_ok1⟩
noncomputable def sDoF2 : List AV → Stack → Tr Res
  | [.agg [.int .i64 id, .int .i64 t, .slice (.int .i64) s .view, .slice (.slice (.int .i64)) sh .view], .ptr 0 5 0, .agg oc], (a :: b :: c :: .cells [.slice (.int .u8) bb .own, .int .i64 n, .bool o] :: d :: .cells [.int .i64 zi, .int .i64 zt, .ptr 0 3 0, .slice (.pair (.int .i64) (.pair (.int .i64) (.pair (.slice (.int .i64)) (.pair (.int .i64) (.pair (.int .i64) (.int .i64)))))) L .own, .bool se] :: r) :: S => match op11Of oc with
    | some x => .br (dsOK ⟨zi, zt, L, se, bb, n, o⟩ id t s sh) (.br (x.kd == 3) (.yes (.tuple [.ptr 0 (lenN (dfr2 a b c d ⟨zi, zt, L, se, bb, n, o⟩ r) + 5) 0, msgA msg0, .int .i64 0], [], app (dfr2 a b c d ⟨zi, zt, L, se, bb, n, o⟩ r) (rsObs (lenN (dfr2 a b c d ⟨zi, zt, L, se, bb, n, o⟩ r) + 3) ⟨zi, zt, L, se, bb, n, o⟩ s sh x) :: S))
      (.yes (.tuple [.ptr 0 5 0, msgA (dsM ⟨zi, zt, L, se, bb, n, o⟩ x), .int .i64 (dsE ⟨zi, zt, L, se, bb, n, o⟩ x)], [(0, 5), (0, 3)], dfr2 a b c d (dsZ ⟨zi, zt, L, se, bb, n, o⟩ x) r :: S))) .no
    | none => .no
  | _, _ => .no
theorem sDo_ok2 : Con PR A n_law_Seat_does (shapeC sDoF2) := by
  refine shapeC_ok fun args S res hv => ?_
  unfold sDoF2 at hv
  split at hv
  · rename_i id t s sh oc a b c bb n o d zi zt L se r S
    split at hv
    · rename_i x hm
      have := op11Of_some hm
      subst this
      obtain ⟨hc, hv2⟩ := Tr.br_no hv
      clear hv
      rcases Tr.br_or hv2 with ⟨he, h4⟩ | ⟨he, h4⟩
      · cases h4
        exact ⟨fun _ _ => sDo2_3 a b c d r S hc he, app_keeps (dfr2 a b c d ⟨zi, zt, L, se, bb, n, o⟩ r) _ S⟩
      · cases h4
        exact ⟨fun _ _ => sDo2_n a b c d r S hc he, dkeeps2 a b c d ⟨zi, zt, L, se, bb, n, o⟩ _ r S⟩
    · cases hv
  · cases hv
noncomputable def sDoE2 : Ent PR A := ⟨n_law_Seat_does, _, sDo_ok2⟩
end Go.Crc

/- Replicas through scripts of calls: what is kept. Conditions: none. A text of this seat's numbers. -/
set_option linter.unusedVariables false
set_option linter.unusedSimpArgs false
set_option maxRecDepth 100000
namespace Go.Crc
open Go.Vm Go.Pack Go.Rec Go.RowKit
theorem RpInv.rs {z : RpS} {F : List (List Int)} {y : Nat} (h : RpInv z F y) : RpInv (rsZ z) (F.take y) y := by
  have hc := h.st.anew
  refine ⟨hc, ?_⟩
  have hf := hc.frames
  have ht := rpR_take (L := []) (s := false) (by rw [h.rd]) y (F := F)
  have hf' : scanL (rsB z) = F.take y := hf
  unfold rsZ rdL rdS
  simp only
  rw [hf']
  exact Prod.ext rfl (Prod.ext rfl ht)
theorem RpInv.rdG {z : RpS} {F : List (List Int)} {y : Nat} (h : RpInv z F y) : rdG (rsB z) = true := by
  have hf : scanL (rsB z) = F.take y := h.st.anew.frames
  have ht := rpR_take (L := []) (s := false) (by rw [h.rd]) y (F := F)
  show (rpR (scanL (rsB z)) [] false).2.2 = true
  rw [hf]; exact ht
theorem RpInv.ok {z : RpS} {F : List (List Int)} {y : Nat} (h : RpInv z F y) {s : List Int} {sh : List (List Int)} (hc : conOK z.te s sh z.id = true) : dsOK z z.id z.te s sh = true :=
  dsOK_iff.2 ⟨h.good, hc, h.rdG, rfl, rfl⟩
theorem dsZ_ids (z : RpS) (x : Op11) : (dsZ z x).id = z.id ∧ (dsZ z x).te = z.te := by
  unfold dsZ
  cases x.kd == 0 with
  | true => exact tkZ_ids z x.m
  | false =>
  cases x.kd == 1 with
  | true => exact ⟨rfl, rfl⟩
  | false =>
  cases x.kd == 2 <;> exact ⟨rfl, rfl⟩
/-! ### All of it is synced -/
structure Syn (z : RpS) (F : List (List Int)) : Prop where
  inv : RpInv z F F.length
  on : z.o = false
theorem tlZ_o (z : RpS) (e : Int) : (tlZ z e).o = z.o := by unfold tlZ; cases e == 0 <;> rfl
theorem tkZ_o (z : RpS) (m : Msg) : (tkZ z m).o = z.o := by
  unfold tkZ
  cases mineM z m with
  | false => rfl
  | true =>
    cases m.k == 5 with
    | true => exact (tlZ_o _ _).trans (clZ_o z)
    | false =>
      cases m.k == 3 with
      | true => exact (tlZ_o _ _).trans (orZ_o z m.e)
      | false => rfl
theorem tkY_all {z : RpS} {F : List (List Int)} (h : z.o = false) (m : Msg) : tkY z F F.length m = (tkF z F m).length := by
  unfold tkY
  rw [h]
  cases hc : (mineM z m && (m.k == 5 || m.k == 3) && tkE z m == 0) with
  | true => rfl
  | false =>
    simp only [cond_false]
    unfold tkF
    unfold tkE at hc
    cases hm : mineM z m with
    | false => rfl
    | true =>
      rw [hm] at hc
      cases h5 : m.k == 5 with
      | true =>
        rw [h5] at hc
        have h3 : (m.k == 3) = false := by rw [beq_iff_eq] at h5; rw [h5]; rfl
        rw [h3]
        cases hg : clGo z with
        | true => rw [clE_go hg] at hc; cases hc
        | false => rfl
      | false =>
        cases h3 : m.k == 3 with
        | true =>
          rw [h5, h3] at hc
          cases hg : orGo z m.e with
          | true => rw [orE_go hg] at hc; cases hc
          | false => rfl
        | false => rfl
theorem Syn.tk {z : RpS} {F : List (List Int)} (h : Syn z F) (m : Msg) : Syn (tkZ z m) (tkF z F m) := by
  refine ⟨?_, (tkZ_o z m).trans h.on⟩
  have := h.inv.tk m
  rwa [tkY_all h.on] at this
theorem dcN_all (F : List (List Int)) (k : Int) : dcN F (F.length : Int) k = F.length := by
  unfold dcN
  rw [Int.toNat_natCast, List.drop_length]
  rfl
theorem Syn.cs {z : RpS} {F : List (List Int)} (h : Syn z F) (k : Int) : Syn (csR z k) F ∧ (csR z k).l = z.l ∧ (csR z k).se = z.se := by
  have := h.inv.cs k
  rw [dcN_all, List.take_of_length_le (Nat.le_refl _)] at this
  have e := this.rd
  rw [h.inv.rd] at e
  simp only [Prod.mk.injEq] at e
  exact ⟨⟨this, rfl⟩, e.1.symm, e.2.1.symm⟩
theorem Syn.rs {z : RpS} {F : List (List Int)} (h : Syn z F) : Syn (rsZ z) F ∧ (rsZ z).l = z.l ∧ (rsZ z).se = z.se := by
  have := h.inv.rs
  rw [List.take_of_length_le (Nat.le_refl _)] at this
  have e := this.rd
  rw [h.inv.rd] at e
  simp only [Prod.mk.injEq] at e
  exact ⟨⟨this, rfl⟩, e.1.symm, e.2.1.symm⟩
/-- a call of a script, the store's failing aside. -/
def scS (z : RpS) (x : Op11) : RpS := bif x.kd != 2 then (bif x.kd == 3 then rsZ z else dsZ z x) else z
theorem Syn.sc {z : RpS} {F : List (List Int)} (h : Syn z F) (x : Op11) : ∃ F', Syn (scS z x) F' := by
  unfold scS
  cases h2 : x.kd == 2 with
  | true => rw [bne, h2]; exact ⟨F, h⟩
  | false =>
    rw [bne, h2]
    cases x.kd == 3 with
    | true => exact ⟨F, h.rs.1⟩
    | false =>
      unfold dsZ
      simp only [Bool.not_false, cond_true, cond_false]
      cases x.kd == 0 with
      | true => exact ⟨_, h.tk x.m⟩
      | false =>
        cases x.kd == 1 with
        | true => exact ⟨F, (h.cs x.N).1⟩
        | false => rw [h2]; exact ⟨F, h⟩
theorem scS_ids (z : RpS) (x : Op11) : (scS z x).id = z.id ∧ (scS z x).te = z.te := by
  unfold scS
  cases x.kd != 2 with
  | false => exact ⟨rfl, rfl⟩
  | true =>
    cases x.kd == 3 with
    | true => exact ⟨rfl, rfl⟩
    | false => exact dsZ_ids z x
/-! ### Twice -/
theorem tkE_sy (z : RpS) (m : Msg) : tkE (syR z) m = tkE z m := rfl
theorem tkM_sy (z : RpS) (m : Msg) : tkM (syR z) m = tkM z m := by
  unfold tkM clZ orZ
  show (bif mineM z m then (bif m.k == 5 then tlV (bif clGo z then _ else _) 6 m.f (clE z) else bif m.k == 3 then tlV (bif orGo z m.e then _ else _) 4 m.f (orE z m.e) else msg0) else msg0) = _
  cases mineM z m <;> cases m.k == 5 <;> cases m.k == 3 <;> cases clGo z <;> cases orGo z m.e <;> cases clE z == 0 <;> cases orE z m.e == 0 <;> rfl
theorem tlZ_l (z : RpS) (e : Int) : (tlZ z e).l = z.l ∧ (tlZ z e).se = z.se := by unfold tlZ; cases e == 0 <;> exact ⟨rfl, rfl⟩
theorem tkZ_sy (z : RpS) (m : Msg) : (tkZ (syR z) m).l = (tkZ z m).l := by
  unfold tkZ
  show (bif mineM z m then (bif m.k == 5 then tlZ (clZ (syR z)) (clE z) else bif m.k == 3 then tlZ (orZ (syR z) m.e) (orE z m.e) else syR z) else syR z).l = _
  have e1 : (clZ (syR z)).l = (clZ z).l := by
    unfold clZ
    show (bif clGo z then _ else _ : RpS).l = _
    cases clGo z <;> rfl
  have e2 : (orZ (syR z) m.e).l = (orZ z m.e).l := by
    unfold orZ
    show (bif orGo z m.e then _ else _ : RpS).l = _
    cases orGo z m.e <;> rfl
  cases mineM z m with
  | false => rfl
  | true =>
    cases m.k == 5 with
    | true => simp only [cond_true, (tlZ_l _ _).1, e1]
    | false =>
      cases m.k == 3 with
      | true => simp only [cond_true, cond_false, (tlZ_l _ _).1, e2]
      | false => rfl
end Go.Crc

/- Rows of entries compared; a replica that lives. Conditions: none. A text of this seat's numbers. -/
set_option linter.unusedVariables false
set_option linter.unusedSimpArgs false
set_option maxRecDepth 100000
namespace Go.Crc
open Go.Vm Go.Pack Go.Rec Go.RowKit
/-! ### SameAll -/
theorem esame_bne (x y : En) : (!esameB x.1 x.2.1 x.2.2.1 x.2.2.2.1 x.2.2.2.2.1 x.2.2.2.2.2 y.1 y.2.1 y.2.2.1 y.2.2.2.1 y.2.2.2.2.1 y.2.2.2.2.2) = (x != y) := by
  rw [bne]
  congr 1
  rw [Bool.eq_iff_iff, esameB_iff, beq_iff_eq]
  constructor
  · rintro ⟨h1, h2, h3, h4, h5, h6⟩
    exact Prod.ext h1 (Prod.ext h2 (Prod.ext h3 (Prod.ext h4 (Prod.ext h5 h6))))
  · rintro rfl; exact ⟨rfl, rfl, rfl, rfl, rfl, rfl⟩
def saaF : List AV → Tr AV
  | [.slice (.pair (.int .i64) (.pair (.int .i64) (.pair (.slice (.int .i64)) (.pair (.int .i64) (.pair (.int .i64) (.int .i64)))))) a .view, .slice (.pair (.int .i64) (.pair (.int .i64) (.pair (.slice (.int .i64)) (.pair (.int .i64) (.pair (.int .i64) (.int .i64)))))) b .view] => .yes (.bool (a == b))
  | _ => .no
def lfSaa : Nat → Option LoopSum := lfOf [(58, loopT [0, 1, 5] [4] fun vs H => match vs, H with
  | [.slice (.pair (.int .i64) (.pair (.int .i64) (.pair (.slice (.int .i64)) (.pair (.int .i64) (.pair (.int .i64) (.int .i64)))))) a .view, .slice (.pair (.int .i64) (.pair (.int .i64) (.pair (.slice (.int .i64)) (.pair (.int .i64) (.pair (.int .i64) (.int .i64)))))) b .view, .int .i64 i], [] :: S => .br (decide (i = 0) && decide (a.length = b.length)) (.br (a == b) (.yes (.exit 0, [.undef], [] :: S, [])) (.yes (.ret, [.bool false], [] :: S, []))) .no
  | _, _ => .no)]
noncomputable abbrev LSaa (N : Nat) := LC PR (cfE (P := PR) (A := A) [esrE]) cfgRp lfSaa n_ref05_SameAll 0 58 [0, 1, 5] [4] N
theorem saa_round (a b : List En) (i : Int) (S : Stack) (wr : Wr) (N : Nat) (k : Ex → List AV → Stack → Wr → Option Res) :
    LSaa (N + 1) [.slice EnT a .view, .slice EnT b .view, .int .i64 i] ([] :: S) wr k =
      (bif decide (i < (a.length : Int)) then (at? a i).bind fun x => (at? b i).bind fun y => bif !esameB x.1 x.2.1 x.2.2.1 x.2.2.2.1 x.2.2.2.2.1 x.2.2.2.2.2 y.1 y.2.1 y.2.2.1 y.2.2.2.1 y.2.2.2.2.1 y.2.2.2.2.2 then k .ret [.bool false] ([] :: S) wr
        else LSaa N [.slice EnT a .view, .slice EnT b .view, .int .i64 (IntKind.i64.wrap (i + 1))] ([] :: S) wr k
      else k (.exit 0) [.undef] ([] :: S) wr) := by kernel_rfl
theorem saa_loops : ∀ x ∈ funLoops PR n_ref05_SameAll, ∀ L, lfSaa x.1 = some L → LoopOK (ntm PR n_ref05_SameAll) (fun fr H wr k => code PR (cfE (P := PR) (A := A) [esrE]) cfgRp lfSaa (cfgRp.live n_ref05_SameAll) x.2 (2 * x.1) fr H wr k) L := by
  refine one_loop (p := 58) rfl (by kernel_rfl) (loopT_ok (by decide) fun vs H wr ex vs' H' w hv ha hh => ?_)
  split at hv
  · rename_i a b i S
    obtain ⟨hc, hv2⟩ := Tr.br_no hv
    clear hv
    simp only [Bool.and_eq_true, decide_eq_true_eq] at hc
    obtain ⟨rfl, hl⟩ := hc
    have hmax : a.length ≤ maxInt := by simp only [okAVs, okAV] at ha; exact ha.1.1
    refine ⟨a.length + 1, fun k => ?_⟩
    have := eq_loop (F := fun N i => LSaa N [.slice EnT a .view, .slice EnT b .view, .int .i64 i] ([] :: S) wr k) (xs := a) (ys := b) (R := k .ret [.bool false] ([] :: S) wr) (E := k (.exit 0) [.undef] ([] :: S) wr) rfl hl hmax (fun N i => by
      have h := saa_round a b i S wr N k
      simp only [esame_bne] at h
      exact h) a.length 0 (by omega)
    rw [List.drop_zero, List.drop_zero] at this
    rcases Tr.br_or hv2 with ⟨he, h4⟩ | ⟨he, h4⟩
    · cases h4; rw [he] at this; exact this
    · cases h4; rw [he] at this; exact this
  · cases hv
theorem lenE_neq {a b : List En} : ((a.length : Int) != (b.length : Int)) = !decide (a.length = b.length) := by
  by_cases h : a.length = b.length
  · simp [h]
  · simp [h]; omega
theorem neE_len {a b : List En} (h : a.length ≠ b.length) : (a == b) = false := by
  rw [beq_eq_false_iff_ne]
  intro e; exact h (by rw [e])
theorem saa_ok : Con PR A n_ref05_SameAll (pureC saaF) := by
  refine pure_con (cfg := cfgRp) (lf := lfSaa) [esrE] mixed (by kernel_rfl) (by kernel_rfl) saa_loops fun args v hv ha S => ?_
  unfold saaF at hv
  split at hv
  · rename_i a b
    cases hv
    have h : body PR (cfE (P := PR) (A := A) [esrE]) cfgRp lfSaa n_ref05_SameAll [.slice EnT a .view, .slice EnT b .view] S some =
      (bif (a.length : Int) != (b.length : Int) then some (.bool false, [], S)
      else bif true && decide (a.length = b.length) then (bif a == b then some (.bool true, [], S) else some (.bool false, [], S)) else none) := by kernel_rfl
    refine h.trans ?_
    rw [lenE_neq]
    by_cases hl : a.length = b.length
    · rw [decide_eq_true hl]
      cases a == b <;> rfl
    · rw [decide_eq_false hl, neE_len hl]; rfl
  · cases hv
def saaE : Ent PR A := ⟨n_ref05_SameAll, _, saa_ok⟩
end Go.Crc

/- A replica that lives. Conditions: none. A text of this seat's numbers. -/
set_option linter.unusedVariables false
set_option linter.unusedSimpArgs false
set_option maxRecDepth 100000
namespace Go.Crc
open Go.Vm Go.Pack Go.Rec Go.RowKit
def ralF : List AV → Tr AV
  | [] => .yes (.bool true)
  | _ => .no
noncomputable def EAl : List (Ent PR A) := [rNwE, rTkE, rSeE, rLenE]
theorem ral_ok : Con PR A n_law_alive (pureC ralF) := by
  refine pure_con0 (cfg := cfgRp) EAl mixed (by kernel_rfl) (by kernel_rfl) (by kernel_rfl) fun args v hv ha S => ?_
  unfold ralF at hv
  split at hv
  · cases hv
    kernel_rfl
  · cases hv
def ralE : Ent PR A := ⟨n_law_alive, _, ral_ok⟩
end Go.Crc

/- Scripts run on replicas. Conditions: none. A text of this seat's numbers. -/
set_option linter.unusedVariables false
set_option linter.unusedSimpArgs false
set_option maxRecDepth 100000
namespace Go.Crc
open Go.Vm Go.Pack Go.Rec Go.RowKit
abbrev o11 (x : ROp) : Op11 := ⟨x.1, x.2.1, toM x.2.2.1, x.2.2.2⟩
/-! ### the law ReplicaTwice -/
abbrev twH (id t : Int) (s : List Int) (sh : List (List Int)) (mm : Msg) (z : RpS) : List Ob := [.cells (seatC id t s sh), .cells (msgC mm), coOb t s sh, stO z.b z.n z.o, coOb t s sh, rpOj 3 z.id z.te z.l z.se]
noncomputable def ETw : List (Ent PR A) := [rNwE, rfewE, sDoE2, ownE, rTkE, rEtE, rEsE, msameE, saaE, ralE]
end Go.Crc

/- Scripts run on replicas, as folds; a message twice. Conditions: none. A text of this seat's numbers. -/
set_option linter.unusedVariables false
set_option linter.unusedSimpArgs false
set_option maxRecDepth 100000
namespace Go.Crc
open Go.Vm Go.Pack Go.Rec Go.RowKit
def scZ : List ROp → RpS → RpS
  | [], z => z
  | x :: r, z => scZ r (scS z (o11 x))
def scW (w3 wn w2 : Wr) : List ROp → Wr
  | [] => []
  | x :: r => app (scW w3 wn w2 r) (bif x.1 != 2 then (bif x.1 == 3 then w3 else wn) else w2)
theorem scW_all0 {w3 wn w2 : Wr} (h3 : all0 w3 = true) (hn : all0 wn = true) (h2 : all0 w2 = true) : ∀ l, all0 (scW w3 wn w2 l) = true
  | [] => rfl
  | x :: r => by
    simp only [scW]
    refine all0_app (scW_all0 h3 hn h2 r) ?_
    cases x.1 != 2 with
    | false => exact h2
    | true => cases x.1 == 3 with
      | true => exact h3
      | false => exact hn
theorem sc_fold {F : Nat → Int → RpS → Wr → Option Res} {l : List ROp} {m : Int} {id t : Int} {s : List Int} {sh : List (List Int)} {E : RpS → Wr → Option Res} {w3 wn w2 : Wr} (hm : m = (l.length : Int)) (hl : l.length ≤ maxInt) (hc : conOK t s sh id = true)
    (h : ∀ N i z wr, F (N + 1) i z wr = bif decide (i < m) then (at? l i).bind fun x => bif x.1 != 2 then bif dsOK z id t s sh then bif x.1 == 3 then F N (IntKind.i64.wrap (i + 1)) (rsZ z) (app w3 wr) else F N (IntKind.i64.wrap (i + 1)) (dsZ z (o11 x)) (app wn wr) else none else F N (IntKind.i64.wrap (i + 1)) z (app w2 wr) else E z wr) :
    ∀ (q j : Nat) (z : RpS) (wr : Wr), j + q = l.length → (∃ F', Syn z F') → z.id = id → z.te = t → F (q + 1) (j : Int) z wr = E (scZ (l.drop j) z) (app (scW w3 wn w2 (l.drop j)) wr) := by
  intro q
  induction q with
  | zero =>
    intro j z wr hj hz hi ht
    have hd : l.drop j = [] := List.drop_of_length_le (by omega)
    rw [h, cond_ne (decide_eq_false (by omega)), hd]
    rfl
  | succ q ih =>
    intro j z wr hj hz hi ht
    have hlt : j < l.length := by omega
    have hd : l.drop j = l[j] :: l.drop (j + 1) := List.drop_eq_getElem_cons hlt
    have hx : l[j]? = some l[j] := List.getElem?_eq_getElem hlt
    obtain ⟨F', hS⟩ := hz
    have hok : dsOK z id t s sh = true := by
      subst hi; subst ht
      exact hS.inv.ok hc
    rw [h, cond_eq (decide_eq_true (by omega)), at_some hx, Option.bind_some, hok, cond_true, wrap_next hlt hl, hd]
    generalize l[j] = x at hx
    obtain ⟨k1, k2⟩ := scS_ids z (o11 x)
    have hi2 := ih (j + 1) (scS z (o11 x)) (app (bif x.1 != 2 then (bif x.1 == 3 then w3 else wn) else w2) wr) (by omega) (hS.sc (o11 x)) (k1.trans hi) (k2.trans ht)
    simp only [scZ, scW]
    have ea : ∀ (a b c : Wr), app (app a b) c = app a (app b c) := fun a b c => by simp only [app_eq, List.append_assoc]
    rw [ea, ← hi2]
    unfold scS
    cases h2 : (x.1 != 2) with
    | false => rfl
    | true => cases h3 : (x.1 == 3) <;> rfl
theorem scZ_syn : ∀ (l : List ROp) {z : RpS}, (∃ F', Syn z F') → ∃ F', Syn (scZ l z) F'
  | [], z, h => h
  | x :: r, z, ⟨F', h⟩ => scZ_syn r (h.sc (o11 x))
def zR0 (id t : Int) : RpS := ⟨id, t, [], false, [], 0, false⟩
theorem zR0_syn (id t : Int) : Syn (zR0 id t) [] := ⟨⟨⟨rfl, (fun x hx => by cases hx), Nat.zero_le _, Nat.zero_le _, rfl⟩, rfl⟩, rfl⟩
/-! ### Twice -/
theorem entBq_refl (x : En) : entBq x x = true := esameB_refl _ _ _ _ _ _
theorem tk_twice {z : RpS} (m : Msg) : tkE (tkZ z m) m = tkE z m ∧ tkM (tkZ z m) m = tkM z m ∧ (tkZ (tkZ z m) m).l = (tkZ z m).l := by
  have same : ∀ e : Int, tkZ z m = tlZ z e → tkE (tkZ z m) m = tkE z m ∧ tkM (tkZ z m) m = tkM z m ∧ (tkZ (tkZ z m) m).l = (tkZ z m).l := fun e he => by
    rw [he]
    unfold tlZ
    cases e == 0 with
    | true =>
      refine ⟨tkE_sy z m, tkM_sy z m, ?_⟩
      show (tkZ (syR z) m).l = (syR z).l
      rw [tkZ_sy, he]
      exact (tlZ_l z e).1
    | false =>
      refine ⟨rfl, rfl, ?_⟩
      show (tkZ z m).l = z.l
      rw [he]
      exact (tlZ_l z e).1
  cases hm : mineM z m with
  | false => exact same 1 (by unfold tkZ; rw [hm]; rfl)
  | true =>
  cases h5 : m.k == 5 with
  | true =>
    cases hg : clGo z with
    | false => exact same (clE z) (by unfold tkZ; rw [hm, h5, clZ_no hg]; rfl)
    | true =>
      have hE := clE_go hg
      have hz : tkZ z m = syR (clZ z) := by unfold tkZ tlZ; rw [hm, h5, hE]; rfl
      have hs : (clZ z).se = true := by unfold clZ; rw [hg]; rfl
      have hid : (clZ z).id = z.id ∧ (clZ z).te = z.te := by unfold clZ; rw [hg]; exact ⟨rfl, rfl⟩
      have hm1 : mineM (syR (clZ z)) m = true := by
        unfold mineM at hm ⊢
        show (rightM m && (m.t == (clZ z).id && m.te == (clZ z).te)) = true
        rw [hid.1, hid.2]; exact hm
      have hg1 : clGo (syR (clZ z)) = false := by
        show (!(clZ z).se && _) = false
        rw [hs]; rfl
      have hE1 : clE (syR (clZ z)) = 0 := by
        show (bif (clZ z).se then (0 : Int) else _) = 0
        rw [hs]; rfl
      rw [hz]
      refine ⟨?_, ?_, ?_⟩
      · unfold tkE; rw [hm1, hm, h5]; exact hE1.trans hE.symm
      · unfold tkM; rw [hm1, hm, h5]
        simp only [cond_true]
        rw [hE1, hE, clZ_no hg1]; rfl
      · unfold tkZ; rw [hm1, h5]
        simp only [cond_true]
        rw [clZ_no hg1, hE1]; rfl
  | false =>
  cases h3 : m.k == 3 with
  | false => exact same 1 (by unfold tkZ; rw [hm, h5, h3]; rfl)
  | true =>
    cases hg : orGo z m.e with
    | false => exact same (orE z m.e) (by unfold tkZ; rw [hm, h5, h3, orZ_no hg]; rfl)
    | true =>
      have hE := orE_go hg
      have hz : tkZ z m = syR (orZ z m.e) := by unfold tkZ tlZ; rw [hm, h5, h3, hE]; rfl
      have hl : (orZ z m.e).l = z.l ++ [m.e] := by unfold orZ; rw [hg]; rfl
      have hid : (orZ z m.e).id = z.id ∧ (orZ z m.e).te = z.te := by unfold orZ; rw [hg]; exact ⟨rfl, rfl⟩
      have hm1 : mineM (syR (orZ z m.e)) m = true := by
        unfold mineM at hm ⊢
        show (rightM m && (m.t == (orZ z m.e).id && m.te == (orZ z m.e).te)) = true
        rw [hid.1, hid.2]; exact hm
      have hn : m.e.1 = (z.l.length : Int) + 1 := by
        unfold orGo at hg
        simp only [Bool.and_eq_true, beq_iff_eq] at hg
        exact hg.2.2.1
      have hle : decide (m.e.1 ≤ ((orZ z m.e).l.length : Int)) = true := decide_eq_true (by rw [hl, List.length_append]; simp only [List.length_cons, List.length_nil]; omega)
      have hat : enAt (orZ z m.e).l (m.e.1 - 1) = m.e := by
        rw [hl, hn]
        refine enAt_some ?_
        have : (z.l ++ [m.e])[z.l.length]? = some m.e := by simp
        have h := at_some this
        rwa [show (z.l.length : Int) = (z.l.length : Int) + 1 - 1 by omega] at h
      have hg1 : orGo (syR (orZ z m.e)) m.e = false := by
        show (!decide (m.e.1 ≤ ((orZ z m.e).l.length : Int)) && _) = false
        rw [hle]; rfl
      have hE1 : orE (syR (orZ z m.e)) m.e = 0 := by
        show (bif decide (m.e.1 ≤ ((orZ z m.e).l.length : Int)) then (bif entBq (enAt (orZ z m.e).l (m.e.1 - 1)) m.e then (0 : Int) else 112) else _) = 0
        rw [hle, hat, entBq_refl]; rfl
      rw [hz]
      refine ⟨?_, ?_, ?_⟩
      · unfold tkE; rw [hm1, hm, h5, h3]; exact hE1.trans hE.symm
      · unfold tkM; rw [hm1, hm, h5, h3]
        simp only [cond_true, cond_false]
        rw [hE1, hE, orZ_no hg1]; rfl
      · unfold tkZ; rw [hm1, h5, h3]
        simp only [cond_true, cond_false]
        rw [orZ_no hg1, hE1]; rfl
end Go.Crc
