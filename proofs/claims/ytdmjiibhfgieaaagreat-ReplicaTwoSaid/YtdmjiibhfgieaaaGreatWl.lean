/- Contracts of functions of this program. Conditions: none. -/
import Derived.Test.YtdmjiibhfgieaaaGreatWk
import Derived.Test.YtdmjiibhfgieaaaGreatWi
set_option linter.unusedVariables false
set_option linter.unusedSimpArgs false
/- Replicas: an entry ordered. Conditions: none. A text of this seat's numbers. -/
set_option linter.unusedVariables false
set_option linter.unusedSimpArgs false
set_option maxRecDepth 100000
namespace Go.Crc
open Go.Vm Go.Pack Go.Rec Go.RowKit
theorem at_lt {α : Type} {L : List α} {k : Int} (h0 : 0 ≤ k) (h1 : k < (L.length : Int)) : ∃ x, at? L k = some x ∧ L[k.toNat]? = some x := by
  have hlt : k.toNat < L.length := by omega
  refine ⟨L[k.toNat], ?_, List.getElem?_eq_getElem hlt⟩
  have := at_some (List.getElem?_eq_getElem hlt)
  rwa [show ((k.toNat : Nat) : Int) = k by omega] at this
noncomputable abbrev EOr : List (Ent PR A) := [esE, rFoE, eencE, stApE, cliE]
def orAdd (z : RpS) (n k : Int) (v : List Int) (t te p : Int) (b : List Int) (e : Int) (wr : Wr) : Option Res :=
  bif decide (v.length * 8 ≤ 140737488355328) then bif decide ((z.l.length + 1) * 64 ≤ 140737488355328) then some (.int .i64 e, wr, rpH { z with l := z.l ++ [(n, k, v, t, te, p)], b := b }) else none else none
def orT (z : RpS) (n k : Int) (v : List Int) (t te p : Int) : Option Res :=
  bif decide (n ≤ (z.l.length : Int)) then (at? z.l (IntKind.i64.wrap (n - 1))).bind fun y => bif entBq y (n, k, v, t, te, p) then some (.int .i64 0, [], rpH z) else some (.int .i64 112, [], rpH z)
  else bif z.se then some (.int .i64 110, [], rpH z) else bif n != IntKind.i64.wrap ((z.l.length : Int) + 1) then some (.int .i64 111, [], rpH z)
  else bif decide (z.l.length ≤ 100000) then
    bif !(((chP 0 [] (z.l ++ [(n, k, v, t, te, p)]) : Nat) : Int) == ((z.l.length + 1 : Nat) : Int)) then some (.int .i64 112, [], rpH z)
    else bif decide (z.b.length ≤ 1000000) then
      bif appOK z.b (entB n k v t te p) z.o then orAdd z n k v t te p (z.b ++ frB (entB n k v t te p)) 0 [(1, 0), (1, 1)]
      else bif (bif z.o then 81 else 80 : Int) == 0 then orAdd z n k v t te p z.b (bif z.o then 81 else 80) [(1, 0)]
      else some (.int .i64 (bif z.o then 81 else 80), [], rpH z)
    else none
  else none
theorem rOr_eq (z : RpS) (n k : Int) (v : List Int) (t te p : Int) : body PR (cfE EOr) cfgRp lf0 n_replica_Replica_order [.ptr 1 0 0, entA n k v t te p] (rpH z) some = orT z n k v t te p := by kernel_rfl
theorem en_cut {x : En} (h : enR x = true) : x.2.2.1.length ≤ 8 := by
  by_cases hk : x.2.1 = 1
  · obtain ⟨_, hv, _⟩ := entR_one h hk
    exact (vecR_pos hv).2
  · obtain ⟨_, _, hv, _⟩ := entR_two h hk
    rw [hv]; exact Nat.zero_le _
theorem en_num {x : En} (h : enR x = true) : 1 ≤ x.1 ∧ x.1 ≤ 1099511627776 := (entR_n h).1
theorem enAt_some {L : List En} {k : Int} {y : En} (h : at? L k = some y) : enAt L k = y := by unfold enAt; rw [h]
theorem orT_ok {z : RpS} (hz : goodR z = true) {x : En} (hx : enR x = true) : ∃ wr, subW wr [(1, 0), (1, 1)] = true ∧ orT z x.1 x.2.1 x.2.2.1 x.2.2.2.1 x.2.2.2.2.1 x.2.2.2.2.2 = some (.int .i64 (orE z x), wr, rpH (orZ z x)) := by
  obtain ⟨g1, g2, g3, g4, g5⟩ := goodR_iff.1 hz
  obtain ⟨n1, n2⟩ := en_num hx
  have hc := en_cut hx
  have e81 : ((bif z.o then 81 else 80 : Int) == 0) = false := by cases z.o <;> rfl
  have w1 : IntKind.i64.wrap ((z.l.length : Int) + 1) = (z.l.length : Int) + 1 := by rw [wrap_i64 (by omega) (by omega)]
  have w2 : IntKind.i64.wrap (x.1 - 1) = x.1 - 1 := by rw [wrap_i64 (by omega) (by omega)]
  have hf := ch_next (x := x) g5
  have hen : entB x.1 x.2.1 x.2.2.1 x.2.2.2.1 x.2.2.2.2.1 x.2.2.2.2.2 = entEn x := rfl
  have hxx : ((x.1, x.2.1, x.2.2.1, x.2.2.2.1, x.2.2.2.2.1, x.2.2.2.2.2) : En) = x := rfl
  unfold orT orAdd
  rw [hxx, hf, w1, w2, e81, hen, decide_eq_true (show z.l.length ≤ 100000 by omega), decide_eq_true (show z.b.length ≤ 1000000 by omega), decide_eq_true (show x.2.2.1.length * 8 ≤ 140737488355328 by omega), decide_eq_true (show (z.l.length + 1) * 64 ≤ 140737488355328 by omega)]
  unfold orE orZ orGo
  by_cases h1 : x.1 ≤ (z.l.length : Int)
  · obtain ⟨y, hy, _⟩ := at_lt (L := z.l) (k := x.1 - 1) (by omega) (by omega)
    rw [decide_eq_true h1, hy, enAt_some hy]
    simp only [cond_true, Option.bind_some, Bool.not_true, Bool.false_and, cond_false]
    cases entBq y x with
    | true => exact ⟨[], rfl, rfl⟩
    | false => exact ⟨[], rfl, rfl⟩
  rw [decide_eq_false h1]
  simp only [cond_false, Bool.not_false, Bool.true_and]
  cases hse : z.se with
  | true => exact ⟨[], rfl, rfl⟩
  | false =>
  simp only [cond_false, Bool.not_false, Bool.true_and]
  rw [bne]
  cases x.1 == (z.l.length : Int) + 1 with
  | false => exact ⟨[], rfl, rfl⟩
  | true =>
  simp only [cond_false, Bool.not_true, Bool.true_and]
  cases folB z.l x with
  | false => exact ⟨[], rfl, rfl⟩
  | true =>
  simp only [cond_false, cond_true, Bool.not_true, Bool.true_and]
  cases appOK z.b (entEn x) z.o with
  | true => exact ⟨_, rfl, rfl⟩
  | false => exact ⟨[], rfl, rfl⟩
def rOrF : List AV → RpS → Tr (AV × RpS)
  | [.agg [.int .i64 n, .int .i64 k, .slice (.int .i64) v .view, .int .i64 t, .int .i64 te, .int .i64 p]], z => .br (goodR z && enR (n, k, v, t, te, p)) (.yes (.int .i64 (orE z (n, k, v, t, te, p)), orZ z (n, k, v, t, te, p))) .no
  | _, _ => .no
theorem rOr_ok : Con PR A n_replica_Replica_order (obj2C (rpF true true rOrF)) := by
  refine obj2C_ok (rp_two fun rest z v z' hv => ?_)
  unfold rOrF at hv
  split at hv
  · rename_i n k v t te p
    obtain ⟨hc, hv2⟩ := Tr.br_no hv
    cases hv2
    rw [Bool.and_eq_true] at hc
    refine ⟨rfl, rfl, by simp, by simp, fun _ hh => ?_⟩
    obtain ⟨wr, h1, h2⟩ := orT_ok hc.1 hc.2
    have hid : ({ orZ z (n, k, v, t, te, p) with id := z.id, te := z.te } : RpS) = orZ z (n, k, v, t, te, p) := by unfold orZ; cases orGo z (n, k, v, t, te, p) <;> rfl
    rw [hid]
    exact SimCall.wr (fun_call _ mixed (by kernel_rfl) (by kernel_rfl) (no_loops (by kernel_rfl)) ((rOr_eq z n k v t te p).trans h2)) (subW_le h1)
  · cases hv
def rOrE : Ent PR A := ⟨n_replica_Replica_order, _, rOr_ok⟩
end Go.Crc
/- Replicas: a message taken. Conditions: none. A text of this seat's numbers. -/
set_option linter.unusedVariables false
set_option linter.unusedSimpArgs false
set_option maxRecDepth 100000
namespace Go.Crc
open Go.Vm Go.Pack Go.Rec Go.RowKit
abbrev tkH (z : RpS) (m : Msg) (x : Ob) : Stack := [[.cells [.ptr 2 0 0], .cells (msgC m), x], [], [rpO z.id z.te z.l z.se, stO z.b z.n z.o]]
theorem keeps21 (F : List Ob) (r s s' : Ob) : ∀ l i, memWr l i [(2, 1)] = false → ObE (getH [F, [], [r, s']] l i) (getH [F, [], [r, s]] l i) ∨ (l = 0 ∧ headLen [F, [], [r, s]] ≤ i)
  | 0, i, _ => .inl (copyvs_refl_ObE _)
  | 1, i, _ => .inl (copyvs_refl_ObE _)
  | 2, 0, _ => .inl (copyvs_refl_ObE _)
  | 2, 1, h => by simp [memWr, (beq_iff _ _).2 rfl] at h
  | 2, i + 2, _ => .inl (copyvs_refl_ObE _)
  | l + 3, i, _ => .inl (copyvs_refl_ObE _)
def tlF : List AV → Stack → Tr Res
  | [.int .i64 kd, .int .i64 e, .ptr 0 0 0, .ptr 0 1 0], [[.cells [.ptr 2 0 0], .cells mc, x], [], [.cells [.int .i64 id, .int .i64 te, .ptr 0 1 0, .slice (.pair (.int .i64) (.pair (.int .i64) (.pair (.slice (.int .i64)) (.pair (.int .i64) (.pair (.int .i64) (.int .i64)))))) L .own, .bool se], .cells [.slice (.int .u8) b .own, .int .i64 n, .bool o]]] =>
    match msgOf mc with
    | some m => .br (e == 0) (.yes (.tuple [msgA (tlM ⟨id, te, L, se, b, n, o⟩ kd m.f), .int .i64 0], [(2, 1)], tkH (syR ⟨id, te, L, se, b, n, o⟩) m x))
        (.yes (.tuple [msgA msg0, .int .i64 e], [], tkH ⟨id, te, L, se, b, n, o⟩ m x))
    | none => .no
  | _, _ => .no
theorem tl_eq (z : RpS) (m : Msg) (kd e : Int) (x : Ob) : body PR (cfE [stSyncE]) cfgRp lf0 n_replica_Replica_Take_1 [.int .i64 kd, .int .i64 e, .ptr 0 0 0, .ptr 0 1 0] (tkH z m x) some =
    (bif e != 0 then some (.tuple [msgA msg0, .int .i64 e], [], tkH z m x) else some (.tuple [msgA (tlM z kd m.f), .int .i64 0], [(2, 1)], tkH (syR z) m x)) := by kernel_rfl
theorem tl_ok : Con PR A n_replica_Replica_Take_1 (shapeC tlF) := by
  refine shapeC_ok fun args S res hv => ?_
  unfold tlF at hv
  split at hv
  · rename_i kd e mc x id te L se b n o
    split at hv
    · rename_i m hm
      have := msgOf_some hm
      subst this
      have h := tl_eq ⟨id, te, L, se, b, n, o⟩ m kd e x
      rcases Tr.br_or hv with ⟨he, h4⟩ | ⟨he, h4⟩
      · cases h4
        rw [bne, he] at h
        exact ⟨fun _ _ => fun_call _ mixed (by kernel_rfl) (by kernel_rfl) (no_loops (by kernel_rfl)) h, keeps21 _ _ _ _⟩
      · cases h4
        rw [bne, he] at h
        exact ⟨fun _ _ => fun_call _ mixed (by kernel_rfl) (by kernel_rfl) (no_loops (by kernel_rfl)) h, fun l i _ => .inl (copyvs_refl_ObE _)⟩
    · cases hv
  · cases hv
def tlE : Ent PR A := ⟨n_replica_Replica_Take_1, _, tl_ok⟩
abbrev cid (z y : RpS) : RpS := { y with id := z.id, te := z.te }
theorem cid_cl (z : RpS) : cid z (clZ z) = clZ z := by unfold clZ; cases clGo z <;> rfl
theorem cid_or (z : RpS) (x : En) : cid z (orZ z x) = orZ z x := by unfold orZ; cases orGo z x <;> rfl
noncomputable abbrev ETk : List (Ent PR A) := [mrightE, rClE, rOrE, tlE]
def tkNo (z : RpS) : Option Res := some (.tuple [msgA msg0, .int .i64 1], [], rpH z)
def tkEnd (y : RpS) (kd f e : Int) : Option Res :=
  bif e == 0 then some (.tuple [msgA (tlM y kd f), .int .i64 0], [(1, 1), (1, 0), (1, 1)], rpH (syR y)) else some (.tuple [msgA msg0, .int .i64 e], [(1, 0), (1, 1)], rpH y)
theorem tk_eq (z : RpS) (m : Msg) : body PR (cfE ETk) cfgRp lf0 n_replica_Replica_Take [.ptr 1 0 0, msgA m] (rpH z) some =
    (bif !rightM m then tkNo z else bif m.t != z.id then tkNo z else bif m.te != z.te then tkNo z
    else bif m.k == 5 then bif decide (z.b.length ≤ 1000000) then tkEnd (cid z (clZ z)) 6 m.f (clE z) else none
    else bif m.k == 3 then bif goodR z && enR m.e then tkEnd (cid z (orZ z m.e)) 4 m.f (orE z m.e) else none
    else tkNo z) := by kernel_rfl
def rTkF : List AV → RpS → Tr (AV × RpS)
  | [.agg cs], z => match msgOf cs with | some m => .br (goodR z) (.yes (.tuple [msgA (tkM z m), .int .i64 (tkE z m)], tkZ z m)) .no | none => .no
  | _, _ => .no
theorem tkEnd_ok (y : RpS) (kd f e : Int) : ∃ wr, subW wr [(1, 0), (1, 1)] = true ∧ tkEnd y kd f e = some (.tuple [msgA (tlV y kd f e), .int .i64 e], wr, rpH (tlZ y e)) := by
  unfold tkEnd tlV tlZ
  cases he : e == 0 with
  | true => rw [beq_iff_eq] at he; subst he; exact ⟨_, rfl, rfl⟩
  | false => exact ⟨_, rfl, rfl⟩
theorem fits_ent {m : Msg} (h : rightM m = true) (hk : m.k = 3) : enR m.e = true := (right_p h).entr hk
theorem tk_res {z : RpS} (hz : goodR z = true) (m : Msg) : ∃ wr, subW wr [(1, 0), (1, 1)] = true ∧ body PR (cfE ETk) cfgRp lf0 n_replica_Replica_Take [.ptr 1 0 0, msgA m] (rpH z) some = some (.tuple [msgA (tkM z m), .int .i64 (tkE z m)], wr, rpH (tkZ z m)) := by
  rw [tk_eq, cid_cl, cid_or, decide_eq_true (show z.b.length ≤ 1000000 by have := (goodR_iff.1 hz).2.1; omega), hz]
  unfold tkM tkE tkZ mineM tkNo
  cases hr : rightM m with
  | false => exact ⟨[], rfl, rfl⟩
  | true =>
  rw [bne, bne]
  cases m.t == z.id with
  | false => exact ⟨[], rfl, rfl⟩
  | true =>
  cases m.te == z.te with
  | false => exact ⟨[], rfl, rfl⟩
  | true =>
  simp only [Bool.not_true, cond_false, Bool.and_self, cond_true, Bool.true_and]
  cases h5 : m.k == 5 with
  | true => exact tkEnd_ok _ _ _ _
  | false =>
  cases h3 : m.k == 3 with
  | true =>
    rw [fits_ent hr (beq_iff_eq.1 h3)]
    exact tkEnd_ok _ _ _ _
  | false => exact ⟨[], rfl, rfl⟩
theorem tkZ_ids (z : RpS) (m : Msg) : (tkZ z m).id = z.id ∧ (tkZ z m).te = z.te := by
  have c1 : (clZ z).id = z.id ∧ (clZ z).te = z.te := by unfold clZ; cases clGo z <;> exact ⟨rfl, rfl⟩
  have c2 : (orZ z m.e).id = z.id ∧ (orZ z m.e).te = z.te := by unfold orZ; cases orGo z m.e <;> exact ⟨rfl, rfl⟩
  have c3 : ∀ (y : RpS) (e : Int), (tlZ y e).id = y.id ∧ (tlZ y e).te = y.te := fun y e => by unfold tlZ; cases e == 0 <;> exact ⟨rfl, rfl⟩
  unfold tkZ
  cases mineM z m with
  | false => exact ⟨rfl, rfl⟩
  | true =>
    cases m.k == 5 with
    | true => exact ⟨(c3 _ _).1.trans c1.1, (c3 _ _).2.trans c1.2⟩
    | false =>
      cases m.k == 3 with
      | true => exact ⟨(c3 _ _).1.trans c2.1, (c3 _ _).2.trans c2.2⟩
      | false => exact ⟨rfl, rfl⟩
theorem cid_self {z y : RpS} (h : y.id = z.id ∧ y.te = z.te) : cid z y = y := by
  obtain ⟨i, t, L, se, b, n, o⟩ := y
  obtain ⟨h1, h2⟩ := h
  simp only at h1 h2
  subst h1; subst h2; rfl
theorem rTk_ok : Con PR A n_replica_Replica_Take (obj2C (rpF true true rTkF)) := by
  refine obj2C_ok (rp_two fun rest z v z' hv => ?_)
  unfold rTkF at hv
  split at hv
  · split at hv
    · rename_i m hm
      have := msgOf_some hm
      subst this
      obtain ⟨hc, hv2⟩ := Tr.br_no hv
      cases hv2
      refine ⟨rfl, rfl, by simp, by simp, fun _ hh => ?_⟩
      obtain ⟨wr, h1, h2⟩ := tk_res hc m
      have hid := cid_self (tkZ_ids z m)
      unfold cid at hid
      rw [hid]
      exact SimCall.wr (fun_call _ mixed (by kernel_rfl) (by kernel_rfl) (no_loops (by kernel_rfl)) h2) (subW_le h1)
    · cases hv
  · cases hv
def rTkE : Ent PR A := ⟨n_replica_Replica_Take, _, rTk_ok⟩
end Go.Crc
/- Replicas: all entries told. Conditions: none. A text of this seat's numbers. -/
set_option linter.unusedVariables false
set_option linter.unusedSimpArgs false
set_option maxRecDepth 100000
namespace Go.Crc
open Go.Vm Go.Pack Go.Rec Go.RowKit
def etW : Wr := [(0, 0), (0, 0)]
def etStep (i : Int) (x : En) (s : List En × Wr) (k : List En × Wr → Option Res) : Option Res :=
  bif decide (x.2.2.1.length * 8 ≤ 140737488355328) then bif decide ((s.1.length + [x].length) * 64 ≤ 140737488355328) then k (s.1 ++ [x], app etW s.2) else none else none
theorem et_fold (E : List En × Wr → Option Res) : ∀ (l : List En) (j : Nat) (o : List En) (wr : Wr), (∀ x ∈ l, enR x = true) → o.length + l.length ≤ 100000 → foldK etStep E j l (o, wr) = E (o ++ l, app (repApp l.length etW) wr)
  | [], j, o, wr, _, h => by simp [foldK, repApp, app]
  | x :: l, j, o, wr, hr, h => by
    simp only [List.length_cons] at h
    have hx := en_cut (hr x (by simp))
    rw [show foldK etStep E j (x :: l) (o, wr) = (bif decide (x.2.2.1.length * 8 ≤ 140737488355328) then bif decide ((o.length + [x].length) * 64 ≤ 140737488355328) then foldK etStep E (j + 1) l (o ++ [x], app etW wr) else none else none) from rfl,
      cond_eq (decide_eq_true (by omega)), cond_eq (decide_eq_true (by simp only [List.length_cons, List.length_nil]; omega)), et_fold E l (j + 1) _ _ (fun y hy => hr y (by simp [hy])) (by rw [List.length_append]; simp only [List.length_cons, List.length_nil]; omega)]
    rw [List.length_cons, rep_more, List.append_assoc]
    rfl
def lfEt : Nat → Option LoopSum := lfOf [(58, loopT [3, 9, 10, 11] [3] fun vs H => match vs, H with
  | [.slice (.pair (.int .i64) (.pair (.int .i64) (.pair (.slice (.int .i64)) (.pair (.int .i64) (.pair (.int .i64) (.int .i64)))))) o .own, .slice (.pair (.int .i64) (.pair (.int .i64) (.pair (.slice (.int .i64)) (.pair (.int .i64) (.pair (.int .i64) (.int .i64)))))) l .view, .int .i64 m, .int .i64 i], [] :: S =>
    .br (decide (m = l.length) && (decide (i = 0) && (decide (o.length = 0) && (decide (l.length ≤ 100000) && l.all enR)))) (.yes (.exit 0, [.slice EnT (o ++ l) .own], [] :: S, repApp l.length etW)) .no
  | _, _ => .no)]
theorem et_loops : ∀ x ∈ funLoops PR n_replica_Replica_Entries, ∀ L, lfEt x.1 = some L → LoopOK (ntm PR n_replica_Replica_Entries) (fun fr H wr k => code PR (cfE (P := PR) (A := A) [cliE]) cfgRp lfEt (cfgRp.live n_replica_Replica_Entries) x.2 (2 * x.1) fr H wr k) L := by
  refine one_loop (p := 58) rfl (by kernel_rfl) (loopT_ok (by decide) fun vs H wr ex vs' H' w hv ha hh => ?_)
  split at hv
  · rename_i o l m i S
    obtain ⟨hc, hv2⟩ := Tr.br_no hv
    clear hv
    simp only [Bool.and_eq_true, decide_eq_true_eq, List.all_eq_true] at hc
    obtain ⟨hm, rfl, ho, hl, hr⟩ := hc
    cases hv2
    refine ⟨l.length + 1, fun k => ?_⟩
    have := fold_loop (F := fun N i (s : List En × Wr) => LC PR (cfE (P := PR) (A := A) [cliE]) cfgRp lfEt n_replica_Replica_Entries 0 58 [3, 9, 10, 11] [3] N [.slice EnT s.1 .own, .slice EnT l .view, .int .i64 m, .int .i64 i] ([] :: S) s.2 k)
      (step := etStep) (E := fun s => k (.exit 0) [.slice EnT s.1 .own] ([] :: S) s.2) hm (show l.length ≤ maxInt by simp only [maxInt]; omega) (fun N i s => by kernel_rfl) l.length 0 (o, wr) (by omega)
    rw [List.drop_zero, et_fold _ _ _ _ _ hr (by omega)] at this
    exact this
  · cases hv
def rEtF : List AV → RpS → Tr (AV × RpS)
  | [], z => .br (goodR z) (.yes (.slice EnT z.l .view, z)) .no
  | _, _ => .no
theorem rEt_ok : Con PR A n_replica_Replica_Entries (obj2C (rpF false false rEtF)) := by
  refine obj2C_ok (rp_two fun rest z v z' hv => ?_)
  unfold rEtF at hv
  split at hv
  · obtain ⟨hc, hv2⟩ := Tr.br_no hv
    cases hv2
    obtain ⟨g1, g2, g3, g4, g5⟩ := goodR_iff.1 hc
    refine ⟨rfl, rfl, by simp, by simp, fun _ hh => ?_⟩
    have h : body PR (cfE (P := PR) (A := A) [cliE]) cfgRp lfEt n_replica_Replica_Entries [.ptr 1 0 0] (rpH z) some =
      (bif decide ((z.l.length : Int) = (z.l.length : Int)) && (decide ((0 : Int) = 0) && (true && (decide (z.l.length ≤ 100000) && z.l.all enR))) then
        some (.slice EnT ([] ++ z.l) .view, outer (app (repApp z.l.length etW) []), rpH z) else none) := by kernel_rfl
    rw [decide_eq_true rfl, decide_eq_true rfl, decide_eq_true (show z.l.length ≤ 100000 by omega), List.all_eq_true.2 (chn_right g5), outer_app0 _ _ (all0_rep rfl _)] at h
    exact fun_call _ mixed (by kernel_rfl) (by kernel_rfl) et_loops h
  · cases hv
def rEtE : Ent PR A := ⟨n_replica_Replica_Entries, _, rEt_ok⟩
def esStep (i : Int) (x : En) (s : List En × Wr) (k : List En × Wr → Option Res) : Option Res :=
  bif decide ((s.1.length + [x].length) * 64 ≤ 140737488355328) then k (s.1 ++ [x], (0, 0) :: s.2) else none
theorem es_fold (E : List En × Wr → Option Res) : ∀ (l : List En) (j : Nat) (o : List En) (wr : Wr), (o.length + l.length) * 64 ≤ 140737488355328 → foldK esStep E j l (o, wr) = E (o ++ l, app (repApp l.length [(0, 0)]) wr)
  | [], j, o, wr, h => by simp [foldK, repApp, app]
  | x :: l, j, o, wr, h => by
    simp only [List.length_cons] at h
    rw [show foldK esStep E j (x :: l) (o, wr) = (bif decide ((o.length + [x].length) * 64 ≤ 140737488355328) then foldK esStep E (j + 1) l (o ++ [x], (0, 0) :: wr) else none) from rfl,
      cond_eq (decide_eq_true (by simp only [List.length_cons, List.length_nil]; omega)), es_fold E l (j + 1) _ _ (by rw [List.length_append]; simp only [List.length_cons, List.length_nil]; omega)]
    rw [List.length_cons, rep_more, List.append_assoc]
    rfl
def lfEs : Nat → Option LoopSum := lfOf [(58, loopT [3, 6, 7, 8] [3] fun vs H => match vs, H with
  | [.slice (.pair (.int .i64) (.pair (.int .i64) (.pair (.slice (.int .i64)) (.pair (.int .i64) (.pair (.int .i64) (.int .i64)))))) o .own, .slice (.pair (.int .i64) (.pair (.int .i64) (.pair (.slice (.int .i64)) (.pair (.int .i64) (.pair (.int .i64) (.int .i64)))))) l .view, .int .i64 m, .int .i64 i], [] :: S =>
    .br (decide (m = l.length) && decide (i = 0) && decide ((o.length + l.length) * 64 ≤ 140737488355328)) (.yes (.exit 0, [.slice EnT (o ++ l) .own], [] :: S, repApp l.length [(0, 0)])) .no
  | _, _ => .no)]
theorem es_loops : ∀ x ∈ funLoops PR n_law_entries, ∀ L, lfEs x.1 = some L → LoopOK (ntm PR n_law_entries) (fun fr H wr k => code PR (cfE (P := PR) (A := A) []) cfgRp lfEs (cfgRp.live n_law_entries) x.2 (2 * x.1) fr H wr k) L := by
  refine one_loop (p := 58) rfl (by kernel_rfl) (loopT_ok (by decide) fun vs H wr ex vs' H' w hv ha hh => ?_)
  split at hv
  · rename_i o l m i S
    obtain ⟨hc, hv2⟩ := Tr.br_no hv
    clear hv
    simp only [Bool.and_eq_true, decide_eq_true_eq] at hc
    obtain ⟨⟨hm, rfl⟩, hl⟩ := hc
    cases hv2
    refine ⟨l.length + 1, fun k => ?_⟩
    have := fold_loop (F := fun N i (s : List En × Wr) => LC PR (cfE (P := PR) (A := A) []) cfgRp lfEs n_law_entries 0 58 [3, 6, 7, 8] [3] N [.slice EnT s.1 .own, .slice EnT l .view, .int .i64 m, .int .i64 i] ([] :: S) s.2 k)
      (step := esStep) (E := fun s => k (.exit 0) [.slice EnT s.1 .own] ([] :: S) s.2) hm (show l.length ≤ maxInt by simp only [maxInt]; omega) (fun N i s => by kernel_rfl) l.length 0 (o, wr) (by omega)
    rw [List.drop_zero, es_fold _ _ _ _ _ hl] at this
    exact this
  · cases hv
def rEsF : List AV → Tr AV
  | [.slice (.pair (.int .i64) (.pair (.int .i64) (.pair (.slice (.int .i64)) (.pair (.int .i64) (.pair (.int .i64) (.int .i64)))))) l .view] => .br (decide (l.length ≤ 100000)) (.yes (.slice EnT l .view)) .no
  | _ => .no
theorem rEs_ok : Con PR A n_law_entries (pureC rEsF) := by
  refine pure_con (cfg := cfgRp) (lf := lfEs) [] mixed (by kernel_rfl) (by kernel_rfl) es_loops fun args v hv ha S => ?_
  unfold rEsF at hv
  split at hv
  · rename_i l
    obtain ⟨hc, hv2⟩ := Tr.br_no hv
    cases hv2
    simp only [decide_eq_true_eq] at hc
    have h : body PR (cfE (P := PR) (A := A) []) cfgRp lfEs n_law_entries [.slice EnT l .view] S some =
      (bif decide ((l.length : Int) = (l.length : Int)) && true && decide ((0 + l.length) * 64 ≤ 140737488355328) then some (.slice EnT ([] ++ l) .view, outer (app (repApp l.length [(0, 0)]) []), S) else none) := by kernel_rfl
    rw [h, decide_eq_true rfl, decide_eq_true (show (0 + l.length) * 64 ≤ 140737488355328 by omega), outer_app0 _ _ (all0_rep rfl _)]
    rfl
  · cases hv
def rEsE : Ent PR A := ⟨n_law_entries, _, rEs_ok⟩
end Go.Crc
