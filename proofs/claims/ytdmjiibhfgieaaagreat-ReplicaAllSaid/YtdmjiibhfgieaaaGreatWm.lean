/- Contracts of functions of this program. Conditions: none. -/
import Derived.Test.YtdmjiibhfgieaaaGreatWl
set_option linter.unusedVariables false
set_option linter.unusedSimpArgs false
/- Scripts of calls on replicas: whether they are few; rows of entries compared. Conditions: none. A text of this seat's numbers. -/
set_option linter.unusedVariables false
set_option linter.unusedSimpArgs false
set_option maxRecDepth 100000
namespace Go.Crc
open Go.Vm Go.Pack Go.Rec Go.RowKit
abbrev ROpT : Ty := (.pair (.int .i64) (.pair (.int .i64) (.pair (.pair (.int .i64) (.pair (.int .i64) (.pair (.int .i64) (.pair (.int .i64) (.pair (.int .i64) (.pair (.int .i64) (.pair .bool (.pair (.pair (.pair (.int .i64) (.int .i64)) (.pair (.slice (.int .i64)) .str)) (.pair (.pair (.int .i64) (.pair (.int .i64) (.pair (.slice (.int .i64)) (.pair (.int .i64) (.pair (.int .i64) (.int .i64)))))) (.pair (.int .i64) (.pair (.int .i64) (.pair (.int .i64) (.pair (.slice (.int .i64)) (.slice (.slice (.int .i64)))))))))))))))) .bool)))
abbrev MsI := Int × Int × Int × Int × Int × Int × Bool × Rc × En × Int × Int × (Int × List Int × List (List Int))
abbrev ROp := Int × Int × MsI × Bool
def toM (x : MsI) : Msg := ⟨x.1, x.2.1, x.2.2.1, x.2.2.2.1, x.2.2.2.2.1, x.2.2.2.2.2.1, x.2.2.2.2.2.2.1, x.2.2.2.2.2.2.2.1.1.1, x.2.2.2.2.2.2.2.1.1.2, x.2.2.2.2.2.2.2.1.2.1, x.2.2.2.2.2.2.2.1.2.2, x.2.2.2.2.2.2.2.2.1, x.2.2.2.2.2.2.2.2.2.1, x.2.2.2.2.2.2.2.2.2.2.1, x.2.2.2.2.2.2.2.2.2.2.2.1, x.2.2.2.2.2.2.2.2.2.2.2.2.1, x.2.2.2.2.2.2.2.2.2.2.2.2.2⟩
abbrev opM (x : ROp) : Msg := toM x.2.2.1
def shN : List (List Int) → Int → Int
  | [], n => n
  | x :: r, n => shN r (IntKind.i64.wrap (n + IntKind.i64.wrap ((x.length : Int) + 1)))
def fw0 (m : Msg) (n : Int) : Int := IntKind.i64.wrap (n + IntKind.i64.wrap (IntKind.i64.wrap (IntKind.i64.wrap ((m.rd.length : Int) + (m.rt.length : Int)) + (m.e.2.2.1.length : Int)) + (m.cs.length : Int)))
def rfewN : List ROp → Int → Int
  | [], n => n
  | x :: r, n => rfewN r (shN (opM x).ch (fw0 (opM x) n))
def rf2F (vs : List AV) (H : Stack) : Tr (Ex × List AV × Stack × Wr) := match vs, H with
  | [.slice (.pair (.int .i64) (.pair (.int .i64) (.pair (.pair (.int .i64) (.pair (.int .i64) (.pair (.int .i64) (.pair (.int .i64) (.pair (.int .i64) (.pair (.int .i64) (.pair .bool (.pair (.pair (.pair (.int .i64) (.int .i64)) (.pair (.slice (.int .i64)) .str)) (.pair (.pair (.int .i64) (.pair (.int .i64) (.pair (.slice (.int .i64)) (.pair (.int .i64) (.pair (.int .i64) (.int .i64)))))) (.pair (.int .i64) (.pair (.int .i64) (.pair (.int .i64) (.pair (.slice (.int .i64)) (.slice (.slice (.int .i64)))))))))))))))) .bool))) l .view, .int .i64 n, .slice (.pair (.int .i64) (.pair (.int .i64) (.pair (.pair (.int .i64) (.pair (.int .i64) (.pair (.int .i64) (.pair (.int .i64) (.pair (.int .i64) (.pair (.int .i64) (.pair .bool (.pair (.pair (.pair (.int .i64) (.int .i64)) (.pair (.slice (.int .i64)) .str)) (.pair (.pair (.int .i64) (.pair (.int .i64) (.pair (.slice (.int .i64)) (.pair (.int .i64) (.pair (.int .i64) (.int .i64)))))) (.pair (.int .i64) (.pair (.int .i64) (.pair (.int .i64) (.pair (.slice (.int .i64)) (.slice (.slice (.int .i64)))))))))))))))) .bool))) l2 .view, .int .i64 m, .int .i64 i, .slice (.slice (.int .i64)) sh .view, .int .i64 q, .int .i64 j], [.cells cs] :: S =>
    .br (decide (q = sh.length) && decide (j = 0)) (.yes (.exit 2, [.slice ROpT l .view, .int .i64 (shN sh n), .slice ROpT l2 .view, .int .i64 m, .int .i64 i], [.cells cs] :: S, [])) .no
  | _, _ => .no
def rfF (vs : List AV) (H : Stack) : Tr (Ex × List AV × Stack × Wr) := match vs, H with
  | [.slice (.pair (.int .i64) (.pair (.int .i64) (.pair (.pair (.int .i64) (.pair (.int .i64) (.pair (.int .i64) (.pair (.int .i64) (.pair (.int .i64) (.pair (.int .i64) (.pair .bool (.pair (.pair (.pair (.int .i64) (.int .i64)) (.pair (.slice (.int .i64)) .str)) (.pair (.pair (.int .i64) (.pair (.int .i64) (.pair (.slice (.int .i64)) (.pair (.int .i64) (.pair (.int .i64) (.int .i64)))))) (.pair (.int .i64) (.pair (.int .i64) (.pair (.int .i64) (.pair (.slice (.int .i64)) (.slice (.slice (.int .i64)))))))))))))))) .bool))) l .view, .int .i64 n, .slice (.pair (.int .i64) (.pair (.int .i64) (.pair (.pair (.int .i64) (.pair (.int .i64) (.pair (.int .i64) (.pair (.int .i64) (.pair (.int .i64) (.pair (.int .i64) (.pair .bool (.pair (.pair (.pair (.int .i64) (.int .i64)) (.pair (.slice (.int .i64)) .str)) (.pair (.pair (.int .i64) (.pair (.int .i64) (.pair (.slice (.int .i64)) (.pair (.int .i64) (.pair (.int .i64) (.int .i64)))))) (.pair (.int .i64) (.pair (.int .i64) (.pair (.int .i64) (.pair (.slice (.int .i64)) (.slice (.slice (.int .i64)))))))))))))))) .bool))) l2 .view, .int .i64 m, .int .i64 i], [] :: S =>
    .br (decide (m = l2.length) && decide (i = 0)) (.yes (.exit 0, [.slice ROpT l .view, .int .i64 (rfewN l2 n)], [] :: S, repApp l2.length [(0, 0)])) .no
  | _, _ => .no
def lfRf : Nat → Option LoopSum := lfOf [(58, loopT [0, 3, 8, 9, 10] [0, 3] rfF), (29902, loopT [0, 3, 8, 9, 10, 42, 43, 44] [0, 3, 8, 9, 10] rf2F)]
noncomputable abbrev LRf (N : Nat) := LC PR (cfE (P := PR) (A := A) []) cfgRp lfRf n_law_few 0 58 [0, 3, 8, 9, 10] [0, 3] N
noncomputable abbrev LRf2 (N : Nat) := LC PR (cfE (P := PR) (A := A) []) cfgRp lfRf n_law_few 1 29902 [0, 3, 8, 9, 10, 42, 43, 44] [0, 3, 8, 9, 10] N
theorem rf2_round (l l2 : List ROp) (n m i : Int) (sh : List (List Int)) (q j : Int) (cs : List AV) (S : Stack) (wr : Wr) (N : Nat) (k : Ex → List AV → Stack → Wr → Option Res) :
    LRf2 (N + 1) [.slice ROpT l .view, .int .i64 n, .slice ROpT l2 .view, .int .i64 m, .int .i64 i, .slice RowT sh .view, .int .i64 q, .int .i64 j] ([.cells cs] :: S) wr k =
      (bif decide (j < q) then (at? sh j).bind fun x => LRf2 N [.slice ROpT l .view, .int .i64 (IntKind.i64.wrap (n + IntKind.i64.wrap ((x.length : Int) + 1))), .slice ROpT l2 .view, .int .i64 m, .int .i64 i, .slice RowT sh .view, .int .i64 q, .int .i64 (IntKind.i64.wrap (j + 1))] ([.cells cs] :: S) wr k
      else k (.exit 2) [.slice ROpT l .view, .int .i64 n, .slice ROpT l2 .view, .int .i64 m, .int .i64 i] ([.cells cs] :: S) wr) := by kernel_rfl
theorem sh_fold (E : Int → Option Res) : ∀ (r : List (List Int)) (j : Nat) (n : Int), foldK (fun _ (x : List Int) n k => k (IntKind.i64.wrap (n + IntKind.i64.wrap ((x.length : Int) + 1)))) E j r n = E (shN r n)
  | [], j, n => rfl
  | x :: r, j, n => sh_fold E r (j + 1) _
theorem rf_round (l l2 : List ROp) (n m i : Int) (S : Stack) (wr : Wr) (N : Nat) (k : Ex → List AV → Stack → Wr → Option Res) :
    LRf (N + 1) [.slice ROpT l .view, .int .i64 n, .slice ROpT l2 .view, .int .i64 m, .int .i64 i] ([] :: S) wr k =
      (bif decide (i < m) then (at? l2 i).bind fun x => bif decide (((opM x).ch.length : Int) = ((opM x).ch.length : Int)) && decide ((0 : Int) = 0) then LRf N [.slice ROpT l .view, .int .i64 (shN (opM x).ch (fw0 (opM x) n)), .slice ROpT l2 .view, .int .i64 m, .int .i64 (IntKind.i64.wrap (i + 1))] ([] :: S) ((0, 0) :: wr) k else none
      else k (.exit 0) [.slice ROpT l .view, .int .i64 n] ([] :: S) wr) := by kernel_rfl
theorem rf_fold (E : Int × Wr → Option Res) : ∀ (r : List ROp) (j : Nat) (n : Int) (wr : Wr), foldK (fun _ x s k => k (shN (opM x).ch (fw0 (opM x) s.1), (0, 0) :: s.2)) E j r (n, wr) = E (rfewN r n, app (repApp r.length [(0, 0)]) wr)
  | [], j, n, wr => by simp [foldK, rfewN, repApp, app]
  | x :: r, j, n, wr => by
    have hi := rf_fold E r (j + 1) (shN (opM x).ch (fw0 (opM x) n)) ((0, 0) :: wr)
    simp only [foldK, rfewN, List.length_cons, rep_more]
    exact hi
theorem rf_loops : ∀ x ∈ funLoops PR n_law_few, ∀ L, lfRf x.1 = some L → LoopOK (ntm PR n_law_few) (fun fr H wr k => code PR (cfE (P := PR) (A := A) []) cfgRp lfRf (cfgRp.live n_law_few) x.2 (2 * x.1) fr H wr k) L := by
  refine all_loops (ps := [58, 29902]) (by kernel_rfl) fun j p hp L hL => ?_
  match j, hp with
  | 0, hp =>
    simp at hp; subst hp
    cases hL
    refine loopT_ok (by decide) fun vs H wr ex vs' H' w hv ha hh => ?_
    unfold rfF at hv
    split at hv
    · rename_i l n l2 m i S
      obtain ⟨hc, hv2⟩ := Tr.br_no hv
      cases hv2
      simp only [Bool.and_eq_true, decide_eq_true_eq] at hc
      obtain ⟨h1, h2⟩ := hc
      subst h2
      simp only [okAVs, okAV] at ha
      have hl : l2.length ≤ maxInt := ha.2.2.1.1
      refine ⟨l2.length + 1, fun k => ?_⟩
      have := fold_loop (F := fun N i s => LRf N [.slice ROpT l .view, .int .i64 s.1, .slice ROpT l2 .view, .int .i64 m, .int .i64 i] ([] :: S) s.2 k) (xs := l2) (m := m) (step := fun _ x s k => k (shN (opM x).ch (fw0 (opM x) s.1), (0, 0) :: s.2)) (E := fun s => k (.exit 0) [.slice ROpT l .view, .int .i64 s.1] ([] :: S) s.2) h1 hl
        (fun N i s => by
          have h := rf_round l l2 s.1 m i S s.2 N k
          simp only [decide_true, Bool.and_self, cond_true] at h
          exact h) l2.length 0 (n, wr) (by omega)
      rw [List.drop_zero, rf_fold] at this
      exact this
    · cases hv
  | 1, hp =>
    simp at hp; subst hp
    cases hL
    refine loopT_ok (by decide) fun vs H wr ex vs' H' w hv ha hh => ?_
    unfold rf2F at hv
    split at hv
    · rename_i l n l2 m i sh q j cs S
      obtain ⟨hc, hv2⟩ := Tr.br_no hv
      cases hv2
      simp only [Bool.and_eq_true, decide_eq_true_eq] at hc
      obtain ⟨h1, h2⟩ := hc
      subst h2
      simp only [okAVs, okAV] at ha
      have hl : sh.length ≤ maxInt := ha.2.2.2.2.2.1.1
      refine ⟨sh.length + 1, fun k => ?_⟩
      have := fold_loop (F := fun N j n => LRf2 N [.slice ROpT l .view, .int .i64 n, .slice ROpT l2 .view, .int .i64 m, .int .i64 i, .slice RowT sh .view, .int .i64 q, .int .i64 j] ([.cells cs] :: S) wr k) (xs := sh) (m := q) (step := fun _ (x : List Int) n k => k (IntKind.i64.wrap (n + IntKind.i64.wrap ((x.length : Int) + 1)))) (E := fun n => k (.exit 2) [.slice ROpT l .view, .int .i64 n, .slice ROpT l2 .view, .int .i64 m, .int .i64 i] ([.cells cs] :: S) wr) h1 hl (fun N j n => rf2_round l l2 n m i sh q j cs S wr N k) sh.length 0 n (by omega)
      rw [List.drop_zero, sh_fold] at this
      exact this
    · cases hv
  | j + 2, hp => simp at hp
def rfewV (l : List ROp) : Bool := decide (((l.length : Nat) : Int) ≤ 50) && decide (rfewN l 0 ≤ 5000)
def rfewC : List AV → Tr AV
  | [.slice (.pair (.int .i64) (.pair (.int .i64) (.pair (.pair (.int .i64) (.pair (.int .i64) (.pair (.int .i64) (.pair (.int .i64) (.pair (.int .i64) (.pair (.int .i64) (.pair .bool (.pair (.pair (.pair (.int .i64) (.int .i64)) (.pair (.slice (.int .i64)) .str)) (.pair (.pair (.int .i64) (.pair (.int .i64) (.pair (.slice (.int .i64)) (.pair (.int .i64) (.pair (.int .i64) (.int .i64)))))) (.pair (.int .i64) (.pair (.int .i64) (.pair (.int .i64) (.pair (.slice (.int .i64)) (.slice (.slice (.int .i64)))))))))))))))) .bool))) l .view] => .yes (.bool (rfewV l))
  | _ => .no
theorem rfew_ok : Con PR A n_law_few (pureC rfewC) := by
  refine pureC_ok fun args v hv ha S => ?_
  unfold rfewC at hv
  split at hv
  · rename_i l
    cases hv
    have h : body PR (cfE (P := PR) (A := A) []) cfgRp lfRf n_law_few [.slice ROpT l .view] S some = (bif decide (((l.length : Nat) : Int) = (l.length : Int)) && decide ((0 : Int) = 0) then bif decide (((l.length : Nat) : Int) ≤ 50) then some (.bool (decide (rfewN l 0 ≤ 5000)), outer (app (repApp l.length [(0, 0)]) []), S) else some (.bool false, outer (app (repApp l.length [(0, 0)]) []), S) else none) := by kernel_rfl
    rw [outer_app0 _ _ (all0_rep rfl _)] at h
    refine fun_call _ mixed (by kernel_rfl) (by kernel_rfl) rf_loops (h.trans ?_)
    unfold rfewV
    rw [decide_eq_true (rfl : ((l.length : Nat) : Int) = (l.length : Int)), decide_eq_true (rfl : (0 : Int) = 0)]
    cases decide (((l.length : Nat) : Int) ≤ 50) <;> rfl
  · cases hv
def rfewE : Ent PR A := ⟨n_law_few, _, rfew_ok⟩
end Go.Crc
/- Replicas: reopened, new. Conditions: none. A text of this seat's numbers. -/
set_option linter.unusedVariables false
set_option linter.unusedSimpArgs false
set_option maxRecDepth 100000
namespace Go.Crc
open Go.Vm Go.Pack Go.Rec Go.RowKit
abbrev rpOj (j : Nat) (id te : Int) (L : List En) (se : Bool) : Ob := .cells [.int .i64 id, .int .i64 te, .ptr 0 j 0, .slice EnT L .own, .bool se]
abbrev coOb (t : Int) (s : List Int) (sh : List (List Int)) : Ob := .cells [.int .i64 t, .slice (.int .i64) s .view, .slice RowT sh .view]
def conOK (t : Int) (s : List Int) (sh : List (List Int)) (id : Int) : Bool := termR t s sh && s.any fun y => id == y
abbrev rdL (b : List Int) : List En := (rpR (scanL b) [] false).1
abbrev rdS (b : List Int) : Bool := (rpR (scanL b) [] false).2.1
abbrev rdG (b : List Int) : Bool := (rpR (scanL b) [] false).2.2
def rOpF : List AV → Stack → Tr Res
  | [.int .i64 id, .agg [.int .i64 t, .slice (.int .i64) s .view, .slice (.slice (.int .i64)) sh .view], .ptr 0 1 0], [x, .cells [.slice (.int .u8) b .own, .int .i64 n, .bool o]] :: S =>
    .br (decide (b.length ≤ 65536)) (.br (conOK t s sh id && rdG b) (.yes (.tuple [.ptr 0 3 0, .int .i64 0], [], [x, stO b n o, coOb t s sh, rpOj 1 id t (rdL b) (rdS b)] :: S)) (.yes (.tuple [.nilp, .int .i64 1], [], [x, stO b n o] :: S))) .no
  | [.int .i64 id, .agg [.int .i64 t, .slice (.int .i64) s .view, .slice (.slice (.int .i64)) sh .view], .ptr 0 3 0], [x, y, w, .cells [.slice (.int .u8) b .own, .int .i64 n, .bool o]] :: S =>
    .br (decide (b.length ≤ 65536)) (.br (conOK t s sh id && rdG b) (.yes (.tuple [.ptr 0 5 0, .int .i64 0], [], [x, y, w, stO b n o, coOb t s sh, rpOj 3 id t (rdL b) (rdS b)] :: S)) (.yes (.tuple [.nilp, .int .i64 1], [], [x, y, w, stO b n o] :: S))) .no
  | _, _ => .no
noncomputable abbrev EOp : List (Ent PR A) := [trE, conE, rReE]
theorem rOp_ok : Con PR A n_replica_Reopen (shapeC rOpF) := by
  refine shapeC_ok fun args S res hv => ?_
  unfold rOpF at hv
  split at hv
  · rename_i id t s sh x b n o S
    obtain ⟨hc, hv2⟩ := Tr.br_no hv
    have h : body PR (cfE EOp) cfgRp lf0 n_replica_Reopen [.int .i64 id, conA t s sh, .ptr 0 1 0] ([x, stO b n o] :: S) some =
      (bif !termR t s sh then some (.tuple [.nilp, .int .i64 1], [], [x, stO b n o] :: S) else bif !(s.any fun y => id == y) then some (.tuple [.nilp, .int .i64 1], [], [x, stO b n o] :: S)
      else bif decide (b.length ≤ 65536) then bif !rdG b then some (.tuple [.nilp, .int .i64 1], [], [x, stO b n o] :: S) else some (.tuple [.ptr 0 3 0, .int .i64 0], [], [x, stO b n o, coOb t s sh, rpOj 1 id t (rdL b) (rdS b)] :: S) else none) := by kernel_rfl
    rw [hc] at h
    unfold conOK at hv2
    rcases Tr.br_or hv2 with ⟨he, h4⟩ | ⟨he, h4⟩
    · cases h4
      simp only [Bool.and_eq_true] at he
      rw [he.1.1, he.1.2, he.2] at h
      exact ⟨fun _ _ => fun_call _ mixed (by kernel_rfl) (by kernel_rfl) (no_loops (by kernel_rfl)) h, app_keeps [x, stO b n o] [coOb t s sh, rpOj 1 id t (rdL b) (rdS b)] S⟩
    · cases h4
      refine ⟨fun _ _ => fun_call _ mixed (by kernel_rfl) (by kernel_rfl) (no_loops (by kernel_rfl)) (h.trans ?_), fun l i _ => .inl (copyvs_refl_ObE _)⟩
      revert he
      cases termR t s sh <;> cases (s.any fun y => id == y) <;> cases rdG b <;> first | (intro _; rfl) | (intro he; cases he)
  · rename_i id t s sh x y w b n o S
    obtain ⟨hc, hv2⟩ := Tr.br_no hv
    have h : body PR (cfE EOp) cfgRp lf0 n_replica_Reopen [.int .i64 id, conA t s sh, .ptr 0 3 0] ([x, y, w, stO b n o] :: S) some =
      (bif !termR t s sh then some (.tuple [.nilp, .int .i64 1], [], [x, y, w, stO b n o] :: S) else bif !(s.any fun y => id == y) then some (.tuple [.nilp, .int .i64 1], [], [x, y, w, stO b n o] :: S)
      else bif decide (b.length ≤ 65536) then bif !rdG b then some (.tuple [.nilp, .int .i64 1], [], [x, y, w, stO b n o] :: S) else some (.tuple [.ptr 0 5 0, .int .i64 0], [], [x, y, w, stO b n o, coOb t s sh, rpOj 3 id t (rdL b) (rdS b)] :: S) else none) := by kernel_rfl
    rw [hc] at h
    unfold conOK at hv2
    rcases Tr.br_or hv2 with ⟨he, h4⟩ | ⟨he, h4⟩
    · cases h4
      simp only [Bool.and_eq_true] at he
      rw [he.1.1, he.1.2, he.2] at h
      exact ⟨fun _ _ => fun_call _ mixed (by kernel_rfl) (by kernel_rfl) (no_loops (by kernel_rfl)) h, app_keeps [x, y, w, stO b n o] [coOb t s sh, rpOj 3 id t (rdL b) (rdS b)] S⟩
    · cases h4
      refine ⟨fun _ _ => fun_call _ mixed (by kernel_rfl) (by kernel_rfl) (no_loops (by kernel_rfl)) (h.trans ?_), fun l i _ => .inl (copyvs_refl_ObE _)⟩
      revert he
      cases termR t s sh <;> cases (s.any fun y => id == y) <;> cases rdG b <;> first | (intro _; rfl) | (intro he; cases he)
  · cases hv
def rOpE : Ent PR A := ⟨n_replica_Reopen, _, rOp_ok⟩
abbrev nwObs (j : Nat) (id t : Int) (s : List Int) (sh : List (List Int)) : List Ob := [coOb t s sh, stO [] 0 false, coOb t s sh, rpOj j id t [] false]
def rNwF : List AV → Stack → Tr Res
  | [.int .i64 id, .agg [.int .i64 t, .slice (.int .i64) s .view, .slice (.slice (.int .i64)) sh .view]], l :: S =>
    .br (conOK t s sh id) (.yes (.tuple [.ptr 0 (lenN l + 3) 0, .int .i64 0], [], app l (nwObs (lenN l + 1) id t s sh) :: S)) (.yes (.tuple [.nilp, .int .i64 1], [], l :: S))
  | _, _ => .no
theorem rNw_ok : Con PR A n_replica_New (shapeC rNwF) := by
  refine shapeC_ok fun args S res hv => ?_
  unfold rNwF at hv
  split at hv
  · rename_i id t s sh l S
    have h : body PR (cfE (P := PR) (A := A) [stNwE, rOpE]) cfgRp lf0 n_replica_New [.int .i64 id, conA t s sh] (l :: S) some =
      (bif conOK t s sh id && true then some (.tuple [.ptr 0 (lenN l + 3) 0, .int .i64 0], [], app l [coOb t s sh, stO (nwB []) (scanN (([] : List Int).take 65536)) false, coOb t s sh, rpOj (lenN l + 1) id t (rdL (nwB [])) (rdS (nwB []))] :: S)
      else some (.tuple [.nilp, .int .i64 1], [], l :: S)) := by kernel_rfl
    rw [nwB_nil, scanN_nil] at h
    rcases Tr.br_or hv with ⟨he, h4⟩ | ⟨he, h4⟩
    · cases h4
      rw [he] at h
      exact ⟨fun _ _ => fun_call _ mixed (by kernel_rfl) (by kernel_rfl) (no_loops (by kernel_rfl)) h, app_keeps l (nwObs (lenN l + 1) id t s sh) S⟩
    · cases h4
      rw [he] at h
      exact ⟨fun _ _ => fun_call _ mixed (by kernel_rfl) (by kernel_rfl) (no_loops (by kernel_rfl)) h, fun l i _ => .inl (copyvs_refl_ObE _)⟩
  · cases hv
def rNwE : Ent PR A := ⟨n_replica_New, _, rNw_ok⟩
end Go.Crc
/- Calls of scripts on replicas. Conditions: none. A text of this seat's numbers. -/
set_option linter.unusedVariables false
set_option linter.unusedSimpArgs false
set_option maxRecDepth 100000
namespace Go.Crc
open Go.Vm Go.Pack Go.Rec Go.RowKit
structure Op11 where
  kd : Int
  N : Int
  m : Msg
  w : Bool
abbrev op11C (x : Op11) : List AV := .int .i64 x.kd :: .int .i64 x.N :: app (msgC x.m) [.bool x.w]
def op11Of : List AV → Option Op11
  | [.int .i64 kd, .int .i64 N, .int .i64 k, .int .i64 f, .int .i64 t, .int .i64 te, .int .i64 sh, .int .i64 nu, .bool is, .int .i64 rc, .int .i64 rn, .slice (.int .i64) rt .view, .str rd, .int .i64 e1, .int .i64 e2, .slice (.int .i64) e3 .view, .int .i64 e4, .int .i64 e5, .int .i64 e6, .int .i64 ba, .int .i64 ol, .int .i64 ct, .slice (.int .i64) cs .view, .slice (.slice (.int .i64)) ch .view, .bool w] => some ⟨kd, N, ⟨k, f, t, te, sh, nu, is, rc, rn, rt, rd, (e1, e2, e3, e4, e5, e6), ba, ol, ct, cs, ch⟩, w⟩
  | _ => none
theorem op11Of_some {cs : List AV} {x : Op11} (h : op11Of cs = some x) : cs = op11C x := by
  unfold op11Of at h
  split at h
  · cases h; rfl
  · cases h
def rsB (z : RpS) : List Int := nwB (z.b.take z.n.toNat)
def rsN (z : RpS) : Int := scanN ((z.b.take z.n.toNat).take 65536)
def rsZ (z : RpS) : RpS := ⟨z.id, z.te, rdL (rsB z), rdS (rsB z), rsB z, rsN z, false⟩
def dsZ (z : RpS) (x : Op11) : RpS := bif x.kd == 0 then tkZ z x.m else bif x.kd == 1 then csR z x.N else bif x.kd == 2 then { z with o := x.w } else z
def dsM (z : RpS) (x : Op11) : Msg := bif x.kd == 0 then tkM z x.m else msg0
def dsE (z : RpS) (x : Op11) : Int := bif x.kd == 0 then tkE z x.m else 0
abbrev seatC (id t : Int) (s : List Int) (sh : List (List Int)) : List AV := [.int .i64 id, .int .i64 t, .slice (.int .i64) s .view, .slice RowT sh .view]
abbrev mzOb : Ob := .cells [.int .i64 0, .int .i64 0, .int .i64 0, .int .i64 0, .int .i64 0, .int .i64 0, .bool false, .int .i64 0, .int .i64 0, .slice (.int .i64) [] .own, .str [], .int .i64 0, .int .i64 0, .slice (.int .i64) [] .own, .int .i64 0, .int .i64 0, .int .i64 0, .int .i64 0, .int .i64 0, .int .i64 0, .slice (.int .i64) [] .own, .slice RowT [] .own]
abbrev rsObs (j : Nat) (z : RpS) (s : List Int) (sh : List (List Int)) (x : Op11) : List Ob := [.cells (seatC z.id z.te s sh), .cells (op11C x), mzOb, stO (rsB z) (rsN z) false, coOb z.te s sh, rpOj j z.id z.te (rdL (rsB z)) (rdS (rsB z))]
noncomputable abbrev EDo : List (Ent PR A) := [ownE, rTkE, plainE, rCrE, rStE, stOffE, stByE, stNwE, rOpE]
def dsOK (z : RpS) (id t : Int) (s : List Int) (sh : List (List Int)) : Bool := goodR z && (conOK t s sh id && (rdG (rsB z) && (decide (id = z.id) && decide (t = z.te))))
theorem nwB_le (b : List Int) : (nwB b).length ≤ 65536 := by
  unfold nwB
  rw [List.length_take, List.length_take]
  omega
abbrev dfr3 (a c : Ob) (z : RpS) (r : List Ob) : List Ob := a :: stO z.b z.n z.o :: c :: rpOj 1 z.id z.te z.l z.se :: r
def doR3 (a c : Ob) (z : RpS) (r : List Ob) (S : Stack) (id t : Int) (s : List Int) (sh : List (List Int)) (x : Op11) : Option Res :=
  bif x.kd == 0 then bif goodR z then some (.tuple [.ptr 0 3 0, msgA (tkM z x.m), .int .i64 (tkE z x.m)], [(0, 3), (0, 1)], dfr3 a c (cid z (tkZ z x.m)) r :: S) else none
  else bif x.kd == 1 then bif goodR z then some (.tuple [.ptr 0 3 0, msgA msg0, .int .i64 0], [(0, 3), (0, 1)], dfr3 a c (csR z x.N) r :: S) else none
  else bif x.kd == 2 then some (.tuple [.ptr 0 3 0, msgA msg0, .int .i64 0], [(0, 1)], dfr3 a c { z with o := x.w } r :: S)
  else bif x.kd == 3 then bif decide (z.b.length ≤ 1000000) && (decide (0 ≤ z.n) && decide (z.n ≤ (z.b.length : Int))) then bif decide ((rsB z).length ≤ 65536) then
      bif conOK t s sh id && rdG (rsB z) then some (.tuple [.ptr 0 (lenN (dfr3 a c z r) + 5) 0, msgA msg0, .int .i64 0], [], app (dfr3 a c z r) [.cells (seatC id t s sh), .cells (op11C x), mzOb, stO (rsB z) (rsN z) false, coOb t s sh, rpOj (lenN (dfr3 a c z r) + 3) id t (rdL (rsB z)) (rdS (rsB z))] :: S)
      else some (.tuple [.ptr 0 3 0, msgA msg0, .int .i64 1], [], dfr3 a c z r :: S)
    else none else none
  else some (.tuple [.ptr 0 3 0, msgA msg0, .int .i64 0], [], dfr3 a c z r :: S)
theorem do_eq3 (a c : Ob) (z : RpS) (r : List Ob) (S : Stack) (id t : Int) (s : List Int) (sh : List (List Int)) (x : Op11) : body PR (cfE EDo) cfgRp lf0 n_law_Seat_does [.agg (seatC id t s sh), .ptr 0 3 0, .agg (op11C x)] (dfr3 a c z r :: S) some = doR3 a c z r S id t s sh x := by kernel_rfl
end Go.Crc
