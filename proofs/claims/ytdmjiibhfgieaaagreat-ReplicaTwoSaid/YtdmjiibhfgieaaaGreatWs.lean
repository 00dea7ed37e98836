/- Contracts of functions of this program. Conditions: none. -/
import Derived.Test.YtdmjiibhfgieaaaGreatWo
set_option linter.unusedVariables false
set_option linter.unusedSimpArgs false
/- The law ReplicaTwo. Conditions: none. A text of this seat's numbers. -/
set_option linter.unusedVariables false
set_option linter.unusedSimpArgs false
set_option maxRecDepth 100000
namespace Go.Crc
open Go.Vm Go.Pack Go.Rec Go.RowKit
abbrev pkC (p0 p1 : List Int) : List AV := [.slice (.int .i64) p0 .view, .slice (.int .i64) p1 .view]
abbrev rwOb : Ob := .cells [.ptr 0 5 0, .ptr 0 9 0]
abbrev twoH (t : Int) (s : List Int) (sh : List (List Int)) (p0 p1 : List Int) (z1 z2 : RpS) : List Ob :=
  [coOb t s sh, .cells (pkC p0 p1), coOb t s sh, stO z1.b z1.n z1.o, coOb t s sh, rpOj 3 z1.id z1.te z1.l z1.se, coOb t s sh, stO z2.b z2.n z2.o, coOb t s sh, rpOj 7 z2.id z2.te z2.l z2.se, rwOb]
def orM (a t : Int) (x : En) : Msg := { msg0 with k := 3, t := a, te := t, e := x }
def inL (l : List En) (y : Int) : Bool := decide (0 ≤ y) && decide (y < (l.length : Int))
def fldT (l : List En) (t a : Int) : List Int → RpS → RpS
  | [], z => z
  | y :: r, z => fldT l t a r (bif inL l y then tkZ z (orM a t (enAt l y)) else z)
def fldW (w1 : Wr) (l : List En) : List Int → Wr
  | [] => []
  | y :: r => app (fldW w1 l r) (bif inL l y then w1 else [])
def ensV : AV → Option (List En)
  | .slice (.pair (.int .i64) (.pair (.int .i64) (.pair (.slice (.int .i64)) (.pair (.int .i64) (.pair (.int .i64) (.int .i64)))))) l .view => some l
  | _ => none
theorem ensV_some {a : AV} {l : List En} (h : ensV a = some l) : a = .slice EnT l .view := by
  unfold ensV at h
  split at h
  · cases h; rfl
  · cases h
def ensW : AV → Option (List En)
  | .slice (.pair (.int .i64) (.pair (.int .i64) (.pair (.slice (.int .i64)) (.pair (.int .i64) (.pair (.int .i64) (.int .i64)))))) l .own => some l
  | _ => none
theorem ensW_some {a : AV} {l : List En} (h : ensW a = some l) : a = .slice EnT l .own := by
  unfold ensW at h
  split at h
  · cases h; rfl
  · cases h
def st2Of : List AV → Option (List Int × Int × Bool)
  | [.slice (.int .u8) b .own, .int .i64 n, .bool o] => some (b, n, o)
  | _ => none
theorem st2Of_some {cs : List AV} {x : List Int × Int × Bool} (h : st2Of cs = some x) : Ob.cells cs = stO x.1 x.2.1 x.2.2 := by
  unfold st2Of at h
  split at h
  · cases h; rfl
  · cases h
def rp2Of : List AV → Option (Nat × Int × Int × List En × Bool)
  | [.int .i64 i, .int .i64 t, .ptr 0 j 0, e, .bool se] => match ensW e with | some l => some (j, i, t, l, se) | none => none
  | _ => none
theorem rp2Of_some {cs : List AV} {x : Nat × Int × Int × List En × Bool} (h : rp2Of cs = some x) : Ob.cells cs = rpOj x.1 x.2.1 x.2.2.1 x.2.2.2.1 x.2.2.2.2 := by
  unfold rp2Of at h
  split at h
  · split at h
    · rename_i he
      cases h
      rw [ensW_some he]
    · cases h
  · cases h
def coOf : List AV → Option (Int × List Int × List (List Int))
  | [.int .i64 t, .slice (.int .i64) s .view, .slice (.slice (.int .i64)) sh .view] => some (t, s, sh)
  | _ => none
theorem coOf_some {cs : List AV} {x : Int × List Int × List (List Int)} (h : coOf cs = some x) : Ob.cells cs = coOb x.1 x.2.1 x.2.2 := by
  unfold coOf at h
  split at h
  · cases h; rfl
  · cases h
def pkOf : List AV → Option (List Int × List Int)
  | [.slice (.int .i64) a .view, .slice (.int .i64) b .view] => some (a, b)
  | _ => none
theorem pkOf_some {cs : List AV} {x : List Int × List Int} (h : pkOf cs = some x) : cs = pkC x.1 x.2 := by
  unfold pkOf at h
  split at h
  · cases h; rfl
  · cases h
def isRw : List AV → Bool
  | [.ptr 0 5 0, .ptr 0 9 0] => true
  | _ => false
theorem isRw_eq {cs : List AV} (h : isRw cs = true) : Ob.cells cs = rwOb := by
  unfold isRw at h
  split at h
  · rfl
  · cases h
abbrev TwT := (Int × List Int × List (List Int)) × (List Int × List Int) × RpS × RpS
def twoOf : List Ob → Option (TwT × Bool)
  | [.cells c, .cells p, .cells c1, .cells s1, .cells c2, .cells r1, .cells c3, .cells s2, .cells c4, .cells r2, .cells w] => match coOf c, pkOf p, st2Of s1, rp2Of r1, st2Of s2, rp2Of r2 with
    | some x, some p, some s1, some r1, some s2, some r2 =>
      some ((x, p, ⟨r1.2.1, r1.2.2.1, r1.2.2.2.1, r1.2.2.2.2, s1.1, s1.2.1, s1.2.2⟩, ⟨r2.2.1, r2.2.2.1, r2.2.2.2.1, r2.2.2.2.2, s2.1, s2.2.1, s2.2.2⟩),
        isCo x.1 x.2.1 x.2.2 c1 && (isCo x.1 x.2.1 x.2.2 c2 && (isCo x.1 x.2.1 x.2.2 c3 && (isCo x.1 x.2.1 x.2.2 c4 && (decide (r1.1 = 3) && (decide (r2.1 = 7) && isRw w))))))
    | _, _, _, _, _, _ => none
  | _ => none
theorem twoOf_some {l : List Ob} {x : TwT} (h : twoOf l = some (x, true)) : l = twoH x.1.1 x.1.2.1 x.1.2.2 x.2.1.1 x.2.1.2 x.2.2.1 x.2.2.2 := by
  unfold twoOf at h
  split at h
  · split at h
    · rename_i h1 h2 h3 h4 h5 h6
      simp only [Option.some.injEq, Prod.mk.injEq] at h
      obtain ⟨rfl, hc⟩ := h
      simp only [Bool.and_eq_true, decide_eq_true_eq] at hc
      obtain ⟨k1, k2, k3, k4, k5, k6, k7⟩ := hc
      rw [coOf_some h1, pkOf_some h2, isCo_eq k1, st2Of_some h3, isCo_eq k2, rp2Of_some h4, isCo_eq k3, st2Of_some h5, isCo_eq k4, rp2Of_some h6, isRw_eq k7, k5, k6]
    · cases h
  · cases h
def zrB (z : RpS) (a t : Int) : Bool := decide (z.id = a) && (decide (z.te = t) && (z.l == [] && (!z.se && (z.b == [] && (decide (z.n = 0) && !z.o)))))
theorem zrB_eq {z : RpS} {a t : Int} (h : zrB z a t = true) : z = zR0 a t := by
  obtain ⟨i, e, L, se, b, n, o⟩ := z
  unfold zrB at h
  simp only [Bool.and_eq_true, decide_eq_true_eq, beq_iff_eq, Bool.not_eq_true'] at h
  obtain ⟨rfl, rfl, rfl, rfl, rfl, rfl, rfl⟩ := h
  rfl
theorem zrB_z0 (a t : Int) : zrB (zR0 a t) a t = true := by
  unfold zrB zR0
  simp
abbrev wA : Wr := [(0, 5), (0, 3)]
abbrev wB : Wr := [(0, 9), (0, 7)]
abbrev twoV (l : List En) (i : Int) (q rr : Nat) (two i2 : Int) (p : List Int) (m j : Int) : List AV :=
  [.slice EnT l .view, .ptr 0 0 0, .ptr 0 1 0, .ptr 0 5 0, .ptr 0 9 0, .int .i64 i, .ptr 0 q 0, .ptr 0 10 rr, .int .i64 two, .int .i64 i2, .slice (.int .i64) p .view, .int .i64 m, .int .i64 j]
abbrev twoO (l : List En) (rr : Nat) (two i2 : Int) : List AV := [.slice EnT l .view, .ptr 0 0 0, .ptr 0 1 0, .ptr 0 5 0, .ptr 0 9 0, .ptr 0 10 rr, .int .i64 two, .int .i64 i2]
def twIF (vs : List AV) (H : Stack) : Tr (Ex × List AV × Stack × Wr) := match vs, H with
  | [e, .ptr 0 0 0, .ptr 0 1 0, .ptr 0 5 0, .ptr 0 9 0, .int .i64 i, .ptr 0 q 0, .ptr 0 10 rr, .int .i64 two, .int .i64 i2, .slice (.int .i64) p .view, .int .i64 m, .int .i64 j], h :: S =>
    match ensV e, twoOf h with
    | some l, some x => match x.1.1.2.1 with
      | a :: b :: s' => .br (x.2 && (decide (m = p.length) && decide (j = 0)))
          (.br (decide (i = 0) && (Nat.beq q 5 && zrB x.1.2.2.1 a x.1.1.1))
            (.yes (.exit 2, twoO l rr two i2, twoH x.1.1.1 (a :: b :: s') x.1.1.2.2 x.1.2.1.1 x.1.2.1.2 (fldT l x.1.1.1 a p (zR0 a x.1.1.1)) x.1.2.2.2 :: S, fldW wA l p))
            (.br (decide (i = 1) && (Nat.beq q 9 && zrB x.1.2.2.2 b x.1.1.1))
              (.yes (.exit 2, twoO l rr two i2, twoH x.1.1.1 (a :: b :: s') x.1.1.2.2 x.1.2.1.1 x.1.2.1.2 x.1.2.2.1 (fldT l x.1.1.1 b p (zR0 b x.1.1.1)) :: S, fldW wB l p)) .no)) .no
      | _ => .no
    | _, _ => .no
  | _, _ => .no
noncomputable def ETwo : List (Ent PR A) := [rNwE, rTkE, dcE, rLenE, rEtE, rEsE, saaE, ralE]
noncomputable abbrev LTwI (lf : Nat → Option LoopSum) (N : Nat) := LC PR (cfE ETwo) cfgRp lf n_law_ReplicaTwo 1 129638 [1, 3, 5, 7, 9, 11, 12, 78, 79, 80, 87, 88, 89] [1, 3, 5, 7, 9, 78, 79, 80] N
def twR (F : RpS → Wr → Option Res) (no : Option Res) (l : List En) (a t y : Int) (z : RpS) (w1 wr : Wr) : Option Res :=
  bif decide (0 ≤ y) then bif decide (y < (l.length : Int)) then (at? l y).bind fun x => bif goodR z then F (cid z (tkZ z (orM a t x))) (app w1 wr) else none else no else no
theorem twI_round0 (lf : Nat → Option LoopSum) (l : List En) (t a b : Int) (s' : List Int) (sh : List (List Int)) (p0 p1 : List Int) (z1 z2 : RpS) (rr : Nat) (two i2 : Int) (p : List Int) (m j : Int) (S : Stack) (wr : Wr) (N : Nat) (k : Ex → List AV → Stack → Wr → Option Res) :
    LTwI lf (N + 1) (twoV l 0 5 rr two i2 p m j) (twoH t (a :: b :: s') sh p0 p1 z1 z2 :: S) wr k =
      (bif decide (j < m) then (at? p j).bind fun y => twR (fun z w => LTwI lf N (twoV l 0 5 rr two i2 p m (IntKind.i64.wrap (j + 1))) (twoH t (a :: b :: s') sh p0 p1 z z2 :: S) w k)
          (LTwI lf N (twoV l 0 5 rr two i2 p m (IntKind.i64.wrap (j + 1))) (twoH t (a :: b :: s') sh p0 p1 z1 z2 :: S) wr k) l a t y z1 wA wr
      else k (.exit 2) (twoO l rr two i2) (twoH t (a :: b :: s') sh p0 p1 z1 z2 :: S) wr) := by kernel_rfl
theorem twI_round1 (lf : Nat → Option LoopSum) (l : List En) (t a b : Int) (s' : List Int) (sh : List (List Int)) (p0 p1 : List Int) (z1 z2 : RpS) (rr : Nat) (two i2 : Int) (p : List Int) (m j : Int) (S : Stack) (wr : Wr) (N : Nat) (k : Ex → List AV → Stack → Wr → Option Res) :
    LTwI lf (N + 1) (twoV l 1 9 rr two i2 p m j) (twoH t (a :: b :: s') sh p0 p1 z1 z2 :: S) wr k =
      (bif decide (j < m) then (at? p j).bind fun y => twR (fun z w => LTwI lf N (twoV l 1 9 rr two i2 p m (IntKind.i64.wrap (j + 1))) (twoH t (a :: b :: s') sh p0 p1 z1 z :: S) w k)
          (LTwI lf N (twoV l 1 9 rr two i2 p m (IntKind.i64.wrap (j + 1))) (twoH t (a :: b :: s') sh p0 p1 z1 z2 :: S) wr k) l b t y z2 wB wr
      else k (.exit 2) (twoO l rr two i2) (twoH t (a :: b :: s') sh p0 p1 z1 z2 :: S) wr) := by kernel_rfl
theorem tk_fold {F : Nat → Int → RpS → Wr → Option Res} {p : List Int} {l : List En} {m a t : Int} {E : RpS → Wr → Option Res} {w1 : Wr} (hm : m = (p.length : Int)) (hl : p.length ≤ maxInt)
    (h : ∀ N j z wr, F (N + 1) j z wr = bif decide (j < m) then (at? p j).bind fun y => twR (fun z w => F N (IntKind.i64.wrap (j + 1)) z w) (F N (IntKind.i64.wrap (j + 1)) z wr) l a t y z w1 wr else E z wr) :
    ∀ (q j : Nat) (z : RpS) (wr : Wr), j + q = p.length → (∃ F', Syn z F') → F (q + 1) (j : Int) z wr = E (fldT l t a (p.drop j) z) (app (fldW w1 l (p.drop j)) wr) := by
  intro q
  induction q with
  | zero =>
    intro j z wr hj hz
    have hd : p.drop j = [] := List.drop_of_length_le (by omega)
    rw [h, cond_ne (decide_eq_false (by omega)), hd]
    rfl
  | succ q ih =>
    intro j z wr hj hz
    have hlt : j < p.length := by omega
    have hd : p.drop j = p[j] :: p.drop (j + 1) := List.drop_eq_getElem_cons hlt
    have hx : p[j]? = some p[j] := List.getElem?_eq_getElem hlt
    rw [h, cond_eq (decide_eq_true (by omega)), at_some hx, Option.bind_some, wrap_next hlt hl, hd]
    generalize p[j] = y at hx
    have ea : ∀ (a b c : Wr), app (app a b) c = app a (app b c) := fun a b c => by simp only [app_eq, List.append_assoc]
    simp only [fldT, fldW, ea]
    unfold twR inL
    cases h0 : decide (0 ≤ y) with
    | false => exact ih (j + 1) z wr (by omega) hz
    | true =>
      cases h1 : decide (y < (l.length : Int)) with
      | false => exact ih (j + 1) z wr (by omega) hz
      | true =>
        rw [decide_eq_true_eq] at h0 h1
        obtain ⟨F', hS⟩ := hz
        have hy : l[y.toNat]? = some l[y.toNat] := List.getElem?_eq_getElem (by omega)
        have hat := at_some hy
        rw [Int.toNat_of_nonneg h0] at hat
        rw [hat, enAt_some hat]
        simp only [cond_true, Bool.and_self, Option.bind_some]
        rw [hS.inv.good, cond_true, cid_tk]
        exact ih (j + 1) _ _ (by omega) ⟨_, hS.tk _⟩
def twOF (vs : List AV) (H : Stack) : Tr (Ex × List AV × Stack × Wr) := match vs, H with
  | [e, .ptr 0 0 0, .ptr 0 1 0, .ptr 0 5 0, .ptr 0 9 0, .ptr 0 10 rr, .int .i64 two, .int .i64 i], h :: S =>
    match ensV e, twoOf h with
    | some l, some x => match x.1.1.2.1 with
      | a :: b :: s' => .br (x.2 && (Nat.beq rr (rowO + 2) && (decide (two = 2) && (decide (i = 0) && (zrB x.1.2.2.1 a x.1.1.1 && zrB x.1.2.2.2 b x.1.1.1)))))
          (.yes (.exit 0, [.slice EnT l .view, .ptr 0 5 0, .ptr 0 9 0], twoH x.1.1.1 (a :: b :: s') x.1.1.2.2 x.1.2.1.1 x.1.2.1.2 (fldT l x.1.1.1 a x.1.2.1.1 (zR0 a x.1.1.1)) (fldT l x.1.1.1 b x.1.2.1.2 (zR0 b x.1.1.1)) :: S, app (fldW wB l x.1.2.1.2) (fldW wA l x.1.2.1.1))) .no
      | _ => .no
    | _, _ => .no
  | _, _ => .no
def lfTwo : Nat → Option LoopSum := lfOf [(506, loopT [1, 3, 5, 7, 9, 78, 79, 80] [1, 7, 9] twOF), (129638, loopT [1, 3, 5, 7, 9, 11, 12, 78, 79, 80, 87, 88, 89] [1, 3, 5, 7, 9, 78, 79, 80] twIF)]
noncomputable abbrev LTwO (N : Nat) := LC PR (cfE ETwo) cfgRp lfTwo n_law_ReplicaTwo 0 506 [1, 3, 5, 7, 9, 78, 79, 80] [1, 7, 9] N
def chkT (t : Int) (s : List Int) (sh : List (List Int)) : Bool :=
  isCo t s sh [.int .i64 t, .slice (.int .i64) s .view, .slice RowT sh .view] && (isCo t s sh [.int .i64 t, .slice (.int .i64) s .view, .slice RowT sh .view] && (isCo t s sh [.int .i64 t, .slice (.int .i64) s .view, .slice RowT sh .view] && (isCo t s sh [.int .i64 t, .slice (.int .i64) s .view, .slice RowT sh .view] && true)))
theorem chkT_ok (t : Int) (s : List Int) (sh : List (List Int)) : chkT t s sh = true := by
  unfold chkT isCo
  simp
theorem twO_round (l : List En) (t a b : Int) (s' : List Int) (sh : List (List Int)) (p0 p1 : List Int) (z1 z2 : RpS) (S : Stack) (wr : Wr) (N : Nat) (k : Ex → List AV → Stack → Wr → Option Res) :
    LTwO (N + 3) (twoO l (rowO + 2) 2 0) (twoH t (a :: b :: s') sh p0 p1 z1 z2 :: S) wr k =
      (bif chkT t (a :: b :: s') sh && (decide ((p0.length : Int) = (p0.length : Int)) && true) then bif zrB z1 a t then
        bif chkT t (a :: b :: s') sh && (decide ((p1.length : Int) = (p1.length : Int)) && true) then bif zrB z2 b t then
          k (.exit 0) [.slice EnT l .view, .ptr 0 5 0, .ptr 0 9 0] (twoH t (a :: b :: s') sh p0 p1 (fldT l t a p0 (zR0 a t)) (fldT l t b p1 (zR0 b t)) :: S) (app (fldW wB l p1) (app (fldW wA l p0) wr))
        else none else none else none else none) := by kernel_rfl
theorem two_loops : ∀ x ∈ funLoops PR n_law_ReplicaTwo, ∀ L, lfTwo x.1 = some L → LoopOK (ntm PR n_law_ReplicaTwo) (fun fr H wr k => code PR (cfE ETwo) cfgRp lfTwo (cfgRp.live n_law_ReplicaTwo) x.2 (2 * x.1) fr H wr k) L := by
  refine all_loops (ps := [506, 129638]) (by kernel_rfl) fun j p hj L hL => ?_
  match j, hj with
  | 0, hj =>
    cases hj
    cases hL
    refine loopT_ok (by decide) fun vs H wr ex vs' H' w hv ha hh => ?_
    unfold twOF at hv
    split at hv
    · rename_i e rr two i h S
      split at hv
      · rename_i l x h1 h2
        split at hv
        · rename_i a b s' hs
          obtain ⟨hc, hv2⟩ := Tr.br_no hv
          clear hv
          cases hv2
          simp only [Bool.and_eq_true, decide_eq_true_eq, beq_iff] at hc
          obtain ⟨hx, rfl, rfl, rfl, hz1, hz2⟩ := hc
          have e1 := ensV_some h1
          have e2 := twoOf_some (x := x.1) (by rw [← hx]; exact h2)
          subst e1; subst e2
          rw [hs]
          refine ⟨3, fun k => ?_⟩
          have := twO_round l x.1.1.1 a b s' x.1.1.2.2 x.1.2.1.1 x.1.2.1.2 x.1.2.2.1 x.1.2.2.2 S wr 0 k
          rw [chkT_ok, decide_eq_true rfl, decide_eq_true rfl, hz1, hz2] at this
          refine this.trans ?_
          have ea : ∀ (a b c : Wr), app (app a b) c = app a (app b c) := fun a b c => by simp only [app_eq, List.append_assoc]
          rw [ea]
          rfl
        · cases hv
      · cases hv
    · cases hv
  | 1, hj =>
    cases hj
    cases hL
    refine loopT_ok (by decide) fun vs H wr ex vs' H' w hv ha hh => ?_
    unfold twIF at hv
    split at hv
    · rename_i e i q rr two i2 p m j h S
      split at hv
      · rename_i l x h1 h2
        split at hv
        · rename_i a b s' hs
          obtain ⟨hc, hv2⟩ := Tr.br_no hv
          clear hv
          simp only [Bool.and_eq_true, decide_eq_true_eq] at hc
          obtain ⟨hx, hm, rfl⟩ := hc
          have e1 := ensV_some h1
          have e2 := twoOf_some (x := x.1) (by rw [← hx]; exact h2)
          subst e1; subst e2
          simp only [okAVs, okAV] at ha
          have hp : p.length ≤ maxInt := ha.2.2.2.2.2.2.2.2.2.2.1.1
          rw [hs]
          refine ⟨p.length + 1, fun k => ?_⟩
          rcases Tr.br_or hv2 with ⟨he, h4⟩ | ⟨he, h4⟩
          · cases h4
            simp only [Bool.and_eq_true, decide_eq_true_eq, beq_iff] at he
            obtain ⟨rfl, rfl, hz⟩ := he
            have hz := zrB_eq hz
            have := tk_fold (F := fun N j z wr => LTwI lfTwo N (twoV l 0 5 rr two i2 p m j) (twoH x.1.1.1 (a :: b :: s') x.1.1.2.2 x.1.2.1.1 x.1.2.1.2 z x.1.2.2.2 :: S) wr k) (E := fun z wr => k (.exit 2) (twoO l rr two i2) (twoH x.1.1.1 (a :: b :: s') x.1.1.2.2 x.1.2.1.1 x.1.2.1.2 z x.1.2.2.2 :: S) wr) (w1 := wA) (t := x.1.1.1) (a := a) (l := l) hm hp (fun N j z wr => twI_round0 lfTwo l x.1.1.1 a b s' x.1.1.2.2 x.1.2.1.1 x.1.2.1.2 z x.1.2.2.2 rr two i2 p m j S wr N k) p.length 0 (zR0 a x.1.1.1) wr (by omega) ⟨_, zR0_syn _ _⟩
            rw [List.drop_zero] at this
            rw [hz]
            exact this
          · obtain ⟨he, h5⟩ := Tr.br_no h4
            cases h5
            simp only [Bool.and_eq_true, decide_eq_true_eq, beq_iff] at he
            obtain ⟨rfl, rfl, hz⟩ := he
            have hz := zrB_eq hz
            have := tk_fold (F := fun N j z wr => LTwI lfTwo N (twoV l 1 9 rr two i2 p m j) (twoH x.1.1.1 (a :: b :: s') x.1.1.2.2 x.1.2.1.1 x.1.2.1.2 x.1.2.2.1 z :: S) wr k) (E := fun z wr => k (.exit 2) (twoO l rr two i2) (twoH x.1.1.1 (a :: b :: s') x.1.1.2.2 x.1.2.1.1 x.1.2.1.2 x.1.2.2.1 z :: S) wr) (w1 := wB) (t := x.1.1.1) (a := b) (l := l) hm hp (fun N j z wr => twI_round1 lfTwo l x.1.1.1 a b s' x.1.1.2.2 x.1.2.1.1 x.1.2.1.2 x.1.2.2.1 z rr two i2 p m j S wr N k) p.length 0 (zR0 b x.1.1.1) wr (by omega) ⟨_, zR0_syn _ _⟩
            rw [List.drop_zero] at this
            rw [hz]
            exact this
        · cases hv
      · cases hv
    · cases hv
def twoE (l : List En) (x y : List En) (W : Wr) : Option Res :=
  let n : Int := if (y.length : Int) < (x.length : Int) then (y.length : Int) else (x.length : Int)
  bif decide ((x.length : Int) ≥ n) then bif decide ((y.length : Int) ≥ n) then
    bif decide ((0 : Int) ≤ n) && decide (n ≤ (x.length : Int)) then bif decide ((0 : Int) ≤ n) && decide (n ≤ (y.length : Int)) then
      bif (x.take n.toNat).drop 0 == (y.take n.toNat).drop 0 then
        bif decide ((0 : Int) ≤ (x.length : Int)) && decide ((x.length : Int) ≤ (l.length : Int)) then some (.bool (x == (l.take ((x.length : Int)).toNat).drop 0), W, []) else none
      else some (.bool false, W, [])
    else none else none
  else some (.bool false, W, []) else some (.bool false, W, [])
def twoK (l : List En) (z1 z2 : RpS) (W : Wr) : Option Res :=
  bif ((chP 0 [] l : Nat) : Int) != (l.length : Int) then some (.bool true, W, [])
  else bif goodR z1 then bif decide (z1.l.length ≤ 100000) then bif goodR z2 then bif decide (z2.l.length ≤ 100000) then twoE l z1.l z2.l W else none else none else none else none
theorem two_eq (t a b : Int) (s : List Int) (sh : List (List Int)) (l : List En) (p0 p1 : List Int) : body PR (cfE ETwo) cfgRp lfTwo n_law_ReplicaTwo [.agg [.int .i64 t, .slice (.int .i64) (a :: b :: s) .view, .slice RowT sh .view], .slice EnT l .view, .agg (pkC p0 p1)] [] some =
    (bif decide ((l.length : Int) > 40) then some (.bool true, [], []) else bif decide (IntKind.i64.wrap ((p0.length : Int) + (p1.length : Int)) > 200) then some (.bool true, [], [])
    else bif conOK t (a :: b :: s) sh a then bif conOK t (a :: b :: s) sh b then
      bif chkT t (a :: b :: s) sh && (true && (true && (true && (zrB (zR0 a t) a t && zrB (zR0 b t) b t)))) then twoK l (fldT l t a p0 (zR0 a t)) (fldT l t b p1 (zR0 b t)) (outer (app (app (fldW wB l p1) (fldW wA l p0)) [])) else none
      else some (.bool false, [], [])
    else bif conOK t (a :: b :: s) sh b then some (.bool false, [], []) else some (.bool true, [], [])) := by kernel_rfl
theorem two_eq0 (t : Int) (sh : List (List Int)) (l : List En) (p0 p1 : List Int) : body PR (cfE ETwo) cfgRp lfTwo n_law_ReplicaTwo [.agg [.int .i64 t, .slice (.int .i64) [] .view, .slice RowT sh .view], .slice EnT l .view, .agg (pkC p0 p1)] [] some = some (.bool true, [], []) := by kernel_rfl
theorem two_eq1 (t a : Int) (sh : List (List Int)) (l : List En) (p0 p1 : List Int) : body PR (cfE ETwo) cfgRp lfTwo n_law_ReplicaTwo [.agg [.int .i64 t, .slice (.int .i64) [a] .view, .slice RowT sh .view], .slice EnT l .view, .agg (pkC p0 p1)] [] some = some (.bool true, [], []) := by kernel_rfl
theorem chP_num : ∀ (l : List En) (i : Nat) (last : List Int), chP i last l = l.length → ∀ (y : Nat) (x : En), l[y]? = some x → x.1 = ((i + y + 1 : Nat) : Int)
  | [], i, last, _, y, x, h => by simp at h
  | e :: r, i, last, hc, y, x, h => by
    have hle := chP_le r
    simp only [chP, List.length_cons] at hc
    cases h1 : enR e with
    | false => rw [h1] at hc; simp at hc
    | true =>
      cases h2 : e.1 != ((i + 1 : Nat) : Int) with
      | true => rw [h1, h2] at hc; simp at hc
      | false =>
        have he : e.1 = ((i + 1 : Nat) : Int) := by simpa using h2
        rw [h1, h2] at hc
        have hex : ∃ last', chP (i + 1) last' r = r.length := by
          revert hc
          cases e.2.1 == 1 with
          | false => intro hc; simp at hc; exact ⟨_, hc⟩
          | true =>
            cases decide ((last.length : Int) > 0) with
            | false => intro hc; simp at hc; exact ⟨_, hc⟩
            | true =>
              cases coversB (eV e) last with
              | false => intro hc; simp at hc
              | true => intro hc; simp at hc; exact ⟨_, hc⟩
        obtain ⟨last', hr⟩ := hex
        cases y with
        | zero => simp at h; subst h; simpa using he
        | succ y =>
          have := chP_num r (i + 1) last' hr y x (by simpa using h)
          rw [this]; congr 1; omega
theorem clZ_l2 (z : RpS) : (clZ z).l = z.l := by
  unfold clZ
  cases clGo z <;> rfl
theorem tkZ_or (z : RpS) (m : Msg) : (tkZ z m).l = z.l ∨ (orGo z m.e = true ∧ (tkZ z m).l = z.l ++ [m.e]) := by
  unfold tkZ
  cases mineM z m with
  | false => exact .inl rfl
  | true =>
    cases m.k == 5 with
    | true =>
      simp only [cond_true]
      rw [(tlZ_l _ _).1, clZ_l2 z]
      exact .inl rfl
    | false =>
      cases m.k == 3 with
      | true =>
        simp only [cond_true, cond_false]
        rw [(tlZ_l _ _).1]
        cases hg : orGo z m.e with
        | false => rw [orZ_no hg]; exact .inl rfl
        | true => right; exact ⟨rfl, by unfold orZ; rw [hg]; rfl⟩
      | false => exact .inl rfl
theorem fldT_pre {l : List En} (hc : chP 0 [] l = l.length) (t a : Int) : ∀ (p : List Int) (z : RpS), z.l = l.take z.l.length → (fldT l t a p z).l = l.take (fldT l t a p z).l.length
  | [], z, h => h
  | y :: r, z, h => by
    simp only [fldT]
    refine fldT_pre hc t a r _ ?_
    cases hy : inL l y with
    | false => exact h
    | true =>
      simp only [cond_true]
      rcases tkZ_or z (orM a t (enAt l y)) with h1 | ⟨hg, h1⟩
      · rw [h1]; exact h
      · rw [h1]
        unfold inL at hy
        simp only [Bool.and_eq_true, decide_eq_true_eq] at hy
        obtain ⟨y0, y1⟩ := hy
        have hlt : y.toNat < l.length := by omega
        have hx : l[y.toNat]? = some l[y.toNat] := List.getElem?_eq_getElem hlt
        have hat := at_some hx
        rw [Int.toNat_of_nonneg y0] at hat
        have he : (orM a t (enAt l y)).e = l[y.toNat] := enAt_some hat
        rw [he] at hg ⊢
        have hn := chP_num l 0 [] hc _ _ hx
        unfold orGo at hg
        simp only [Bool.and_eq_true, beq_iff_eq] at hg
        have hn2 := hg.2.2.1
        have hyz : y.toNat = z.l.length := by rw [hn] at hn2; omega
        have hlen : (z.l ++ [l[y.toNat]]).length = z.l.length + 1 := by simp
        rw [hlen, List.take_add_one, ← h, ← hyz, hx]
        rfl
theorem fldT_syn (l : List En) (t a : Int) : ∀ (p : List Int) (z : RpS), (∃ F, Syn z F) → ∃ F, Syn (fldT l t a p z) F
  | [], z, h => h
  | y :: r, z, ⟨F, h⟩ => by
    simp only [fldT]
    refine fldT_syn l t a r _ ?_
    cases inL l y with
    | false => exact ⟨F, h⟩
    | true => exact ⟨_, h.tk _⟩
theorem fldW_all0 {w1 : Wr} (h1 : all0 w1 = true) (l : List En) : ∀ p, all0 (fldW w1 l p) = true
  | [] => rfl
  | y :: r => by
    simp only [fldW]
    refine all0_app (fldW_all0 h1 l r) ?_
    cases inL l y with
    | false => rfl
    | true => exact h1
theorem twoE_ok {l x y : List En} (hx : x = l.take x.length) (hy : y = l.take y.length) (W : Wr) : twoE l x y W = some (.bool true, W, []) := by
  have lx : x.length ≤ l.length := by rw [hx, List.length_take]; omega
  have ly : y.length ≤ l.length := by rw [hy, List.length_take]; omega
  unfold twoE
  simp only
  have hm : (if (y.length : Int) < (x.length : Int) then (y.length : Int) else (x.length : Int)) = ((min x.length y.length : Nat) : Int) := by split <;> omega
  rw [hm, decide_eq_true (show (x.length : Int) ≥ ((min x.length y.length : Nat) : Int) by omega), decide_eq_true (show (y.length : Int) ≥ ((min x.length y.length : Nat) : Int) by omega), decide_eq_true (show (0 : Int) ≤ ((min x.length y.length : Nat) : Int) by omega),
    decide_eq_true (show (0 : Int) ≤ (x.length : Int) by omega), decide_eq_true (show (x.length : Int) ≤ (l.length : Int) by omega)]
  have h1 : x.take (min x.length y.length) = l.take (min x.length y.length) := by
    conv => lhs; rw [hx]
    rw [List.take_take]; congr 1; rw [List.length_take]; omega
  have h2 : y.take (min x.length y.length) = l.take (min x.length y.length) := by
    conv => lhs; rw [hy]
    rw [List.take_take]; congr 1; rw [List.length_take]; omega
  simp only [Int.toNat_natCast, List.drop_zero, h1, h2, ← hx, beq_self_eq_true, cond_true, Bool.and_self]
theorem conOK_b {t : Int} {s : List Int} {sh : List (List Int)} {a b : Int} (ha : a ∈ s) (hb : b ∈ s) : conOK t s sh a = conOK t s sh b := by
  have h : ∀ c, c ∈ s → (s.any fun y => c == y) = true := fun c hc => List.any_eq_true.2 ⟨c, hc, by simp⟩
  unfold conOK
  rw [h a ha, h b hb]
theorem rep_two (t : Int) (s : List Int) (sh : List (List Int)) (l : List En) (p0 p1 : List Int) : body PR (cfE ETwo) cfgRp lfTwo n_law_ReplicaTwo [.agg [.int .i64 t, .slice (.int .i64) s .view, .slice RowT sh .view], .slice EnT l .view, .agg (pkC p0 p1)] [] some = some (.bool true, [], []) := by
  match s with
  | [] => exact two_eq0 t sh l p0 p1
  | [a] => exact two_eq1 t a sh l p0 p1
  | a :: b :: s =>
    rw [two_eq, outer_app0 _ _ (all0_app (fldW_all0 rfl l p1) (fldW_all0 rfl l p0)), chkT_ok, zrB_z0, zrB_z0, conOK_b (a := b) (b := a) (s := a :: b :: s) (by simp) (by simp)]
    cases decide ((l.length : Int) > 40) with
    | true => rfl
    | false =>
    cases decide (IntKind.i64.wrap ((p0.length : Int) + (p1.length : Int)) > 200) with
    | true => rfl
    | false =>
    cases conOK t (a :: b :: s) sh a with
    | false => rfl
    | true =>
      obtain ⟨F1, h1⟩ := fldT_syn l t a p0 (zR0 a t) ⟨_, zR0_syn a t⟩
      obtain ⟨F2, h2⟩ := fldT_syn l t b p1 (zR0 b t) ⟨_, zR0_syn b t⟩
      simp only [cond_true, cond_false, Bool.and_self]
      unfold twoK
      cases hc : ((chP 0 [] l : Nat) : Int) != (l.length : Int) with
      | true => rfl
      | false =>
        have hc' : chP 0 [] l = l.length := by have : ((chP 0 [] l : Nat) : Int) = (l.length : Int) := by simpa using hc
                                               omega
        rw [h1.inv.good, h2.inv.good, decide_eq_true (goodR_len h1.inv.good), decide_eq_true (goodR_len h2.inv.good)]
        simp only [cond_true, cond_false]
        exact twoE_ok (fldT_pre hc' t a p0 _ rfl) (fldT_pre hc' t b p1 _ rfl) _
end Go.Crc
