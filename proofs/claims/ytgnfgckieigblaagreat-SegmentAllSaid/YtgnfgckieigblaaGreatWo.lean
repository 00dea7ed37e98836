/- Contracts of functions of this program. Conditions: none. -/
import Derived.Test.YtgnfgckieigblaaGreatWn
import Derived.Test.YtgnfgckieigblaaGreatWm
set_option linter.unusedVariables false
set_option linter.unusedSimpArgs false
/- The law SegmentAll. Conditions: none. A text of this seat's numbers. -/
set_option linter.unusedVariables false
set_option linter.unusedSimpArgs false
set_option maxRecDepth 100000
namespace Go.Crc
open Go.Vm Go.Pack Go.Rec Go.RowKit
/-! ### Do -/
def sdF (F : List (List Int)) (y : Int) (f : Bool) (s kd N c n : Int) (t d : List Int) : List (List Int) := bif kd == 0 then dAF F y f s N c n t d else bif kd == 2 then dTF F y f s N else bif kd == 4 then F.take (dcN F y N) else F
def sdY (F : List (List Int)) (y : Int) (f : Bool) (kd N : Int) : Int := bif kd == 3 then (bif f then y else (F.length : Int)) else bif kd == 4 then ((dcN F y N : Nat) : Int) else y
def sdO (f : Bool) (kd : Int) (is : Bool) : Bool := bif kd == 4 then false else bif kd == 5 then is else f
def sdS (F : List (List Int)) (y : Int) (f : Bool) (s kd N : Int) : Int := bif kd == 3 then (bif f then s else ((sgR F [] 0).1.length : Int)) else bif kd == 4 then ((sgR (F.take (dcN F y N)) [] 0).1.length : Int) else s
def sddC : List AV → Tr AV
  | [.agg [.slice .str F .view, .int .i64 y, .bool f, .int .i64 s], .agg [.int .i64 kd, .int .i64 N, .int .i64 c, .int .i64 n, .slice (.int .i64) t .view, .str d, .bool is]] => .br (gF F y) (.yes (.tuple [dSg (sdF F y f s kd N c n t d) (sdY F y f kd N) (sdO f kd is) (sdS F y f s kd N), recA (dR (docZ F y f s) kd N), .int .i64 (dE (docZ F y f s) kd N c n t d)])) .no
  | _ => .no
noncomputable abbrev ESd : List (Ent PR A) := [dap9E, dgtE, dtmE, ofE, dcrE, dopE]
def sddR (F : List (List Int)) (y : Int) (f : Bool) (s kd N c n : Int) (t d : List Int) (is : Bool) (S : Stack) : Option Res :=
  bif kd == 0 then bif gF F y then some (.tuple [dSg (dAF F y f s N c n t d) y f s, rec4 0 0 [] [], .int .i64 (apErr (docZ F y f s) N c n t d)], [], S) else none
  else bif kd == 1 then bif gF F y then some (.tuple [dSg F y f s, recA (gtR (docZ F y f s) N), .int .i64 (gtE (docZ F y f s) N)], [], S) else none
  else bif kd == 2 then bif gF F y then some (.tuple [dSg (dTF F y f s N) y f s, rec4 0 0 [] [], .int .i64 (tmErr (docZ F y f s) N)], [], S) else none
  else bif kd == 3 then bif !f then bif smF F then some (.tuple [dSg F (F.length : Int) f ((sgR F [] 0).1.length : Int), rec4 0 0 [] [], .int .i64 0], [], S) else none else some (.tuple [dSg F y f s, rec4 0 0 [] [], .int .i64 0], [], S)
  else bif kd == 4 then bif decide (0 ≤ y) && (decide (y ≤ (F.length : Int)) && smallL F) then bif smF (F.take (dcN F y N)) then some (.tuple [dSg (F.take (dcN F y N)) ((dcN F y N : Nat) : Int) false ((sgR (F.take (dcN F y N)) [] 0).1.length : Int), rec4 0 0 [] [], .int .i64 0], [], S) else none else none
  else bif kd == 5 then some (.tuple [dSg F y is s, rec4 0 0 [] [], .int .i64 0], [], S)
  else some (.tuple [dSg F y f s, rec4 0 0 [] [], .int .i64 0], [], S)
theorem sdd_eq (F : List (List Int)) (y : Int) (f : Bool) (s kd N c n : Int) (t d : List Int) (is : Bool) (S : Stack) : body PR (cfE ESd) cfgS lf0 n_ref09_Do [dSg F y f s, sopV kd N c n t d is] S some = sddR F y f s kd N c n t d is S := by kernel_rfl
theorem smF_take {F : List (List Int)} (h : smF F = true) (k : Nat) : smF (F.take k) = true := by
  unfold smF at h ⊢
  simp only [Bool.and_eq_true, decide_eq_true_eq, List.all_eq_true] at h ⊢
  exact ⟨by rw [List.length_take]; omega, fun x hx => h.2 x (List.mem_of_mem_take hx)⟩
theorem sdd_ok : Con PR A n_ref09_Do (pureC sddC) := by
  refine pure_con0 (cfg := cfgS) ESd mixed (by kernel_rfl) (by kernel_rfl) (by kernel_rfl) fun args v hv ha S => ?_
  unfold sddC at hv
  split at hv
  · rename_i F y f s kd N c n t d is
    obtain ⟨hc, hv2⟩ := Tr.br_no hv
    cases hv2
    have hc2 : (decide (0 ≤ y) && (decide (y ≤ (F.length : Int)) && smallL F)) = true := hc
    obtain ⟨g1, g2, g3⟩ := gF_iff.1 hc
    refine (sdd_eq F y f s kd N c n t d is S).trans ?_
    unfold sddR
    rw [hc, hc2, smallL_smF g3, smF_take (smallL_smF g3)]
    by_cases e0 : kd = 0
    · subst e0; rfl
    by_cases e1 : kd = 1
    · subst e1; rfl
    by_cases e2 : kd = 2
    · subst e2; rfl
    by_cases e3 : kd = 3
    · subst e3; cases f <;> rfl
    by_cases e4 : kd = 4
    · subst e4; rfl
    by_cases e5 : kd = 5
    · subst e5; rfl
    unfold sdF sdY sdO sdS dR dE
    rw [ne_beqI e0, ne_beqI e1, ne_beqI e2, ne_beqI e3, ne_beqI e4, ne_beqI e5]
    rfl
  · cases hv
def sddE : Ent PR A := ⟨n_ref09_Do, _, sdd_ok⟩
/-! ### stands -/
def stnB (z : SgS) (F : List (List Int)) (s : Int) : Bool := ((z.l.length : Int) == ((sgR F [] 0).1.length : Int)) && ((z.t == (sgR F [] 0).2.1) && ((z.s == s) && (z.l.drop z.t.toNat == (sgR F [] 0).1.drop (sgR F [] 0).2.1.toNat)))
def stnF : List AV → SgS → Tr (AV × SgS)
  | [.agg [.slice .str F .view, .int .i64 y, .bool f, .int .i64 s]], z => .br (goodS z && smF F) (.yes (.bool (stnB z F s), z)) .no
  | _, _ => .no
theorem stn_ok : Con PR A n_law_stands (obj2C (sgF false false stnF)) := by
  refine obj2C_ok (sg_two fun rest z v z' hv => ?_)
  unfold stnF at hv
  split at hv
  · rename_i F y f s
    obtain ⟨hc, hv2⟩ := Tr.br_no hv
    cases hv2
    simp only [Bool.and_eq_true] at hc
    obtain ⟨h1, h2⟩ := hc
    refine ⟨rfl, rfl, by simp, by simp, fun _ hh => ?_⟩
    have h : body PR (cfE (P := PR) (A := A) [ofE, sLenE, sTrE, sSaE, sAlE, sallE]) cfgS lf0 n_law_stands [.ptr 1 0 0, dSg F y f s] (sgH z) some =
      (bif smF F then bif (z.l.length : Int) == ((sgR F [] 0).1.length : Int) then bif z.t == (sgR F [] 0).2.1 then bif z.s == s then bif goodS z then
          bif decide (0 ≤ (sgR F [] 0).2.1) && decide ((sgR F [] 0).2.1 ≤ ((sgR F [] 0).1.length : Int)) then some (.bool (z.l.drop z.t.toNat == ((sgR F [] 0).1.take (sgR F [] 0).1.length).drop (sgR F [] 0).2.1.toNat), [], sgH z) else none else none
        else some (.bool false, [], sgH z) else some (.bool false, [], sgH z) else some (.bool false, [], sgH z) else none) := by kernel_rfl
    refine fun_call _ mixed (by kernel_rfl) (by kernel_rfl) (no_loops (by kernel_rfl)) (h.trans ?_)
    have hin := sgR_in F (L := []) (t := 0) ⟨Int.le_refl _, Int.le_refl _⟩
    unfold stnB
    rw [h1, h2, decide_eq_true hin.1, decide_eq_true hin.2, List.take_of_length_le (Nat.le_refl _)]
    cases ((z.l.length : Int) == ((sgR F [] 0).1.length : Int)) with
    | false => rfl
    | true =>
      cases (z.t == (sgR F [] 0).2.1) with
      | false => rfl
      | true => cases (z.s == s) <;> rfl
  · cases hv
def stnE : Ent PR A := ⟨n_law_stands, _, stn_ok⟩
theorem stn_inv {z : SgS} {F : List (List Int)} {y : Nat} (h : SgInv z F y) : stnB z F z.s = true := by
  unfold stnB
  rw [h.l, h.t]
  simp
/-! ### One call on both sides -/
theorem smB_all : ∀ {l : List (List Int)}, (∀ x ∈ l, x.length ≤ 65536) → smB l = true
  | [], _ => rfl
  | x :: r, h => by
    simp only [smB, Bool.and_eq_true, decide_eq_true_eq]
    exact ⟨h x (by simp), smB_all fun y hy => h y (by simp [hy])⟩
theorem inv_smallL {b : List Int} {n : Int} {l : List (List Int)} {y : Nat} (h : Inv b n l y) : smallL l = true := by
  unfold Crc.smallL
  have h1 := catF_count l
  have h2 := h.len
  rw [h.cat] at h2
  rw [smB_all fun x hx => (h.small x hx).1, decide_eq_true (show l.length ≤ 20000 by omega)]
  rfl
theorem SgInv.gF {z : SgS} {F : List (List Int)} {y : Nat} (h : SgInv z F y) : gF F (y : Int) = true := by
  have := h.st.le
  exact gF_iff.2 ⟨by omega, by omega, inv_smallL h.st⟩
abbrev dgOb (F : List (List Int)) (y : Int) (f : Bool) (s : Int) : Ob := .cells [.slice .str F .view, .int .i64 y, .bool f, .int .i64 s]
theorem both_F {z : SgS} {F : List (List Int)} {y : Nat} (h : SgInv z F y) (kd N c n : Int) (t d : List Int) : sdF F (y : Int) z.o z.s kd N c n t d = dF z F y kd N c n t d ∧ sdY F (y : Int) z.o kd N = ((dY z F y kd N : Nat) : Int) := by
  have hz := h.doc
  unfold sdF sdY dF dY dAF dTF
  rw [← hz]
  by_cases e0 : kd = 0
  · subst e0; exact ⟨by cases apGo z N c n t d <;> rfl, rfl⟩
  by_cases e2 : kd = 2
  · subst e2; exact ⟨by cases tmGo z N <;> rfl, rfl⟩
  by_cases e3 : kd = 3
  · subst e3; exact ⟨rfl, by cases z.o <;> rfl⟩
  by_cases e4 : kd = 4
  · subst e4; exact ⟨rfl, rfl⟩
  rw [ne_beqI e0, ne_beqI e2, ne_beqI e3, ne_beqI e4]
  exact ⟨rfl, rfl⟩
theorem both_o {z : SgS} (kd N c n : Int) (t d : List Int) (is : Bool) : (dZ z kd N c n t d is).o = sdO z.o kd is := by
  unfold dZ sdO
  by_cases e0 : kd = 0
  · subst e0; rfl
  by_cases e2 : kd = 2
  · subst e2; rfl
  by_cases e3 : kd = 3
  · subst e3; rfl
  by_cases e4 : kd = 4
  · subst e4; rfl
  by_cases e5 : kd = 5
  · subst e5; rfl
  rw [ne_beqI e0, ne_beqI e2, ne_beqI e3, ne_beqI e4, ne_beqI e5]
  rfl
theorem both_s {z : SgS} {F : List (List Int)} {y : Nat} (h : SgInv z F y) {kd N c n : Int} {t d : List Int} {is : Bool} (hd : isBytes d) : (dZ z kd N c n t d is).s = sdS F (y : Int) z.o z.s kd N := by
  have h2 := h.step (kd := kd) (N := N) (c := c) (n := n) (t := t) (is := is) hd
  rw [h2.s]
  have hle := h.st.le
  have hs := h.s
  unfold dF dY sdS
  by_cases e0 : kd = 0
  · subst e0
    show ((sgR ((bif apGo z N c n t d then F ++ [1 :: encB c n t d] else F).take y) [] 0).1.length : Int) = z.s
    cases apGo z N c n t d with
    | true => rw [cond_true, List.take_append_of_le_length hle, ← hs]
    | false => rw [cond_false, ← hs]
  by_cases e2 : kd = 2
  · subst e2
    show ((sgR ((bif tmGo z N then F ++ [2 :: num N] else F).take y) [] 0).1.length : Int) = z.s
    cases tmGo z N with
    | true => rw [cond_true, List.take_append_of_le_length hle, ← hs]
    | false => rw [cond_false, ← hs]
  by_cases e3 : kd = 3
  · subst e3
    show ((sgR (F.take (bif z.o then y else F.length)) [] 0).1.length : Int) = bif z.o then z.s else ((sgR F [] 0).1.length : Int)
    cases z.o with
    | true => rw [cond_true, cond_true, ← hs]
    | false => rw [cond_false, cond_false, List.take_of_length_le (Nat.le_refl _)]
  by_cases e4 : kd = 4
  · subst e4
    show ((sgR ((F.take (dcN F (y : Int) N)).take (dcN F (y : Int) N)) [] 0).1.length : Int) = ((sgR (F.take (dcN F (y : Int) N)) [] 0).1.length : Int)
    rw [List.take_take, Nat.min_self]
  rw [ne_beqI e0, ne_beqI e2, ne_beqI e3, ne_beqI e4]
  exact hs.symm
/-! ### The loop -/
abbrev dZO (z : SgS) (x : SOp) : SgS := dZ z x.1 x.2.1 x.2.2.1.1.1 x.2.2.1.1.2 x.2.2.1.2.1 x.2.2.1.2.2 x.2.2.2
abbrev dFO (z : SgS) (F : List (List Int)) (y : Nat) (x : SOp) : List (List Int) := dF z F y x.1 x.2.1 x.2.2.1.1.1 x.2.2.1.1.2 x.2.2.1.2.1 x.2.2.1.2.2
def saS : List SOp → SgS → List (List Int) → Nat → SgS × List (List Int) × Nat
  | [], z, F, y => (z, F, y)
  | x :: r, z, F, y => saS r (dZO z x) (dFO z F y x) (dY z F y x.1 x.2.1)
def saChk (z : SgS) (F : List (List Int)) (y s : Int) (f : Bool) : Bool :=
  (z.b == catF F) && (smB F && (decide (z.b.length ≤ 65536) && (decide (0 ≤ y) && (decide (y ≤ (F.length : Int)) && ((z.n == ((catF (F.take y.toNat)).length : Int)) && ((z.l == (sgR F [] 0).1) && ((z.t == (sgR F [] 0).2.1) && ((z.br == (sgR F [] 0).2.2) && ((z.s == ((sgR (F.take y.toNat) [] 0).1.length : Int)) && ((z.s == s) && (z.o == f)))))))))))
def saF (vs : List AV) (H : Stack) : Tr (Ex × List AV × Stack × Wr) := match vs, H with
  | [.ptr 0 3 0, .ptr 0 4 0, .slice (.pair (.int .i64) (.pair (.int .i64) (.pair (.pair (.pair (.int .i64) (.int .i64)) (.pair (.slice (.int .i64)) .str)) .bool))) l .view, .int .i64 m, .int .i64 i], [.cells [.ptr 0 1 0, .ptr 0 2 0], .cells [.slice (.int .u8) b .own, .int .i64 n, .bool o], .cells [.ptr 0 1 0, .slice (.pair (.pair (.int .i64) (.int .i64)) (.pair (.slice (.int .i64)) .str)) L .own, .int .i64 t, .int .i64 s, .bool br], .cells [.ptr 0 1 0, .ptr 0 2 0], .cells [.slice .str F .view, .int .i64 y, .bool f, .int .i64 sd]] :: S =>
    .br (decide (m = l.length) && (decide (i = 0) && saChk ⟨L, t, s, br, b, n, o⟩ F y sd f))
      (.yes (.exit 0, [.undef], app (H4 (saS l ⟨L, t, s, br, b, n, o⟩ F y.toNat).1) [dgOb (saS l ⟨L, t, s, br, b, n, o⟩ F y.toNat).2.1 (((saS l ⟨L, t, s, br, b, n, o⟩ F y.toNat).2.2 : Nat) : Int) (saS l ⟨L, t, s, br, b, n, o⟩ F y.toNat).1.o (saS l ⟨L, t, s, br, b, n, o⟩ F y.toNat).1.s] :: S, repApp l.length [(0, 8), (0, 2), (0, 1), (0, 4), (0, 7), (0, 6), (0, 5)])) .no
  | _, _ => .no
def lfSa : Nat → Option LoopSum := lfOf [(1018, loopT [5, 7, 39, 40, 41] [4] saF)]
noncomputable def ESa : List (Ent PR A) := [salE, sfewE, opE, dnwE, dopE, stnE, sddE, sDoE, samerE]
noncomputable abbrev LSa (N : Nat) := LC PR (cfE ESa) cfgS lfSa n_law_SegmentAll 0 1018 [5, 7, 39, 40, 41] [4] N
abbrev saH (z : SgS) (F : List (List Int)) (y : Int) (f : Bool) (s : Int) : List Ob := app (H4 z) [dgOb F y f s]
abbrev opOb (x : SOp) : Ob := .cells [.int .i64 x.1, .int .i64 x.2.1, .int .i64 x.2.2.1.1.1, .int .i64 x.2.2.1.1.2, .slice (.int .i64) x.2.2.1.2.1 .view, .str x.2.2.1.2.2, .bool x.2.2.2]
def saK (eD eP : Int) (rP rD : Rc) (z : SgS) (F : List (List Int)) (s : Int) (no ok : Option Res) : Option Res :=
  bif eD != eP then no else bif !(rP == rD) then no else bif goodS z && smF F then bif !stnB z F s then no else ok else none
abbrev sdFO (F : List (List Int)) (y : Int) (f : Bool) (s : Int) (x : SOp) : List (List Int) := sdF F y f s x.1 x.2.1 x.2.2.1.1.1 x.2.2.1.1.2 x.2.2.1.2.1 x.2.2.1.2.2
theorem sa_round (l : List SOp) (m i : Int) (z : SgS) (F : List (List Int)) (y : Int) (f : Bool) (s : Int) (S : Stack) (wr : Wr) (N : Nat) (k : Ex → List AV → Stack → Wr → Option Res) :
    LSa (N + 1) [.ptr 0 3 0, .ptr 0 4 0, .slice SOpT l .view, .int .i64 m, .int .i64 i] (saH z F y f s :: S) wr k =
      (bif decide (i < m) then (at? l i).bind fun x => bif gF F y then bif goodS z then
        saK (dE (docZ F y f s) x.1 x.2.1 x.2.2.1.1.1 x.2.2.1.1.2 x.2.2.1.2.1 x.2.2.1.2.2) (dE z x.1 x.2.1 x.2.2.1.1.1 x.2.2.1.1.2 x.2.2.1.2.1 x.2.2.1.2.2) (dR z x.1 x.2.1) (dR (docZ F y f s) x.1 x.2.1) (dZO z x) (sdFO F y f s x) (sdS F y f s x.1 x.2.1)
          (k .ret [.bool false] (app (saH (dZO z x) (sdFO F y f s x) (sdY F y f x.1 x.2.1) (sdO f x.1 x.2.2.2) (sdS F y f s x.1 x.2.1)) [opOb x, dgOb (sdFO F y f s x) (sdY F y f x.1 x.2.1) (sdO f x.1 x.2.2.2) (sdS F y f s x.1 x.2.1), recObS (dR (docZ F y f s) x.1 x.2.1), recObS (dR z x.1 x.2.1)] :: S) (app [(0, 8), (0, 2), (0, 1), (0, 4), (0, 7), (0, 6), (0, 5)] wr))
          (LSa N [.ptr 0 3 0, .ptr 0 4 0, .slice SOpT l .view, .int .i64 m, .int .i64 (IntKind.i64.wrap (i + 1))] (saH (dZO z x) (sdFO F y f s x) (sdY F y f x.1 x.2.1) (sdO f x.1 x.2.2.2) (sdS F y f s x.1 x.2.1) :: S) (app [(0, 8), (0, 2), (0, 1), (0, 4), (0, 7), (0, 6), (0, 5)] wr) k)
      else none else none else k (.exit 0) [.undef] (saH z F y f s :: S) wr) := by kernel_rfl
theorem saK_ok {z : SgS} {F : List (List Int)} {y : Nat} (h : SgInv z F y) {s : Int} (hs : z.s = s) (e : Int) (r : Rc) (no ok : Option Res) : saK e e r r z F s no ok = ok := by
  subst hs
  unfold saK
  rw [h.good, smallL_smF (inv_smallL h.st), stn_inv h]
  simp
theorem sa_loop (l : List SOp) (m : Int) (hm : m = (l.length : Int)) (hl : l.length ≤ maxInt) (hb : ∀ x ∈ l, isBytes x.2.2.1.2.2) (S : Stack) (k : Ex → List AV → Stack → Wr → Option Res) : ∀ (q j : Nat) (z : SgS) (F : List (List Int)) (y : Nat) (wr : Wr), j + q = l.length → SgInv z F y →
    LSa (q + 1) [.ptr 0 3 0, .ptr 0 4 0, .slice SOpT l .view, .int .i64 m, .int .i64 (j : Int)] (saH z F (y : Int) z.o z.s :: S) wr k =
      k (.exit 0) [.undef] (saH (saS (l.drop j) z F y).1 (saS (l.drop j) z F y).2.1 (((saS (l.drop j) z F y).2.2 : Nat) : Int) (saS (l.drop j) z F y).1.o (saS (l.drop j) z F y).1.s :: S) (app (repApp q [(0, 8), (0, 2), (0, 1), (0, 4), (0, 7), (0, 6), (0, 5)]) wr) := by
  intro q
  induction q with
  | zero =>
    intro j z F y wr hj hI
    have hd : l.drop j = [] := List.drop_of_length_le (by omega)
    rw [sa_round, cond_ne (decide_eq_false (by omega)), hd]
    rfl
  | succ q ih =>
    intro j z F y wr hj hI
    have hlt : j < l.length := by omega
    have hd : l.drop j = l[j] :: l.drop (j + 1) := List.drop_eq_getElem_cons hlt
    have hx : l[j]? = some l[j] := List.getElem?_eq_getElem hlt
    have hbx := hb l[j] (List.getElem_mem hlt)
    rw [sa_round, cond_eq (decide_eq_true (by omega)), at_some hx, Option.bind_some, hI.gF, cond_true, hI.good, cond_true, wrap_next hlt hl, hd, ← hI.doc]
    generalize l[j] = x at hx hbx
    simp only [saS]
    have h2 : SgInv (dZO z x) (dFO z F y x) (dY z F y x.1 x.2.1) := hI.step hbx
    obtain ⟨f1, f2⟩ := both_F hI x.1 x.2.1 x.2.2.1.1.1 x.2.2.1.1.2 x.2.2.1.2.1 x.2.2.1.2.2
    have f1' : sdFO F (y : Int) z.o z.s x = dFO z F y x := f1
    have ho : (dZO z x).o = sdO z.o x.1 x.2.2.2 := both_o _ _ _ _ _ _ _
    have hs : (dZO z x).s = sdS F (y : Int) z.o z.s x.1 x.2.1 := both_s hI hbx
    have hi := ih (j + 1) (dZO z x) (dFO z F y x) (dY z F y x.1 x.2.1) (app [(0, 8), (0, 2), (0, 1), (0, 4), (0, 7), (0, 6), (0, 5)] wr) (by omega) h2
    rw [f1', f2, ← ho, ← hs, saK_ok h2 rfl, rep_more]
    exact hi
theorem sa_loops : ∀ x ∈ funLoops PR n_law_SegmentAll, ∀ L, lfSa x.1 = some L → LoopOK (ntm PR n_law_SegmentAll) (fun fr H wr k => code PR (cfE ESa) cfgS lfSa (cfgS.live n_law_SegmentAll) x.2 (2 * x.1) fr H wr k) L := by
  refine one_loop (p := 1018) rfl (by kernel_rfl) (loopT_ok (by decide) fun vs H wr ex vs' H' w hv ha hh => ?_)
  unfold saF at hv
  split at hv
  · rename_i l m i b n o L t s br F y f sd S
    obtain ⟨hc, hv2⟩ := Tr.br_no hv
    cases hv2
    unfold saChk at hc
    simp only [Bool.and_eq_true, decide_eq_true_eq, beq_iff_eq] at hc
    obtain ⟨h1, h2, c1, c2, c3, c4, c5, c6, c7, c8, c9, c10, c11, c12⟩ := hc
    subst h2
    subst c11
    subst c12
    have hF := hh 0 4 _ rfl
    simp only [okAVs, okAV] at hF
    have hy : ((y.toNat : Nat) : Int) = y := by omega
    have hI : SgInv ⟨L, t, s, br, b, n, o⟩ F y.toNat := ⟨⟨c1, fun x hx => ⟨smB_mem c2 x hx, (hF.1.2 x hx).2⟩, c3, by omega, c6⟩, c7, c8, c9, c10⟩
    simp only [okAVs, okAV] at ha
    have hl : l.length ≤ maxInt := ha.2.2.1.1
    have hb : ∀ x ∈ l, isBytes x.2.2.1.2.2 := fun x hx => (ha.2.2.1.2 x hx).2.2.1.2.2.2
    refine ⟨l.length + 1, fun k => ?_⟩
    have := sa_loop l m h1 hl hb S k l.length 0 ⟨L, t, s, br, b, n, o⟩ F y.toNat wr (by omega) hI
    rw [List.drop_zero, hy] at this
    exact this
  · cases hv
theorem sz_bytesS {b : List Int} (h : Sz (.slice (.int .u8)) b) : isBytes b := fun x hx => by
  have := h.2 x hx
  simpa [Sz, IntKind.min, IntKind.max, IntKind.signed, IntKind.bits] using this
theorem sa_eq (b : List Int) (l : List SOp) : body PR (cfE ESa) cfgS lfSa n_law_SegmentAll [.slice (.int .u8) b .view, .slice SOpT l .view] [] some =
    (bif decide ((b.length : Int) > 3000) then some (.bool true, [], []) else bif !sfewV l then some (.bool true, [], [])
    else bif smF (scanL (b.take 65536)) then
      bif goodS (ofB (nwB b) (scanN (b.take 65536)) false) && smF (scanL (b.take 65536)) then
        bif !stnB (ofB (nwB b) (scanN (b.take 65536)) false) (scanL (b.take 65536)) ((sgR (scanL (b.take 65536)) [] 0).1.length : Int) then some (.bool false, [], [])
        else bif decide ((l.length : Int) = (l.length : Int)) && (decide ((0 : Int) = 0) && saChk (ofB (nwB b) (scanN (b.take 65536)) false) (scanL (b.take 65536)) ((scanL (b.take 65536)).length : Int) ((sgR (scanL (b.take 65536)) [] 0).1.length : Int) false) then some (.bool true, outer (app (repApp l.length [(0, 8), (0, 2), (0, 1), (0, 4), (0, 7), (0, 6), (0, 5)]) [(0, 4), (0, 3)]), []) else none
      else none
    else none) := by kernel_rfl
theorem seg_all (b : List Int) (l : List SOp) (hb : isBytes b) : body PR (cfE ESa) cfgS lfSa n_law_SegmentAll [.slice (.int .u8) b .view, .slice SOpT l .view] [] some = some (.bool true, [], []) := by
  rw [sa_eq]
  have hI := SgInv.new hb
  have hsm := inv_smallL hI.st
  have hs : (ofB (nwB b) (scanN (b.take 65536)) false).s = ((sgR (scanL (b.take 65536)) [] 0).1.length : Int) := by
    rw [hI.s, List.take_of_length_le (Nat.le_refl _)]
  have hst := stn_inv hI
  rw [hs] at hst
  have hC : saChk (ofB (nwB b) (scanN (b.take 65536)) false) (scanL (b.take 65536)) ((scanL (b.take 65536)).length : Int) ((sgR (scanL (b.take 65536)) [] 0).1.length : Int) false = true := by
    unfold saChk
    simp only [Bool.and_eq_true, decide_eq_true_eq, beq_iff_eq]
    refine ⟨hI.st.cat, smB_all fun x hx => (hI.st.small x hx).1, hI.st.len, by omega, Int.le_refl _, ?_, hI.l, hI.t, hI.br, ?_, hs, rfl⟩
    · rw [Int.toNat_natCast]; exact hI.st.syn
    · rw [Int.toNat_natCast]; exact hI.s
  rw [smallL_smF hsm, hI.good, hst, hC, outer_app0 _ _ (all0_rep rfl _)]
  cases decide ((b.length : Int) > 3000) with
  | true => rfl
  | false => cases sfewV l <;> simp [outer]
end Go.Crc
