/- Contracts of functions of this program. Conditions: none. -/
import Derived.Test.YtgnfgckieigblaaWk
set_option linter.unusedVariables false
set_option linter.unusedSimpArgs false
/- The law SegmentFull. Conditions: none. A text of this seat's numbers. -/
set_option linter.unusedVariables false
set_option linter.unusedSimpArgs false
set_option maxRecDepth 100000
namespace Go.Crc
open Go.Vm Go.Pack Go.Rec Go.RowKit
def fuS (x : Rc) : Nat → SgS → SgS
  | 0, z => z
  | q + 1, z => fuS x q (apZR z (z.l.length : Int) x)
def suF (vs : List AV) (H : Stack) : Tr (Ex × List AV × Stack × Wr) := match vs, H with
  | [.ptr 0 0 0, .ptr 0 4 0, .int .i64 m, .int .i64 i], [.cells [.int .i64 c, .int .i64 n0, .slice (.int .i64) tg .view, .str d], .cells [.ptr 0 2 0, .ptr 0 3 0], .cells [.slice (.int .u8) b .own, .int .i64 n, .bool false], .cells [.ptr 0 2 0, .slice (.pair (.pair (.int .i64) (.int .i64)) (.pair (.slice (.int .i64)) .str)) L .own, .int .i64 t, .int .i64 s, .bool false], .cells [.ptr 0 2 0, .ptr 0 3 0]] :: S =>
    .br (decide (0 ≤ m) && (decide (m ≤ 600) && (decide (i = 0) && isZ0 ⟨L, t, s, false, b, n, false⟩))) (.br (decide (m = 0) || rightR c n0 tg d)
      (.yes (.exit 0, [.undef], H5 ((c, n0), (tg, d)) (fuS ((c, n0), (tg, d)) m.toNat z0) :: S, repApp m.toNat [(0, 3), (0, 2)]))
      (.yes (.ret, [.bool true], H5 ((c, n0), (tg, d)) z0 :: S, [(0, 3), (0, 2)]))) .no
  | _, _ => .no
def lfSu : Nat → Option LoopSum := lfOf [(122, loopT [2, 5, 28, 29] [4] suF)]
noncomputable def ESu : List (Ent PR A) := [opE, salE, sApE, sLenE]
noncomputable abbrev LSu (N : Nat) := LC PR (cfE ESu) cfgS lfSu n_law_SegmentFull 0 122 [2, 5, 28, 29] [4] N
def suC (z1 : SgS) (no ok : Option Res) : Option Res := bif decide ((z1.l.length : Int) > 512) then no else ok
def suB (e : Int) (was : Int) (z1 : SgS) (no ok : Option Res) : Option Res :=
  bif e != 0 then bif (z1.l.length : Int) != was then no else bif e != 90 then bif e != 80 then no else suC z1 no ok else suC z1 no ok else suC z1 no ok
def suA (e : Int) (was : Int) (z1 : SgS) (no ok : Option Res) : Option Res :=
  bif e == 0 then bif (z1.l.length : Int) != IntKind.i64.wrap (was + 1) then no else suB e was z1 no ok else suB e was z1 no ok
theorem su_round (m i : Int) (x : Rc) (z : SgS) (S : Stack) (wr : Wr) (N : Nat) (k : Ex → List AV → Stack → Wr → Option Res) :
    LSu (N + 1) [.ptr 0 0 0, .ptr 0 4 0, .int .i64 m, .int .i64 i] (H5 x z :: S) wr k =
      (bif decide (i < m) then bif goodS z then
        bif apErrR z (z.l.length : Int) x == 1 then bif i == 0 then k .ret [.bool (((apZR z (z.l.length : Int) x).l.length : Int) == 0)] (H5 x (apZR z (z.l.length : Int) x) :: S) (app [(0, 3), (0, 2)] wr) else k .ret [.bool false] (H5 x (apZR z (z.l.length : Int) x) :: S) (app [(0, 3), (0, 2)] wr)
        else suA (apErrR z (z.l.length : Int) x) (z.l.length : Int) (apZR z (z.l.length : Int) x) (k .ret [.bool false] (H5 x (apZR z (z.l.length : Int) x) :: S) (app [(0, 3), (0, 2)] wr))
          (LSu N [.ptr 0 0 0, .ptr 0 4 0, .int .i64 m, .int .i64 (IntKind.i64.wrap (i + 1))] (H5 x (apZR z (z.l.length : Int) x) :: S) (app [(0, 3), (0, 2)] wr) k)
      else none else k (.exit 0) [.undef] (H5 x z :: S) wr) := by kernel_rfl
structure Ful (z : SgS) : Prop where
  inv : Keeps1 z
  t : z.t = 0
  br : z.br = false
  o : z.o = false
  len : z.l.length ≤ 512
theorem ful0 : Ful z0 := ⟨⟨_, _, z0_inv⟩, rfl, rfl, rfl, Nat.zero_le _⟩
theorem ful_err {z : SgS} (h : Ful z) {x : Rc} (hr : rightRc x = true) : apErrR z (z.l.length : Int) x = bif decide ((z.l.length : Int) ≥ 512) then 90 else bif appOK z.b (1 :: encB x.1.1 x.1.2 x.2.1 x.2.2) false then 0 else 80 := by
  show apErr z _ _ _ _ _ = _
  have hr' : rightR x.1.1 x.1.2 x.2.1 x.2.2 = true := hr
  unfold apErr
  rw [hr', h.t, h.br, h.o, decide_eq_false (show ¬ (z.l.length : Int) < 0 by omega), decide_eq_false (show ¬ (z.l.length : Int) < (z.l.length : Int) by omega)]
  rfl
theorem ful_go {z : SgS} (h : Ful z) {x : Rc} (hr : rightRc x = true) : apGo z (z.l.length : Int) x.1.1 x.1.2 x.2.1 x.2.2 = (!decide ((z.l.length : Int) ≥ 512) && appOK z.b (1 :: encB x.1.1 x.1.2 x.2.1 x.2.2) false) := by
  have hr' : rightR x.1.1 x.1.2 x.2.1 x.2.2 = true := hr
  unfold apGo
  rw [hr', h.t, h.br, h.o, decide_eq_false (show ¬ (z.l.length : Int) < 0 by omega), decide_eq_false (show ¬ (z.l.length : Int) < (z.l.length : Int) by omega)]
  rfl
theorem ful_len {z : SgS} {x : Rc} {g : Bool} (hg : apGo z (z.l.length : Int) x.1.1 x.1.2 x.2.1 x.2.2 = g) : (apZR z (z.l.length : Int) x).l.length = z.l.length + g.toNat := by
  show (bif apGo z (z.l.length : Int) x.1.1 x.1.2 x.2.1 x.2.2 then z.l ++ [((x.1.1, x.1.2), (x.2.1, x.2.2))] else z.l).length = _
  rw [hg]
  cases g <;> simp
theorem su_step {z : SgS} (h : Ful z) {x : Rc} (hr : rightRc x = true) (hd : isBytes x.2.2) : (apErrR z (z.l.length : Int) x == 1) = false ∧ Ful (apZR z (z.l.length : Int) x) ∧ ∀ no ok, suA (apErrR z (z.l.length : Int) x) (z.l.length : Int) (apZR z (z.l.length : Int) x) no ok = ok := by
  have he := ful_err h hr
  have hg := ful_go h hr
  have hl := h.len
  have key : ∀ g : Bool, apGo z (z.l.length : Int) x.1.1 x.1.2 x.2.1 x.2.2 = g → (g = true → z.l.length < 512) → Ful (apZR z (z.l.length : Int) x) := by
    intro g hg hlt
    refine ⟨h.inv.ap hd, h.t, h.br, h.o, ?_⟩
    rw [ful_len hg]
    cases g with
    | false => simpa using hl
    | true => have := hlt rfl; simp; omega
  by_cases h5 : (z.l.length : Int) ≥ 512
  · rw [decide_eq_true h5] at he hg
    have hn : (apZR z (z.l.length : Int) x).l.length = z.l.length := ful_len hg
    rw [he]
    refine ⟨rfl, key _ hg (by simp), fun no ok => ?_⟩
    unfold suA suB suC
    rw [hn, decide_eq_false (show ¬ (z.l.length : Int) > 512 by omega)]
    simp
  · rw [decide_eq_false h5] at he hg
    cases ha : appOK z.b (1 :: encB x.1.1 x.1.2 x.2.1 x.2.2) false with
    | false =>
      rw [ha] at he hg
      have hn : (apZR z (z.l.length : Int) x).l.length = z.l.length := ful_len hg
      rw [he]
      refine ⟨rfl, key _ hg (by simp), fun no ok => ?_⟩
      unfold suA suB suC
      rw [hn, decide_eq_false (show ¬ (z.l.length : Int) > 512 by omega)]
      simp
    | true =>
      rw [ha] at he hg
      have hn : (apZR z (z.l.length : Int) x).l.length = z.l.length + 1 := ful_len hg
      rw [he]
      refine ⟨rfl, key _ hg (fun _ => by omega), fun no ok => ?_⟩
      unfold suA suB suC
      rw [hn, wrap_i64 (by omega) (by omega), show (((z.l.length + 1 : Nat)) : Int) = (z.l.length : Int) + 1 by omega, decide_eq_false (show ¬ (z.l.length : Int) + 1 > 512 by omega)]
      simp
theorem su_loop (m : Int) (hm : m ≤ 600) (x : Rc) (hr : rightRc x = true) (hd : isBytes x.2.2) (S : Stack) (k : Ex → List AV → Stack → Wr → Option Res) : ∀ (q j : Nat) (z : SgS) (wr : Wr), ((j + q : Nat) : Int) = m → Ful z →
    LSu (q + 1) [.ptr 0 0 0, .ptr 0 4 0, .int .i64 m, .int .i64 (j : Int)] (H5 x z :: S) wr k = k (.exit 0) [.undef] (H5 x (fuS x q z) :: S) (app (repApp q [(0, 3), (0, 2)]) wr) := by
  intro q
  induction q with
  | zero =>
    intro j z wr hj hz
    rw [su_round, cond_ne (decide_eq_false (by omega))]
    rfl
  | succ q ih =>
    intro j z wr hj hz
    obtain ⟨s1, s2, s3⟩ := su_step hz hr hd
    have hi := ih (j + 1) (apZR z (z.l.length : Int) x) (app [(0, 3), (0, 2)] wr) (by omega) s2
    rw [su_round, cond_eq (decide_eq_true (by omega)), hz.inv.good, cond_true, s1, cond_false, s3, wrap_next (n := m.toNat) (by omega) (by simp only [maxInt]; omega), rep_more]
    exact hi
theorem su_loops : ∀ x ∈ funLoops PR n_law_SegmentFull, ∀ L, lfSu x.1 = some L → LoopOK (ntm PR n_law_SegmentFull) (fun fr H wr k => code PR (cfE ESu) cfgS lfSu (cfgS.live n_law_SegmentFull) x.2 (2 * x.1) fr H wr k) L := by
  refine one_loop (p := 122) rfl (by kernel_rfl) (loopT_ok (by decide) fun vs H wr ex vs' H' w hv ha hh => ?_)
  unfold suF at hv
  split at hv
  · rename_i m i c n0 tg d b n L t s S
    obtain ⟨hc, hv2⟩ := Tr.br_no hv
    clear hv
    simp only [Bool.and_eq_true, decide_eq_true_eq] at hc
    obtain ⟨h1, h2, h3, h4⟩ := hc
    subst h3
    have hz0 : (⟨L, t, s, false, b, n, false⟩ : SgS) = ⟨[], 0, 0, false, [], 0, false⟩ := isZ0_eq h4 rfl rfl
    have hd : isBytes d := by
      have := hh 0 0 _ rfl
      simp only [okAVs, okAV] at this
      exact this.2.2.2.1.2
    simp only [SgS.mk.injEq] at hz0
    obtain ⟨rfl, rfl, rfl, _, rfl, rfl, _⟩ := hz0
    refine ⟨m.toNat + 1, fun k => ?_⟩
    rcases Tr.br_or hv2 with ⟨he, h5⟩ | ⟨he, h5⟩
    · cases h5
      simp only [Bool.or_eq_true, decide_eq_true_eq] at he
      by_cases hm : m = 0
      · subst hm
        have := su_round 0 0 ((c, n0), (tg, d)) z0 S wr 0 k
        exact this
      · have hr : rightRc ((c, n0), (tg, d)) = true := by rcases he with he | he; exact absurd he hm; exact he
        have := su_loop m h2 ((c, n0), (tg, d)) hr hd S k m.toNat 0 z0 wr (by omega) ful0
        exact this
    · cases h5
      simp only [Bool.or_eq_false_iff, decide_eq_false_iff_not] at he
      obtain ⟨hm, hr⟩ := he
      have := su_round m 0 ((c, n0), (tg, d)) z0 S wr m.toNat k
      have e1 : apErrR z0 (z0.l.length : Int) ((c, n0), (tg, d)) = 1 := by
        show apErr _ _ _ _ _ _ = 1
        unfold apErr
        rw [hr]; rfl
      have e2 : apZR z0 (z0.l.length : Int) ((c, n0), (tg, d)) = z0 := by
        refine apZ_no ?_
        unfold apGo
        rw [hr]; rfl
      rw [e1, e2, decide_eq_true (show 0 < m by omega)] at this
      exact this
  · cases hv
theorem su_eq (x : Rc) (m : Int) : body PR (cfE ESu) cfgS lfSu n_law_SegmentFull [recA x, .int .i64 m] [] some =
    (bif decide (m < 0) then some (.bool true, [], []) else bif decide (m > 600) then some (.bool true, [], [])
    else bif decide (0 ≤ m) && (decide (m ≤ 600) && (decide ((0 : Int) = 0) && isZ0 ⟨(sgR (scanL (nwB [])) [] 0).1, (sgR (scanL (nwB [])) [] 0).2.1, ((sgR (scanL (nwB [])) [] 0).1.length : Int), false, nwB [], scanN (([] : List Int).take 65536), false⟩)) then
      bif decide (m = 0) || rightR x.1.1 x.1.2 x.2.1 x.2.2 then some (.bool true, outer (app (repApp m.toNat [(0, 3), (0, 2)]) [(0, 4)]), []) else some (.bool true, [], [])
    else none) := by kernel_rfl
theorem seg_full (x : Rc) (m : Int) : body PR (cfE ESu) cfgS lfSu n_law_SegmentFull [recA x, .int .i64 m] [] some = some (.bool true, [], []) := by
  rw [su_eq]
  by_cases h0 : m < 0
  · rw [decide_eq_true h0]; rfl
  by_cases h1 : m > 600
  · rw [decide_eq_false h0, decide_eq_true h1]; rfl
  rw [decide_eq_false h0, decide_eq_false h1, decide_eq_true (show 0 ≤ m by omega), decide_eq_true (show m ≤ 600 by omega), z0_chk, outer_app0 _ _ (all0_rep rfl _)]
  cases (decide (m = 0) || rightR x.1.1 x.1.2 x.2.1 x.2.2) <;> rfl
end Go.Crc
