/- Contracts of functions of this program. Conditions: none. -/
import Derived.Test.YthejhodnoanngaaWm
set_option linter.unusedVariables false
set_option linter.unusedSimpArgs false
/- Has a store the document's frames. Conditions: none. A text of this seat's numbers. -/
set_option linter.unusedVariables false
set_option linter.unusedSimpArgs false
set_option maxRecDepth 100000
namespace Go.Crc
open Go.Vm Go.Pack Go.Rec Go.RowKit
def ssF (vs : List AV) (H : Stack) : Tr (Ex × List AV × Stack × Wr) := match vs, H with
  | [.ptr 0 0 0, .slice (.slice (.int .u8)) fl .view, .int .i64 m, .int .i64 i], [.cells [.slice .str l .view, .int .i64 y, .bool f]] :: S =>
    .br (decide (m = fl.length) && (decide (fl.length = l.length) && decide (i = 0))) (.br (fl == l) (.yes (.exit 0, [.undef], [.cells [.slice .str l .view, .int .i64 y, .bool f]] :: S, [])) (.yes (.ret, [.bool false], [.cells [.slice .str l .view, .int .i64 y, .bool f]] :: S, []))) .no
  | _, _ => .no
def lfSs : Nat → Option LoopSum := lfOf [(250, loopT [3, 5, 49, 50] [4] ssF)]
noncomputable def ESs : List (Ent PR A) := [stFrE, stLenE, stSynE, stByE, txtE]
noncomputable abbrev LSs (N : Nat) := LC PR (cfE ESs) cfgG lfSs n_law_stands 0 250 [3, 5, 49, 50] [4] N
theorem ss_round (fl l : List (List Int)) (y m i : Int) (f : Bool) (S : Stack) (wr : Wr) (N : Nat) (k : Ex → List AV → Stack → Wr → Option Res) :
    LSs (N + 1) [.ptr 0 0 0, .slice TRow fl .view, .int .i64 m, .int .i64 i] ([.cells [.slice .str l .view, .int .i64 y, .bool f]] :: S) wr k =
      (bif decide (i < m) then (at? fl i).bind fun x => (at? l i).bind fun z => bif x != z then k .ret [.bool false] ([.cells [.slice .str l .view, .int .i64 y, .bool f]] :: S) wr
        else LSs N [.ptr 0 0 0, .slice TRow fl .view, .int .i64 m, .int .i64 (IntKind.i64.wrap (i + 1))] ([.cells [.slice .str l .view, .int .i64 y, .bool f]] :: S) wr k
      else k (.exit 0) [.undef] ([.cells [.slice .str l .view, .int .i64 y, .bool f]] :: S) wr) := by kernel_rfl
theorem ss_loops : ∀ x ∈ funLoops PR n_law_stands, ∀ L, lfSs x.1 = some L → LoopOK (ntm PR n_law_stands) (fun fr H wr k => code PR (cfE ESs) cfgG lfSs (cfgG.live n_law_stands) x.2 (2 * x.1) fr H wr k) L := by
  refine one_loop (p := 250) rfl (by kernel_rfl) (loopT_ok (by decide) fun vs H wr ex vs' H' w hv ha hh => ?_)
  unfold ssF at hv
  split at hv
  · rename_i fl m i l y f S
    obtain ⟨hc, hv2⟩ := Tr.br_no hv
    clear hv
    simp only [Bool.and_eq_true, decide_eq_true_eq] at hc
    obtain ⟨h1, h2, h3⟩ := hc
    subst h3
    simp only [okAVs, okAV] at ha
    have hl : fl.length ≤ maxInt := ha.2.1.1
    refine ⟨fl.length + 1, fun k => ?_⟩
    have := eq_loop (F := fun N i => LSs N [.ptr 0 0 0, .slice TRow fl .view, .int .i64 m, .int .i64 i] ([.cells [.slice .str l .view, .int .i64 y, .bool f]] :: S) wr k) (xs := fl) (ys := l) (m := m) h1 h2 hl (fun N i => ss_round fl l y m i f S wr N k) fl.length 0 (by omega)
    rw [List.drop_zero, List.drop_zero] at this
    rcases Tr.br_or hv2 with ⟨he, h4⟩ | ⟨he, h4⟩
    · cases h4; rw [he] at this; exact this
    · cases h4; rw [he] at this; exact this
  · cases hv
def standsB (b : List Int) (n : Int) (l : List (List Int)) (y : Int) : Bool :=
  !(((scanL b).length : Int) != (l.length : Int)) && (!((b.length : Int) != ((catF l).length : Int)) && (!(n != ((catF (l.take y.toNat)).length : Int)) && (!(b.take n.toNat != catF (l.take y.toNat)) && (scanL b == l))))
def standsF : Ob → List AV → Tr (AV × Bool × Ob)
  | .cells [.slice (.int .u8) b lv, .int .i64 n, .bool o], [.agg [.slice .str l .view, .int .i64 y, .bool f]] =>
    .br (lvG lv && ((decide (b.length ≤ 1000000) && (decide (0 ≤ n) && decide (n ≤ (b.length : Int)))) && (decide (0 ≤ y) && (decide (y ≤ (l.length : Int)) && smallL l)))) (.yes (.bool (standsB b n l y), false, stOb b lv n o)) .no
  | _, _ => .no
def ssR (b : List Int) (lv : Lv) (n : Int) (o : Bool) (l : List (List Int)) (y : Int) : Option Res :=
  bif decide (b.length ≤ 1000000) then
    bif ((scanL b).length : Int) != (l.length : Int) then some (.bool false, [], [[], [stOb b lv n o]])
    else bif decide (0 ≤ (l.length : Int)) && (decide ((l.length : Int) ≤ (l.length : Int)) && smallL l) then
      bif (b.length : Int) != ((catF (l.take (l.length : Int).toNat)).length : Int) then some (.bool false, [], [[], [stOb b lv n o]])
      else bif decide (0 ≤ y) && (decide (y ≤ (l.length : Int)) && smallL l) then
        bif n != ((catF (l.take y.toNat)).length : Int) then some (.bool false, [], [[], [stOb b lv n o]])
        else bif decide (b.length ≤ 1000000) && (decide (0 ≤ n) && decide (n ≤ (b.length : Int))) then bif decide (0 ≤ y) && (decide (y ≤ (l.length : Int)) && smallL l) then
          bif (b.take n.toNat) != catF (l.take y.toNat) then some (.bool false, [], [[], [stOb b lv n o]])
          else bif decide (((scanL b).length : Int) = ((scanL b).length : Int)) && (decide ((scanL b).length = l.length) && decide ((0 : Int) = 0)) then bif scanL b == l then some (.bool true, [], [[], [stOb b lv n o]]) else some (.bool false, [], [[], [stOb b lv n o]]) else none
        else none else none
      else none
    else none
  else none
theorem ss_eq {lv : Lv} (h : lvG lv = true) (b : List Int) (n : Int) (o : Bool) (l : List (List Int)) (y : Int) (f : Bool) : body PR (cfE ESs) cfgG lfSs n_law_stands [.ptr 1 0 0, dSt l y f] [[], [stOb b lv n o]] some = ssR b lv n o l y := by
  rcases lvG_cases h with rfl | rfl
  · kernel_rfl
  · kernel_rfl
theorem ss_val {b : List Int} {lv : Lv} {n : Int} {o : Bool} {l : List (List Int)} {y : Int} (h1 : b.length ≤ 1000000) (h2 : 0 ≤ n) (h3 : n ≤ (b.length : Int)) (h4 : 0 ≤ y) (h5 : y ≤ (l.length : Int)) (h6 : smallL l = true) : ssR b lv n o l y = some (.bool (standsB b n l y), [], [[], [stOb b lv n o]]) := by
  unfold ssR standsB
  rw [decide_eq_true h1, decide_eq_true h2, decide_eq_true h3, decide_eq_true h4, decide_eq_true h5, h6, decide_eq_true (show (0 : Int) ≤ (l.length : Int) by omega), decide_eq_true (show (l.length : Int) ≤ (l.length : Int) by omega), Int.toNat_natCast, List.take_of_length_le (Nat.le_refl l.length)]
  simp only [Bool.and_self, cond_true]
  cases hA : (((scanL b).length : Int) != (l.length : Int)) with
  | true => rfl
  | false =>
    have hlen : (scanL b).length = l.length := by
      rw [bne_eq_false_iff_eq] at hA
      omega
    rw [decide_eq_true hlen]
    simp only [Bool.not_false, Bool.true_and, cond_false, decide_true, cond_true]
    cases ((b.length : Int) != ((catF l).length : Int)) with
    | true => rfl
    | false =>
      cases (n != ((catF (l.take y.toNat)).length : Int)) with
      | true => rfl
      | false =>
        cases ((b.take n.toNat) != catF (l.take y.toNat)) with
        | true => rfl
        | false => cases (scanL b == l) <;> rfl
theorem stands_ok : Con PR A n_law_stands (objC 0 standsF) := by
  refine objC_ok fun z rest v wrote z' hv => ?_
  unfold standsF at hv
  split at hv
  · rename_i b lv n o l y f
    obtain ⟨hc, hv2⟩ := Tr.br_no hv
    cases hv2
    simp only [Bool.and_eq_true, decide_eq_true_eq] at hc
    obtain ⟨hc, ⟨h1, h2, h3⟩, h4, h5, h6⟩ := hc
    refine ⟨rfl, rfl, rfl, rfl, by simp, fun ha hh => ?_⟩
    exact fun_call _ mixed (by kernel_rfl) (by kernel_rfl) ss_loops ((ss_eq hc b n o l y f).trans (ss_val h1 h2 h3 h4 h5 h6))
  · cases hv
def standsE : Ent PR A := ⟨n_law_stands, _, stands_ok⟩
theorem stands_inv {b : List Int} {n : Int} {l : List (List Int)} {y : Nat} (h : Inv b n l y) : standsB b n l (y : Int) = true := by
  have s2 : scanL b = l := by rw [h.cat]; exact scan_cat h.small
  unfold standsB
  rw [s2, Int.toNat_natCast, h.take, h.syn, h.cat]
  simp
end Go.Crc

/- One call, by the program and by the document. Conditions: none. A text of this seat's numbers. -/
set_option linter.unusedVariables false
set_option linter.unusedSimpArgs false
set_option maxRecDepth 100000
namespace Go.Crc
open Go.Vm Go.Pack Go.Rec Go.RowKit
theorem rdIs_range {p : Int} : ∀ (l : List (List Int)) (n : Nat), rdIs p n l = true → (n : Int) ≤ p ∧ p < ((n + (catF l).length : Nat) : Int)
  | [], n, h => by cases h
  | x :: r, n, h => by
    have h4 := frB_ge x
    simp only [rdIs] at h
    simp only [catF, List.length_append]
    cases hn : ((n : Int) == p) with
    | true => rw [beq_iff_eq] at hn; omega
    | false =>
      rw [hn, cond_false] at h
      have := rdIs_range r (n + (frB x).length) h
      omega
theorem rdB_inv {b : List Int} {n : Int} {l : List (List Int)} {y : Nat} (h : Inv b n l y) (p : Int) : rdB b p = rdIs p 0 l ∧ rdX b p = bif rdIs p 0 l then rdV p 0 l else [] := by
  have s2 : scanL b = l := by rw [h.cat]; exact scan_cat h.small
  have e : rdB b p = rdIs p 0 l := by
    unfold rdB
    rw [s2]
    cases hr : rdIs p 0 l with
    | false => simp
    | true =>
      have := rdIs_range l 0 hr
      rw [← h.cat] at this
      rw [decide_eq_true (show 0 ≤ p by omega), decide_eq_true (show p < (b.length : Int) by omega)]
      rfl
  refine ⟨e, ?_⟩
  unfold rdX
  rw [e, s2]
theorem stp_inv {b : List Int} {lv : Lv} {n : Int} {o : Bool} {l : List (List Int)} {y : Nat} (h : Inv b n l y) {x : OpD} (hx : isBytes x.2.2.1) :
    ∃ y' : Nat, doY l (y : Int) o x.1 x.2.1 = (y' : Int) ∧ Inv (stp (b, lv, n, o) x).1 (stp (b, lv, n, o) x).2.2.1 (doL l (y : Int) o x.1 x.2.1 x.2.2.1) y' ∧ (stp (b, lv, n, o) x).2.2.2 = doO o x.1 x.2.2.2 := by
  obtain ⟨kd, nn, B, is⟩ := x
  have hcat := h.cat
  unfold stp doY doL doO
  simp only
  by_cases h5 : kd = 5
  · subst h5
    refine ⟨y, rfl, ?_, rfl⟩
    have := h.anew
    simpa using this
  by_cases h2 : kd = 2
  · subst h2
    exact ⟨dcN l (y : Int) nn, rfl, h.crash nn, rfl⟩
  rw [ne_beq h5, ne_beq h2]
  simp only [cond_false]
  by_cases h0 : kd = 0
  · subst h0
    rw [hcat]
    cases ha : appOK (catF l) B o with
    | true =>
      refine ⟨y, rfl, ?_, rfl⟩
      have := h.app hx (hcat ▸ ha)
      rw [hcat] at this
      exact this
    | false =>
      refine ⟨y, rfl, ?_, rfl⟩
      rw [hcat] at h
      exact h
  rw [ne_beq h0]
  simp only [cond_false, Bool.false_and]
  unfold dsN dsO
  by_cases h1 : kd = 1
  · subst h1
    cases o with
    | true => exact ⟨y, rfl, h, rfl⟩
    | false => exact ⟨l.length, rfl, h.sync, rfl⟩
  rw [ne_beq h1]
  exact ⟨y, rfl, h, rfl⟩
end Go.Crc
