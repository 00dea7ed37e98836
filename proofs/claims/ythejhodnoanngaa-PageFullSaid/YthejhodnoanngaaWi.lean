/- Contracts of functions of this program. Conditions: none. -/
import Derived.Test.YthejhodnoanngaaWh
set_option linter.unusedVariables false
set_option linter.unusedSimpArgs false
/- The law PageFull. Conditions: none. A text of this seat's numbers. -/
set_option linter.unusedVariables false
set_option linter.unusedSimpArgs false
set_option maxRecDepth 100000
namespace Go.Crc
open Go.Vm Go.Pack Go.Rec Go.RowKit
noncomputable def EPf : List (Ent PR A) := [aliveE, stNwE, stLenE, stApE]
def pfB (x : List Int) : Nat → List Int → List Int
  | 0, b => b
  | q + 1, b => bif appOK b x false then pfB x q (b ++ frB x) else pfB x q b
def pfK (x : List Int) : Nat → List Int → Nat
  | 0, b => 0
  | q + 1, b => bif appOK b x false then pfK x q (b ++ frB x) + 1 else pfK x q b
def pfF (vs : List AV) (H : Stack) : Tr (Ex × List AV × Stack × Wr) := match vs, H with
  | [.int .i64 lg, .ptr 0 0 0, .slice (.int .u8) x .mine, .int .i64 m, .int .i64 i], [.cells [.slice (.int .u8) b .own, .int .i64 n, .bool false]] :: S =>
    .br (decide (b.length ≤ 65536) && (decide (i = 0) && (decide (lg = x.length) && (decide (lg ≤ 70000) && (decide (0 ≤ m) && decide (m ≤ 30)))))) (.yes (.exit 0, [.undef], [stOb (pfB x m.toNat b) .own n false] :: S, repApp (pfK x m.toNat b) [(0, 0)])) .no
  | _, _ => .no
def lfPf : Nat → Option LoopSum := lfOf [(250, loopT [1, 5, 6, 36, 37] [4] pfF)]
noncomputable abbrev LPf (N : Nat) := LC PR (cfE EPf) cfgG lfPf n_law_PageFull 0 250 [1, 5, 6, 36, 37] [4] N
theorem pf_round (b x : List Int) (m i n lg : Int) (S : Stack) (wr : Wr) (N : Nat) (k : Ex → List AV → Stack → Wr → Option Res) :
    LPf (N + 1) [.int .i64 lg, .ptr 0 0 0, .slice (.int .u8) x .mine, .int .i64 m, .int .i64 i] ([stOb b .own n false] :: S) wr k =
      (bif decide (i < m) then bif decide (b.length ≤ 1000000) then bif appOK b x false then
          bif ((b.length : Int) != (b.length : Int)) then k .ret [.bool false] ([stOb (b ++ frB x) .own n false] :: S) ((0, 0) :: wr)
          else bif decide (((b ++ frB x).length : Int) ≤ (b.length : Int)) then k .ret [.bool false] ([stOb (b ++ frB x) .own n false] :: S) ((0, 0) :: wr)
          else bif decide (((b ++ frB x).length : Int) > 65536) then k .ret [.bool false] ([stOb (b ++ frB x) .own n false] :: S) ((0, 0) :: wr)
          else LPf N [.int .i64 lg, .ptr 0 0 0, .slice (.int .u8) x .mine, .int .i64 m, .int .i64 (IntKind.i64.wrap (i + 1))] ([stOb (b ++ frB x) .own n false] :: S) ((0, 0) :: wr) k
        else bif ((b.length : Int) != (b.length : Int)) then k .ret [.bool false] ([stOb b .own n false] :: S) wr
          else bif decide (IntKind.i64.wrap (IntKind.i64.wrap ((b.length : Int) + lg) + 10) ≤ 65536) then k .ret [.bool false] ([stOb b .own n false] :: S) wr
          else LPf N [.int .i64 lg, .ptr 0 0 0, .slice (.int .u8) x .mine, .int .i64 m, .int .i64 (IntKind.i64.wrap (i + 1))] ([stOb b .own n false] :: S) wr k
      else none else k (.exit 0) [.undef] ([stOb b .own n false] :: S) wr) := by kernel_rfl
theorem vn_len3 {n : Nat} (h : n < 2097152) : ∀ k, (vn (k + 3) n).length ≤ 3 := by
  intro k
  simp only [vn]
  cases h1 : decide (128 ≤ n) with
  | false => simp
  | true =>
    cases h2 : decide (128 ≤ n / 128) with
    | false => simp [cond_true, cond_false, h2]
    | true =>
      have : decide (128 ≤ n / 128 / 128) = false := decide_eq_false (by omega)
      simp [cond_true, cond_false, h2, this]
theorem frB_le7 {x : List Int} (h : x.length ≤ 65536) : (frB x).length ≤ x.length + 7 := by
  rw [frB_len]
  have : (num (x.length : Int)).length ≤ 3 := by
    unfold num
    rw [Int.toNat_natCast]
    exact vn_len3 (by omega) 6
  omega
theorem pf_big {b x : List Int} (ho : appOK b x false = false) : ¬ ((b.length : Int) + (x.length : Int) + 10 ≤ 65536) := by
  intro h
  have h7 := frB_le7 (x := x) (by omega)
  have : appOK b x false = true := by
    unfold appOK
    simp only [Bool.not_false, Bool.true_and, Bool.and_eq_true, decide_eq_true_eq]
    omega
  rw [this] at ho
  cases ho
theorem pf_loop (x : List Int) (m n : Int) (hx : x.length ≤ 70000) (hm : m ≤ 30) (S : Stack) (k : Ex → List AV → Stack → Wr → Option Res) : ∀ (q j : Nat) (b : List Int) (wr : Wr), ((j + q : Nat) : Int) = m → b.length ≤ 65536 →
    LPf (q + 1) [.int .i64 (x.length : Int), .ptr 0 0 0, .slice (.int .u8) x .mine, .int .i64 m, .int .i64 (j : Int)] ([stOb b .own n false] :: S) wr k = k (.exit 0) [.undef] ([stOb (pfB x q b) .own n false] :: S) (app (repApp (pfK x q b) [(0, 0)]) wr) := by
  intro q
  induction q with
  | zero =>
    intro j b wr hj hb
    rw [pf_round, cond_ne (decide_eq_false (by omega))]
    simp only [pfB, pfK, repApp, app]
  | succ q ih =>
    intro j b wr hj hb
    have hw : IntKind.i64.wrap ((j : Int) + 1) = ((j + 1 : Nat) : Int) := by rw [wrap_i64 (by omega) (by omega)]; omega
    rw [pf_round, cond_eq (decide_eq_true (by omega)), cond_eq (decide_eq_true (by omega)), hw]
    simp only [pfB, pfK]
    rcases Bool.eq_false_or_eq_true (appOK b x false) with ho | ho
    · have ho' : x.length ≤ 65536 ∧ b.length + (frB x).length ≤ 65536 := by
        unfold appOK at ho
        simpa only [Bool.not_false, Bool.true_and, Bool.and_eq_true, decide_eq_true_eq] using ho
      have h4 := frB_ge x
      have hl : (b ++ frB x).length = b.length + (frB x).length := List.length_append
      have hi := ih (j + 1) (b ++ frB x) ((0, 0) :: wr) (by omega) (by omega)
      have hc1 : decide (((b ++ frB x).length : Int) ≤ (b.length : Int)) = false := decide_eq_false (by omega)
      have hc2 : decide (((b ++ frB x).length : Int) > 65536) = false := decide_eq_false (by omega)
      rw [ho, cond_true, cond_true, cond_true, cond_ne (by simp), hc1, hc2, cond_false, cond_false, rep_more]
      exact hi
    · rw [ho, cond_false, cond_false, cond_false]
      have hbig : ¬ ((b.length : Int) + (x.length : Int) + 10 ≤ 65536) := pf_big ho
      have hi := ih (j + 1) b wr (by omega) hb
      rw [cond_ne (by simp), wrap_i64 (n := (b.length : Int) + _) (by omega) (by omega), wrap_i64 (by omega) (by omega), cond_ne (decide_eq_false hbig)]
      exact hi
theorem pf_loops : ∀ x ∈ funLoops PR n_law_PageFull, ∀ L, lfPf x.1 = some L → LoopOK (ntm PR n_law_PageFull) (fun fr H wr k => code PR (cfE EPf) cfgG lfPf (cfgG.live n_law_PageFull) x.2 (2 * x.1) fr H wr k) L := by
  refine one_loop (p := 250) rfl (by kernel_rfl) (loopT_ok (by decide) fun vs H wr ex vs' H' w hv ha hh => ?_)
  unfold pfF at hv
  split at hv
  · rename_i lg x m i b n S
    obtain ⟨hc, hv2⟩ := Tr.br_no hv
    cases hv2
    simp only [Bool.and_eq_true, decide_eq_true_eq] at hc
    obtain ⟨h1, h2, h3, h4, h5, h6⟩ := hc
    subst h2 h3
    exact ⟨m.toNat + 1, fun k => pf_loop x m n (by omega) h6 S k m.toNat 0 b wr (by omega) h1⟩
  · cases hv
theorem page_full (m lg : Int) : body PR (cfE EPf) cfgG lfPf n_law_PageFull [.int .i64 m, .int .i64 lg] [] some = some (.bool true, [], []) := by
  have h : body PR (cfE EPf) cfgG lfPf n_law_PageFull [.int .i64 m, .int .i64 lg] [] some =
    (bif decide (m < 0) then some (.bool true, [], []) else bif decide (m > 30) then some (.bool true, [], []) else bif decide (lg < 0) then some (.bool true, [], []) else bif decide (lg > 70000) then some (.bool true, [], [])
    else bif (decide (lg = lg) && decide (0 ≤ lg)) && decide (lg.toNat * 1 ≤ 140737488355328) then
      bif decide ((nwB []).length ≤ 65536) && (decide ((0 : Int) = 0) && (decide (lg = ((List.replicate lg.toNat (0 : Int)).length : Int)) && (decide (lg ≤ 70000) && (decide (0 ≤ m) && decide (m ≤ 30))))) then
        some (.bool true, outer (app (repApp (pfK (List.replicate lg.toNat 0) m.toNat (nwB [])) [(0, 0)]) []), []) else none else none) := by kernel_rfl
  rw [h]
  by_cases h1 : m < 0
  · rw [decide_eq_true h1]; rfl
  by_cases h2 : m > 30
  · rw [decide_eq_false h1, decide_eq_true h2]; rfl
  by_cases h3 : lg < 0
  · rw [decide_eq_false h1, decide_eq_false h2, decide_eq_true h3]; rfl
  by_cases h4 : lg > 70000
  · rw [decide_eq_false h1, decide_eq_false h2, decide_eq_false h3, decide_eq_true h4]; rfl
  have hn : (nwB []).length ≤ 65536 := by unfold nwB; rw [List.length_take, List.length_take]; omega
  rw [decide_eq_false h1, decide_eq_false h2, decide_eq_false h3, decide_eq_false h4]
  simp only [cond_false]
  rw [cond_eq (by simp only [Bool.and_eq_true, decide_eq_true_eq, true_and]; omega), cond_eq (by simp only [Bool.and_eq_true, decide_eq_true_eq, List.length_replicate, true_and]; omega), outer_app0 _ _ (all0_rep rfl _)]
  rfl
end Go.Crc
