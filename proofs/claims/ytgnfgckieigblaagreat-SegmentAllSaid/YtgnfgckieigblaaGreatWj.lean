/- Contracts of functions of this program. Conditions: none. -/
import Derived.Test.YtgnfgckieigblaaGreatWi
import Derived.Test.YtgnfgckieigblaaGreatWh
set_option linter.unusedVariables false
set_option linter.unusedSimpArgs false
/- The document's stores: made, appended to, read, crashed. Conditions: none. A text of this seat's numbers. -/
set_option linter.unusedVariables false
set_option linter.unusedSimpArgs false
set_option maxRecDepth 100000
namespace Go.Crc
open Go.Vm Go.Pack Go.Rec Go.RowKit
/-! ### New -/
def dnwV (b : List Int) : AV := dSt (scanL (b.take 65536)) ((scanL (b.take 65536)).length : Int) false
def dnwC : List AV → Tr AV
  | [.slice (.int .u8) b .view] => .yes (dnwV b)
  | _ => .no
theorem dnw_ok : Con PR A n_ref08_New (pureC dnwC) := by
  refine pure_con0 (cfg := cfgG) [dscE] mixed (by kernel_rfl) (by kernel_rfl) (by kernel_rfl) fun args v hv ha S => ?_
  unfold dnwC at hv
  split at hv
  · rename_i b
    cases hv
    have h : body PR (cfE (P := PR) (A := A) [dscE]) cfgG lf0 n_ref08_New [.slice (.int .u8) b .view] S some =
      (bif decide ((b.length : Int) > 65536) then bif true && decide (65536 ≤ (b.length : Int)) then bif decide (((b.take 65536).drop 0).length ≤ 1000000) then
        some (dSt (scanL ((b.take 65536).drop 0)) ((scanL ((b.take 65536).drop 0)).length : Int) false, [], S) else none else none
      else bif decide (b.length ≤ 1000000) then some (dSt (scanL b) ((scanL b).length : Int) false, [], S) else none) := by kernel_rfl
    refine h.trans ?_
    have hlt : (b.take 65536).length ≤ 65536 := by rw [List.length_take]; omega
    unfold dnwV
    by_cases h1 : (b.length : Int) > 65536
    · rw [decide_eq_true h1, decide_eq_true (show (65536 : Int) ≤ (b.length : Int) by omega), List.drop_zero, decide_eq_true (show (b.take 65536).length ≤ 1000000 by omega)]; rfl
    · rw [decide_eq_false h1, decide_eq_true (show b.length ≤ 1000000 by omega), List.take_of_length_le (by omega)]; rfl
  · cases hv
def dnwE : Ent PR A := ⟨n_ref08_New, _, dnw_ok⟩
/-! ### Append -/
def dapC : List AV → Tr AV
  | [.agg [.slice .str l .view, .int .i64 y, .bool f], .slice (.int .u8) x .view] => .br (smallL l && decide (x.length ≤ 100000000)) (.br (appOK (catF l) x f) (.yes (.tuple [dSt (l ++ [x]) y f, .int .i64 (catF l).length, .int .i64 0])) (.yes (.tuple [dSt l y f, .int .i64 0, .int .i64 (bif f then 81 else 80)]))) .no
  | _ => .no
theorem smallL_len {l : List (List Int)} (h : smallL l = true) : (catF l).length ≤ 1310980000 := by
  unfold smallL at h
  simp only [Bool.and_eq_true, decide_eq_true_eq] at h
  have := catF_len h.1
  omega
theorem dap_ok : Con PR A n_ref08_Append (pureC dapC) := by
  refine pure_con0 (cfg := cfgG) [txtE, frameE] mixed (by kernel_rfl) (by kernel_rfl) (by kernel_rfl) fun args v hv ha S => ?_
  unfold dapC at hv
  split at hv
  · rename_i l y f x
    obtain ⟨hc, hv2⟩ := Tr.br_no hv
    clear hv
    simp only [Bool.and_eq_true, decide_eq_true_eq] at hc
    obtain ⟨hc, hxl⟩ := hc
    have h : body PR (cfE (P := PR) (A := A) [txtE, frameE]) cfgG lf0 n_ref08_Append [dSt l y f, .slice (.int .u8) x .view] S some =
      (bif f then some (.tuple [dSt l y f, .int .i64 0, .int .i64 81], [], S)
      else bif decide (0 ≤ (l.length : Int)) && (decide ((l.length : Int) ≤ (l.length : Int)) && smallL l) then
        bif decide ((x.length : Int) > 65536) then some (.tuple [dSt l y f, .int .i64 0, .int .i64 80], [], S)
        else bif decide (x.length ≤ 100000000) then
          bif decide (IntKind.i64.wrap (((catF (l.take (l.length : Int).toNat)).length : Int) + ((frB x).length : Int)) > 65536) then some (.tuple [dSt l y f, .int .i64 0, .int .i64 80], [], S)
          else bif decide ((0 + l.length) * 16 ≤ 140737488355328) then bif decide ((([] ++ l).length + 1) * 16 ≤ 140737488355328) then
            some (.tuple [dSt (([] ++ l) ++ [x]) y f, .int .i64 ((catF (l.take (l.length : Int).toNat)).length : Int), .int .i64 0], [], S)
          else none else none
        else none
      else none) := by kernel_rfl
    have hs := smallL_len hc
    have hll : l.length ≤ 20000 := by unfold smallL at hc; simp only [Bool.and_eq_true, decide_eq_true_eq] at hc; exact hc.2
    rw [Int.toNat_natCast, List.take_of_length_le (Nat.le_refl _), List.nil_append, hc, decide_eq_true (show (0 : Int) ≤ (l.length : Int) by omega), decide_eq_true (show (l.length : Int) ≤ (l.length : Int) by omega), decide_eq_true hxl, decide_eq_true (show (0 + l.length) * 16 ≤ 140737488355328 by omega), decide_eq_true (show (l.length + 1) * 16 ≤ 140737488355328 by omega)] at h
    simp only [Bool.and_self, cond_true] at h
    refine h.trans ?_
    rcases Tr.br_or hv2 with ⟨he, h4⟩ | ⟨he, h4⟩
    · cases h4
      unfold appOK at he
      simp only [Bool.and_eq_true, Bool.not_eq_true', decide_eq_true_eq] at he
      obtain ⟨h1, h2, h3⟩ := he
      subst h1
      rw [cond_false, decide_eq_false (show ¬ (x.length : Int) > 65536 by omega), cond_false, wrap_i64 (by omega) (by omega), decide_eq_false (show ¬ ((catF l).length : Int) + ((frB x).length : Int) > 65536 by omega), cond_false]
    · cases h4
      cases f with
      | true => rfl
      | false =>
        simp only [cond_false]
        by_cases h1 : x.length ≤ 65536
        · have hfl := frB_le h1
          have h3 : ¬ (catF l).length + (frB x).length ≤ 65536 := fun h3 => by
            unfold appOK at he
            rw [decide_eq_true h1, decide_eq_true h3] at he
            cases he
          rw [decide_eq_false (show ¬ (x.length : Int) > 65536 by omega), cond_false, wrap_i64 (by omega) (by omega), decide_eq_true (show ((catF l).length : Int) + ((frB x).length : Int) > 65536 by omega), cond_true]
        · rw [decide_eq_true (show (x.length : Int) > 65536 by omega), cond_true]
  · cases hv
def dapE : Ent PR A := ⟨n_ref08_Append, _, dap_ok⟩
/-! ### Read -/
def dreF (vs : List AV) (H : Stack) : Tr (Ex × List AV × Stack × Wr) := match vs, H with
  | [.int .i64 p, .ptr 0 0 0, .int .i64 i], [.cells [.slice .str l .view, .int .i64 y, .bool f]] :: S =>
    .br (decide (i = 0) && smallL l) (.br (rdIs p 0 l) (.yes (.ret, [.str (rdV p 0 l), .bool true], [.cells [.slice .str l .view, .int .i64 y, .bool f]] :: S, [])) (.yes (.exit 0, [.undef, .undef], [.cells [.slice .str l .view, .int .i64 y, .bool f]] :: S, []))) .no
  | _, _ => .no
def lfReP : Nat → Option LoopSum := lfOf [(26, loopT [1, 2, 6] [4, 5] dreF)]
theorem take_cat {l : List (List Int)} {j : Nat} (h : j < l.length) : (catF (l.take (j + 1))).length = (catF (l.take j)).length + (frB l[j]).length := by
  rw [List.take_succ_eq_append_getElem h, catF_app, List.length_append]
  simp [catF]
def dreC : List AV → Tr AV
  | [.agg [.slice .str l .view, .int .i64 y, .bool f], .int .i64 p] => .br (smallL l) (.yes (.tuple [.str (bif rdIs p 0 l then rdV p 0 l else []), .bool (rdIs p 0 l)])) .no
  | _ => .no
end Go.Crc

/- The document's crash. Conditions: none. A text of this seat's numbers. -/
set_option linter.unusedVariables false
set_option linter.unusedSimpArgs false
set_option maxRecDepth 100000
namespace Go.Crc
open Go.Vm Go.Pack Go.Rec Go.RowKit
def dcrF (vs : List AV) (H : Stack) : Tr (Ex × List AV × Stack × Wr) := match vs, H with
  | [.ptr 0 0 0, .ptr 0 1 0, .int .i64 n, .int .i64 e], [.cells [.slice .str l .view, .int .i64 y, .bool f], z] :: S =>
    .br (decide (0 ≤ n) && (decide (n ≤ (l.length : Int)) && (smallL l && decide (((catF (l.take n.toNat)).length : Int) ≤ e)))) (.yes (.exit 0, [.ptr 0 0 0, .ptr 0 1 0, .int .i64 ((n.toNat + wholeF (l.drop n.toNat) (e.toNat - (catF (l.take n.toNat)).length) : Nat) : Int)], [.cells [.slice .str l .view, .int .i64 y, .bool f], z] :: S, [])) .no
  | _, _ => .no
def lfCr : Nat → Option LoopSum := lfOf [(252, loopT [2, 4, 5, 6] [2, 4, 5] dcrF)]
noncomputable abbrev LCr (N : Nat) := LC PR (cfE (P := PR) (A := A) [txtE]) cfgG lfCr n_ref08_Crash 0 252 [2, 4, 5, 6] [2, 4, 5] N
theorem dcr_round (l : List (List Int)) (y n e : Int) (f : Bool) (z : Ob) (S : Stack) (wr : Wr) (N : Nat) (k : Ex → List AV → Stack → Wr → Option Res) :
    LCr (N + 1) [.ptr 0 0 0, .ptr 0 1 0, .int .i64 n, .int .i64 e] ([.cells [.slice .str l .view, .int .i64 y, .bool f], z] :: S) wr k =
      (bif decide (n < (l.length : Int)) then bif decide (0 ≤ IntKind.i64.wrap (n + 1)) && (decide (IntKind.i64.wrap (n + 1) ≤ (l.length : Int)) && smallL l) then
        bif decide (((catF (l.take (IntKind.i64.wrap (n + 1)).toNat)).length : Int) ≤ e) then LCr N [.ptr 0 0 0, .ptr 0 1 0, .int .i64 (IntKind.i64.wrap (n + 1)), .int .i64 e] ([.cells [.slice .str l .view, .int .i64 y, .bool f], z] :: S) wr k
        else k (.exit 0) [.ptr 0 0 0, .ptr 0 1 0, .int .i64 n] ([.cells [.slice .str l .view, .int .i64 y, .bool f], z] :: S) wr
      else none else k (.exit 0) [.ptr 0 0 0, .ptr 0 1 0, .int .i64 n] ([.cells [.slice .str l .view, .int .i64 y, .bool f], z] :: S) wr) := by kernel_rfl
theorem dcr_loop (l : List (List Int)) (hl : smallL l = true) (y : Int) (E : Nat) (f : Bool) (z : Ob) (S : Stack) (wr : Wr) (k : Ex → List AV → Stack → Wr → Option Res) : ∀ (q j : Nat), j + q = l.length → (catF (l.take j)).length ≤ E →
    LCr (q + 1) [.ptr 0 0 0, .ptr 0 1 0, .int .i64 (j : Int), .int .i64 (E : Int)] ([.cells [.slice .str l .view, .int .i64 y, .bool f], z] :: S) wr k =
      k (.exit 0) [.ptr 0 0 0, .ptr 0 1 0, .int .i64 ((j + wholeF (l.drop j) (E - (catF (l.take j)).length) : Nat) : Int)] ([.cells [.slice .str l .view, .int .i64 y, .bool f], z] :: S) wr := by
  have hll : l.length ≤ 20000 := by have := hl; unfold smallL at this; simp only [Bool.and_eq_true, decide_eq_true_eq] at this; exact this.2
  intro q
  induction q with
  | zero =>
    intro j hj hE
    have hd : l.drop j = [] := List.drop_of_length_le (by omega)
    rw [dcr_round, cond_ne (decide_eq_false (by omega)), hd]
    simp only [wholeF, Nat.add_zero]
  | succ q ih =>
    intro j hj hE
    have hlt : j < l.length := by omega
    have hw : IntKind.i64.wrap ((j : Int) + 1) = ((j + 1 : Nat) : Int) := by rw [wrap_i64 (by omega) (by omega)]; omega
    have hd : l.drop j = l[j] :: l.drop (j + 1) := List.drop_eq_getElem_cons hlt
    have ht := take_cat hlt
    rw [dcr_round, cond_eq (decide_eq_true (by omega)), hw, hl, cond_eq (by simp only [Bool.and_eq_true, decide_eq_true_eq, and_true]; omega), Int.toNat_natCast, hd]
    simp only [wholeF]
    by_cases h1 : (catF (l.take (j + 1))).length ≤ E
    · have hi := ih (j + 1) (by omega) h1
      have e1 : E - (catF (l.take (j + 1))).length = E - (catF (l.take j)).length - (frB l[j]).length := by omega
      rw [e1] at hi
      have e2 : j + 1 + wholeF (l.drop (j + 1)) (E - (catF (l.take j)).length - (frB l[j]).length) = j + (wholeF (l.drop (j + 1)) (E - (catF (l.take j)).length - (frB l[j]).length) + 1) := by omega
      rw [e2] at hi
      rw [cond_eq (decide_eq_true (by omega)), decide_eq_true (show (frB l[j]).length ≤ E - (catF (l.take j)).length by omega), cond_true]
      exact hi
    · rw [cond_ne (decide_eq_false (by omega)), decide_eq_false (show ¬ (frB l[j]).length ≤ E - (catF (l.take j)).length by omega), cond_false, Nat.add_zero]
theorem dcr_loops : ∀ x ∈ funLoops PR n_ref08_Crash, ∀ L, lfCr x.1 = some L → LoopOK (ntm PR n_ref08_Crash) (fun fr H wr k => code PR (cfE (P := PR) (A := A) [txtE]) cfgG lfCr (cfgG.live n_ref08_Crash) x.2 (2 * x.1) fr H wr k) L := by
  refine one_loop (p := 252) rfl (by kernel_rfl) (loopT_ok (by decide) fun vs H wr ex vs' H' w hv ha hh => ?_)
  unfold dcrF at hv
  split at hv
  · rename_i n e l y f z S
    obtain ⟨hc, hv2⟩ := Tr.br_no hv
    cases hv2
    simp only [Bool.and_eq_true, decide_eq_true_eq] at hc
    obtain ⟨h1, h2, h3, h4⟩ := hc
    refine ⟨l.length - n.toNat + 1, fun k => ?_⟩
    have := dcr_loop l h3 y e.toNat f z S wr k (l.length - n.toNat) n.toNat (by omega) (by omega)
    rw [natCast_toNat h1, natCast_toNat (show 0 ≤ e by omega)] at this
    exact this
  · cases hv
def dcrC : List AV → Tr AV
  | [.agg [.slice .str l .view, .int .i64 y, .bool f], .int .i64 k] => .br (decide (0 ≤ y) && (decide (y ≤ (l.length : Int)) && smallL l)) (.yes (dSt (l.take (dcN l y k)) ((dcN l y k : Nat) : Int) false)) .no
  | _ => .no
def dcT (l : List (List Int)) (y e : Int) (S : Stack) : Option Res :=
  bif decide (0 ≤ y) && (decide (y ≤ (l.length : Int)) && (smallL l && decide (((catF (l.take y.toNat)).length : Int) ≤ e))) then
    bif decide (0 ≤ ((y.toNat + wholeF (l.drop y.toNat) (e.toNat - (catF (l.take y.toNat)).length) : Nat) : Int)) && decide (((y.toNat + wholeF (l.drop y.toNat) (e.toNat - (catF (l.take y.toNat)).length) : Nat) : Int) ≤ (l.length : Int)) then
      some (dSt ((l.take ((y.toNat + wholeF (l.drop y.toNat) (e.toNat - (catF (l.take y.toNat)).length) : Nat) : Int).toNat).drop 0) ((y.toNat + wholeF (l.drop y.toNat) (e.toNat - (catF (l.take y.toNat)).length) : Nat) : Int) false, [], S)
    else none else none
theorem wholeF_big : ∀ (r : List (List Int)) (K : Nat), (catF r).length ≤ K → wholeF r K = r.length
  | [], K, h => rfl
  | x :: r, K, h => by
    simp only [catF, List.length_append] at h
    simp only [wholeF]
    rw [decide_eq_true (show (frB x).length ≤ K by omega), cond_true, wholeF_big r _ (by omega)]
    rfl
theorem dcT_eq {l : List (List Int)} {y e : Int} {K : Nat} {S : Stack} (h1 : 0 ≤ y) (h2 : y ≤ (l.length : Int)) (h3 : smallL l = true) (h4 : ((catF (l.take y.toNat)).length : Int) ≤ e) (hK : wholeF (l.drop y.toNat) (e.toNat - (catF (l.take y.toNat)).length) = wholeF (l.drop y.toNat) K) :
    dcT l y e S = some (dSt (l.take (y.toNat + wholeF (l.drop y.toNat) K)) ((y.toNat + wholeF (l.drop y.toNat) K : Nat) : Int) false, [], S) := by
  have hw := wholeF_le (l.drop y.toNat) K
  rw [List.length_drop] at hw
  unfold dcT
  rw [hK, h3, cond_eq (by simp only [Bool.and_eq_true, decide_eq_true_eq, true_and]; omega), cond_eq (by simp only [Bool.and_eq_true, decide_eq_true_eq]; omega), Int.toNat_natCast, List.drop_zero]
theorem dcr_eq (l : List (List Int)) (y k : Int) (f : Bool) (S : Stack) : body PR (cfE (P := PR) (A := A) [txtE]) cfgG lfCr n_ref08_Crash [dSt l y f, .int .i64 k] S some =
    (bif decide (0 ≤ y) && (decide (y ≤ (l.length : Int)) && smallL l) then
      bif decide (k > 0) then
        bif decide (IntKind.i64.wrap (((catF (l.take y.toNat)).length : Int) + k) < k) then dcT l y 4611686018427387904 S else dcT l y (IntKind.i64.wrap (((catF (l.take y.toNat)).length : Int) + k)) S
      else bif decide (((catF (l.take y.toNat)).length : Int) < k) then dcT l y 4611686018427387904 S else dcT l y ((catF (l.take y.toNat)).length : Int) S
    else none) := by kernel_rfl
theorem wrap_over {x : Int} (h1 : 9223372036854775808 ≤ x) (h2 : x < 18446744073709551616) : IntKind.i64.wrap x = x - 18446744073709551616 := by
  have hm : x % (18446744073709551616 : Int) = x := Int.emod_eq_of_lt (by omega) h2
  show (if (true && decide (x % (18446744073709551616 : Int) ≥ (9223372036854775808 : Int))) = true then x % (18446744073709551616 : Int) - (18446744073709551616 : Int) else x % (18446744073709551616 : Int)) = _
  rw [hm, decide_eq_true (show x ≥ 9223372036854775808 by omega)]
  rfl
theorem dcr_ok : Con PR A n_ref08_Crash (pureC dcrC) := by
  refine pureC_ok fun args v hv ha S => ?_
  unfold dcrC at hv
  split at hv
  · rename_i l y f k
    obtain ⟨hc, hv2⟩ := Tr.br_no hv
    cases hv2
    simp only [Bool.and_eq_true, decide_eq_true_eq] at hc
    obtain ⟨h1, h2, h3⟩ := hc
    simp only [okAVs, okAV] at ha
    have hk : (-9223372036854775808 : Int) ≤ k ∧ k ≤ 9223372036854775807 := by
      have := ha.2.1
      exact this
    have hs := smallL_len h3
    have hcat : catF l = catF (l.take y.toNat) ++ catF (l.drop y.toNat) := by rw [← catF_app, List.take_append_drop]
    have hl2 : (catF l).length = (catF (l.take y.toNat)).length + (catF (l.drop y.toNat)).length := by
      have := congrArg List.length hcat
      rwa [List.length_append] at this
    refine fun_call _ mixed (by kernel_rfl) (by kernel_rfl) dcr_loops ((dcr_eq l y k f S).trans ?_)
    rw [h3, cond_eq (by simp only [Bool.and_eq_true, decide_eq_true_eq, and_true]; omega)]
    unfold dcN
    by_cases hk0 : k > 0
    · rw [decide_eq_true hk0, cond_true]
      by_cases hov : ((catF (l.take y.toNat)).length : Int) + k ≤ 9223372036854775807
      · rw [wrap_i64 (by omega) (by omega), decide_eq_false (show ¬ ((catF (l.take y.toNat)).length : Int) + k < k by omega), cond_false]
        refine dcT_eq h1 h2 h3 (by omega) ?_
        congr 1
        omega
      · have hw : IntKind.i64.wrap (((catF (l.take y.toNat)).length : Int) + k) < k := by
          have := wrap_over (x := ((catF (l.take y.toNat)).length : Int) + k) (by omega) (by omega)
          omega
        rw [decide_eq_true hw, cond_true]
        refine dcT_eq h1 h2 h3 (by omega) ?_
        rw [wholeF_big _ k.toNat (by omega), wholeF_big _ _ (by
          have : (4611686018427387904 : Int).toNat = 4611686018427387904 := rfl
          omega)]
    · rw [decide_eq_false hk0, cond_false, decide_eq_false (show ¬ ((catF (l.take y.toNat)).length : Int) < k by omega), cond_false]
      refine dcT_eq h1 h2 h3 (by omega) ?_
      congr 1
      omega
  · cases hv
def dcrE : Ent PR A := ⟨n_ref08_Crash, _, dcr_ok⟩
end Go.Crc
