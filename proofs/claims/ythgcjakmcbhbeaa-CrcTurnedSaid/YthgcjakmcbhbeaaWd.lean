/- Contracts of functions of this program. Conditions: none. -/
import Derived.Test.YthgcjakmcbhbeaaWc
import Derived.Test.YthgcjakmcbhbeaaVg
import Derived.Test.YthgcjakmcbhbeaaVp
set_option linter.unusedVariables false
set_option linter.unusedSimpArgs false
/- The law CrcTurned. Conditions: none. A text of this seat's numbers. -/
set_option linter.unusedVariables false
set_option linter.unusedSimpArgs false
set_option maxRecDepth 100000
namespace Go.Crc
open Go.Vm
def stT : List StoreD := [⟨62, 22, 5, 8, 7, 42, 43, 48, 49⟩, ⟨506, 22, 5, 9, 8, 55, 57, 62, 63⟩]
def cfgTu : Cfg := { cfgL with mn := true }
noncomputable abbrev tuB (b : List Int) (i x0 x1 : Int) : Option Res := bodyL PR (cfE E1) cfgTu (fun _ => none) (estDL PR (cfE E1) cfgTu n_law_CrcTurned (nthD (up.ups [.slice (.int .u8) b .view, .int .i64 i, .agg [.int .u8 x0, .int .u8 x1]])) [0] stT) n_law_CrcTurned [.slice (.int .u8) b .view, .int .i64 i, .agg [.int .u8 x0, .int .u8 x1]]
abbrev tuD (b : List Int) : List Int := ((crcPut b).take (crcPut b).length).drop (b.length : Int).toNat
def tuR (b c : List Int) : Option Res :=
  bif decide (b.length + 4 ≤ 140737488355328) then bif decide ((0 : Int) ≤ (b.length : Int)) && decide ((b.length : Int) ≤ ((crcPut b).length : Int)) then bif decide ((c.length + (tuD b).length) * 1 ≤ 140737488355328) then bif decide ((c ++ tuD b).length ≤ 140737488355328) then
    bif crcSum [c].flatten != crcSum [b].flatten then some (.bool (!crcOK (c ++ tuD b)), [], []) else some (.bool false, [], [])
  else none else none else none else none
def tuS (c : List Int) (i v : Int) (k : List Int → Option Res) : Option Res :=
  (at? c i).bind fun x => (at? c i).bind fun _ => bif (decide (0 ≤ i) && decide (i < (c.length : Int))) && true then k (setAt c i.toNat (bitop .xor .u8 x v)) else none
theorem tu_eq (b : List Int) (i x0 x1 : Int) : tuB b i x0 x1 =
    (bif decide (i < 0) then some (.bool true, [], []) else bif decide (i ≥ (b.length : Int)) then some (.bool true, [], []) else bif decide ((b.length : Int) > 20000) then some (.bool true, [], []) else bif decide (x0 = 0) then some (.bool true, [], [])
    else bif decide ((0 + b.length) * 1 ≤ 140737488355328) then tuS ([] ++ b) i x0 fun c => bif decide (IntKind.i64.wrap (i + 1) < (c.length : Int)) then tuS c (IntKind.i64.wrap (i + 1)) x1 (tuR b) else tuR b c else none) := by kernel_rfl
theorem sz_u8 {s : Int} (h : Sz (.int .u8) s) : 0 ≤ s ∧ s ≤ 255 := by
  simpa [Sz, IntKind.min, IntKind.max, IntKind.signed, IntKind.bits] using h
theorem crcSum_fold (b : List Int) (hb : isBytes b) : crcSum b = ((4294967295 - crcFold 4294967295 b : Nat) : Int) := by
  unfold crcSum crcMore crcMoreN
  simp
theorem crcSum_ne {b c : List Int} (hb : isBytes b) (hc : isBytes c) (h : crcFold 4294967295 c ≠ crcFold 4294967295 b) : crcSum c ≠ crcSum b := by
  have h1 := crcFold_lt (n := 4294967295) (by omega) hb
  have h2 := crcFold_lt (n := 4294967295) (by omega) hc
  rw [crcSum_fold b hb, crcSum_fold c hc]
  omega
theorem le4_inj {a b : Int} (ha : 0 ≤ a ∧ a < 4294967296) (hb : 0 ≤ b ∧ b < 4294967296) (h : le4 a = le4 b) : a = b := by
  unfold le4 at h
  simp only [List.cons.injEq, and_true] at h
  omega
theorem sum_range (b : List Int) (hb : isBytes b) : 0 ≤ crcSum b ∧ crcSum b < 4294967296 := by
  rw [crcSum_fold b hb]
  omega
theorem tuR_ok {b c : List Int} (hb : isBytes b) (hc : isBytes c) (hl : b.length ≤ 20000) (he : c.length = b.length) (h : crcFold 4294967295 c ≠ crcFold 4294967295 b) : tuR b c = some (.bool true, [], []) := by
  have hne := crcSum_ne hb hc h
  have hD : tuD b = le4 (crcSum b) := by
    unfold tuD
    rw [List.take_length, Int.toNat_natCast]
    unfold crcPut
    rw [List.drop_left]
  have hlen : (le4 (crcSum b)).length = 4 := rfl
  have hok : crcOK (c ++ tuD b) = false := by
    rw [hD]
    unfold crcOK
    rw [List.length_append, hlen, Nat.add_sub_cancel, List.take_left, List.drop_left]
    have : (le4 (crcSum b) == le4 (crcSum c)) = false := by
      rw [beq_eq_false_iff_ne]
      intro e
      exact hne (le4_inj (sum_range b hb) (sum_range c hc) e).symm
    rw [this, Bool.and_false]
  unfold tuR
  rw [hok, crcPut_length, decide_eq_true (show b.length + 4 ≤ 140737488355328 by omega), decide_eq_true (show (0 : Int) ≤ (b.length : Int) by omega), decide_eq_true (show (b.length : Int) ≤ ((b.length + 4 : Nat) : Int) by omega),
    decide_eq_true (show (c.length + (tuD b).length) * 1 ≤ 140737488355328 by rw [hD, hlen]; omega), decide_eq_true (show (c ++ tuD b).length ≤ 140737488355328 by rw [List.length_append, hD, hlen]; omega)]
  have : (crcSum [c].flatten != crcSum [b].flatten) = true := by
    simp only [List.flatten_cons, List.flatten_nil, List.append_nil, bne_iff_ne]
    exact hne
  rw [this]
  rfl
theorem tuS_ok {c : List Int} {i v x : Int} {k : List Int → Option Res} (h : at? c i = some x) : tuS c i v k = k (c.set i.toNat (bitop .xor .u8 x v)) := by
  obtain ⟨g0, g1, g2⟩ := at?_some h
  unfold tuS
  rw [h, Option.bind_some, Option.bind_some, decide_eq_true g0, decide_eq_true (show i < (c.length : Int) by omega), setAt_eq]
  rfl
theorem xor_rng {x v : Int} (hx : 0 ≤ x ∧ x ≤ 255) (hv : 0 ≤ v ∧ v ≤ 255) : 0 ≤ bitop .xor .u8 x v ∧ bitop .xor .u8 x v ≤ 255 := by
  by_cases h : v = 0
  · subst h
    have : bitop .xor .u8 x 0 = x := by
      have hm : ∀ m : Fin 256, bitop .xor .u8 ((m.val : Nat) : Int) 0 = ((m.val : Nat) : Int) := by decide
      have := hm ⟨x.toNat, by omega⟩
      simpa only [Int.toNat_of_nonneg hx.1] using this
    rw [this]; exact hx
  · exact (byte_turned hx ⟨by omega, hv.2⟩).1
theorem tu_ok (b : List Int) (i x0 x1 : Int) (hb : isBytes b) (h0 : 0 ≤ x0 ∧ x0 ≤ 255) (h1 : 0 ≤ x1 ∧ x1 ≤ 255) : tuB b i x0 x1 = some (.bool true, [], []) := by
  rw [tu_eq]
  by_cases k1 : i < 0
  · rw [decide_eq_true k1]; rfl
  by_cases k2 : i ≥ (b.length : Int)
  · rw [decide_eq_false k1, decide_eq_true k2]; rfl
  by_cases k3 : (b.length : Int) > 20000
  · rw [decide_eq_false k1, decide_eq_false k2, decide_eq_true k3]; rfl
  by_cases k4 : x0 = 0
  · rw [decide_eq_false k1, decide_eq_false k2, decide_eq_false k3, decide_eq_true k4]; rfl
  rw [decide_eq_false k1, decide_eq_false k2, decide_eq_false k3, decide_eq_false k4, decide_eq_true (show (0 + b.length) * 1 ≤ 140737488355328 by omega)]
  simp only [cond_true, cond_false, List.nil_append]
  obtain ⟨j, rfl⟩ : ∃ j : Nat, i = (j : Int) := ⟨i.toNat, by omega⟩
  have hj : j < b.length := by omega
  have hx : b[j]? = some b[j] := List.getElem?_eq_getElem hj
  have hxr := hb b[j] (List.getElem_mem hj)
  rw [tuS_ok (at_some hx), Int.toNat_natCast]
  obtain ⟨r1, r2⟩ := byte_turned hxr (t := x0) (by omega)
  have hset := isBytes_set hb j r1
  have hsplit : b = b.take j ++ b[j] :: b.drop (j + 1) := by rw [← List.drop_eq_getElem_cons hj, List.take_append_drop]
  have hlt : (b.take j).length = j := by rw [List.length_take]; omega
  have hc1 : b.set j (bitop .xor .u8 b[j] x0) = b.take j ++ bitop .xor .u8 b[j] x0 :: b.drop (j + 1) := by
    rw [List.set_eq_take_append_cons_drop, if_pos hj]
  have hw : IntKind.i64.wrap ((j : Int) + 1) = ((j + 1 : Nat) : Int) := wrap_next hj (by simp only [maxInt]; omega)
  rw [hw, List.length_set]
  by_cases k5 : ((j + 1 : Nat) : Int) < (b.length : Int)
  · rw [decide_eq_true k5, cond_true]
    have hj2 : j + 1 < b.length := by omega
    have hx2 : (b.set j (bitop .xor .u8 b[j] x0))[j + 1]? = some b[j + 1] := by
      rw [List.getElem?_set_ne (by omega)]; exact List.getElem?_eq_getElem hj2
    rw [tuS_ok (at_some hx2), Int.toNat_natCast]
    have hyr := hb b[j + 1] (List.getElem_mem hj2)
    have hyx := xor_rng hyr h1
    refine tuR_ok hb (isBytes_set hset (j + 1) hyx) (by omega) (by simp) ?_
    have hd : b.drop (j + 1) = b[j + 1] :: b.drop (j + 2) := List.drop_eq_getElem_cons hj2
    have hc2 : (b.set j (bitop .xor .u8 b[j] x0)).set (j + 1) (bitop .xor .u8 b[j + 1] x1) = b.take j ++ bitop .xor .u8 b[j] x0 :: bitop .xor .u8 b[j + 1] x1 :: b.drop (j + 2) := by
      rw [hc1, hd, List.set_append_right _ _ (by omega), hlt, show j + 1 - j = 1 by omega]
      rfl
    rw [hc2]
    conv => rhs; rw [hsplit, hd]
    exact fold_turn2 _ _ hxr r1 hyr hyx r2
  · rw [decide_eq_false k5, cond_false]
    refine tuR_ok hb hset (by omega) (by simp) ?_
    rw [hc1]
    conv => rhs; rw [hsplit]
    exact fold_turn1 _ _ hxr r1 r2
end Go.Crc
