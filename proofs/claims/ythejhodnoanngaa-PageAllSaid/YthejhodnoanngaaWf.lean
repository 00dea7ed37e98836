/- Contracts of functions of this program. Conditions: none. -/
import Derived.Test.YthejhodnoanngaaWe
set_option linter.unusedVariables false
set_option linter.unusedSimpArgs false
/- Stores of frames. Conditions: none. A text of this seat's numbers. -/
set_option linter.unusedVariables false
set_option linter.unusedSimpArgs false
set_option maxRecDepth 100000
namespace Go.Crc
open Go.Vm Go.Pack Go.Rec Go.RowKit
def lvG : Lv → Bool
  | .own => true
  | .full => true
  | _ => false
abbrev stOb (b : List Int) (lv : Lv) (n : Int) (o : Bool) : Ob := .cells [.slice (.int .u8) b lv, .int .i64 n, .bool o]
def stLenF : Ob → List AV → Tr (AV × Bool × Ob)
  | .cells [.slice (.int .u8) b lv, .int .i64 n, .bool o], [] => .br (lvG lv) (.yes (.int .i64 b.length, false, stOb b lv n o)) .no
  | _, _ => .no
theorem lvG_cases {lv : Lv} (h : lvG lv = true) : lv = .own ∨ lv = .full := by
  cases lv <;> first | exact .inl rfl | exact .inr rfl | cases h
theorem stLen_ok : Con PR A n_page_Store_Len (objC 0 stLenF) := by
  refine objC_ok fun x rest v wrote x' hv => ?_
  unfold stLenF at hv
  split at hv
  · rename_i b lv n o
    obtain ⟨hc, hv2⟩ := Tr.br_no hv
    cases hv2
    refine ⟨rfl, rfl, rfl, rfl, by simp, fun ha _ => ?_⟩
    have h : body PR (cfE (P := PR) (A := A) []) cfgG (fun _ => none) n_page_Store_Len [.ptr 1 0 0] [[], [stOb b lv n o]] some = some (.int .i64 b.length, [], [[], [stOb b lv n o]]) := by
      rcases lvG_cases hc with rfl | rfl
      · kernel_rfl
      · kernel_rfl
    exact fun_call _ mixed (by kernel_rfl) (by kernel_rfl) (no_loops (by kernel_rfl)) h
  · cases hv
def stLenE : Ent PR A := ⟨n_page_Store_Len, _, stLen_ok⟩
def stSynF : Ob → List AV → Tr (AV × Bool × Ob)
  | .cells [.slice (.int .u8) b lv, .int .i64 n, .bool o], [] => .br (lvG lv) (.yes (.int .i64 n, false, stOb b lv n o)) .no
  | _, _ => .no
theorem stSyn_ok : Con PR A n_page_Store_Synced (objC 0 stSynF) := by
  refine objC_ok fun x rest v wrote x' hv => ?_
  unfold stSynF at hv
  split at hv
  · rename_i b lv n o
    obtain ⟨hc, hv2⟩ := Tr.br_no hv
    cases hv2
    refine ⟨rfl, rfl, rfl, rfl, by simp, fun ha _ => ?_⟩
    have h : body PR (cfE (P := PR) (A := A) []) cfgG (fun _ => none) n_page_Store_Synced [.ptr 1 0 0] [[], [stOb b lv n o]] some = some (.int .i64 n, [], [[], [stOb b lv n o]]) := by
      rcases lvG_cases hc with rfl | rfl
      · kernel_rfl
      · kernel_rfl
    exact fun_call _ mixed (by kernel_rfl) (by kernel_rfl) (no_loops (by kernel_rfl)) h
  · cases hv
def stSynE : Ent PR A := ⟨n_page_Store_Synced, _, stSyn_ok⟩
def stOffF : Ob → List AV → Tr (AV × Bool × Ob)
  | .cells [.slice (.int .u8) b lv, .int .i64 n, .bool o], [.bool t] => .br (lvG lv) (.yes (.tuple [], true, stOb b lv n t)) .no
  | _, _ => .no
theorem stOff_ok : Con PR A n_page_Store_Off (objC 0 stOffF) := by
  refine objC_ok fun x rest v wrote x' hv => ?_
  unfold stOffF at hv
  split at hv
  · rename_i b lv n o t
    obtain ⟨hc, hv2⟩ := Tr.br_no hv
    cases hv2
    refine ⟨rfl, rfl, rfl, rfl, by simp, fun ha _ => ?_⟩
    have h : body PR (cfE (P := PR) (A := A) []) cfgG (fun _ => none) n_page_Store_Off [.ptr 1 0 0, .bool t] [[], [stOb b lv n o]] some = some (.tuple [], [(1, 0)], [[], [stOb b lv n t]]) := by
      rcases lvG_cases hc with rfl | rfl
      · kernel_rfl
      · kernel_rfl
    exact fun_call _ mixed (by kernel_rfl) (by kernel_rfl) (no_loops (by kernel_rfl)) h
  · cases hv
def stOffE : Ent PR A := ⟨n_page_Store_Off, _, stOff_ok⟩
def stSyncF : Ob → List AV → Tr (AV × Bool × Ob)
  | .cells [.slice (.int .u8) b lv, .int .i64 n, .bool o], [] => .br (lvG lv) (.yes (.tuple [], true, stOb b lv (bif o then n else b.length) o)) .no
  | _, _ => .no
theorem stSync_ok : Con PR A n_page_Store_Sync (objC 0 stSyncF) := by
  refine objC_ok fun x rest v wrote x' hv => ?_
  unfold stSyncF at hv
  split at hv
  · rename_i b lv n o
    obtain ⟨hc, hv2⟩ := Tr.br_no hv
    cases hv2
    refine ⟨rfl, rfl, rfl, rfl, by simp, fun ha _ => ?_⟩
    have h : body PR (cfE (P := PR) (A := A) []) cfgG (fun _ => none) n_page_Store_Sync [.ptr 1 0 0] [[], [stOb b lv n o]] some = (bif !o then some (.tuple [], [(1, 0)], [[], [stOb b lv b.length o]]) else some (.tuple [], [], [[], [stOb b lv n o]])) := by
      rcases lvG_cases hc with rfl | rfl
      · kernel_rfl
      · kernel_rfl
    cases o with
    | true => exact SimCall.wr (fun_call _ mixed (by kernel_rfl) (by kernel_rfl) (no_loops (by kernel_rfl)) h) fun l i hm => rfl
    | false => exact fun_call _ mixed (by kernel_rfl) (by kernel_rfl) (no_loops (by kernel_rfl)) h
  · cases hv
def stSyncE : Ent PR A := ⟨n_page_Store_Sync, _, stSync_ok⟩
def stFrF : Ob → List AV → Tr (AV × Bool × Ob)
  | .cells [.slice (.int .u8) b lv, .int .i64 n, .bool o], [] => .br (lvG lv && decide (b.length ≤ 1000000)) (.yes (.slice TRow (scanL b) .view, false, stOb b lv n o)) .no
  | _, _ => .no
theorem stFr_ok : Con PR A n_page_Store_Frames (objC 0 stFrF) := by
  refine objC_ok fun x rest v wrote x' hv => ?_
  unfold stFrF at hv
  split at hv
  · rename_i b lv n o
    obtain ⟨hc, hv2⟩ := Tr.br_no hv
    cases hv2
    simp only [Bool.and_eq_true] at hc
    refine ⟨rfl, rfl, rfl, rfl, by simp, fun ha _ => ?_⟩
    have h : body PR (cfE (P := PR) (A := A) [scanE]) cfgG (fun _ => none) n_page_Store_Frames [.ptr 1 0 0] [[], [stOb b lv n o]] some = (bif decide (b.length ≤ 1000000) then some (.slice TRow (scanL b) .view, [], [[], [stOb b lv n o]]) else none) := by
      rcases lvG_cases hc.1 with rfl | rfl
      · kernel_rfl
      · kernel_rfl
    rw [cond_eq hc.2] at h
    exact fun_call _ mixed (by kernel_rfl) (by kernel_rfl) (no_loops (by kernel_rfl)) h
  · cases hv
def stFrE : Ent PR A := ⟨n_page_Store_Frames, _, stFr_ok⟩
def stByF : Ob → List AV → Tr (AV × Bool × Ob)
  | .cells [.slice (.int .u8) b lv, .int .i64 n, .bool o], [] => .br (lvG lv && (decide (b.length ≤ 1000000) && (decide (0 ≤ n) && decide (n ≤ (b.length : Int))))) (.yes (.slice (.int .u8) (b.take n.toNat) .view, false, stOb b lv n o)) .no
  | _, _ => .no
theorem stBy_ok : Con PR A n_page_Store_Bytes (objC 0 stByF) := by
  refine objC_ok fun x rest v wrote x' hv => ?_
  unfold stByF at hv
  split at hv
  · rename_i b lv n o
    obtain ⟨hc, hv2⟩ := Tr.br_no hv
    cases hv2
    simp only [Bool.and_eq_true, decide_eq_true_eq] at hc
    obtain ⟨hc, h1, h2, h3⟩ := hc
    refine ⟨rfl, rfl, rfl, rfl, by simp, fun ha _ => ?_⟩
    have h : body PR (cfE (P := PR) (A := A) [cloneE]) cfgG (fun _ => none) n_page_Store_Bytes [.ptr 1 0 0] [[], [stOb b lv n o]] some =
      (bif (decide (0 ≤ n) && decide (n ≤ (b.length : Int))) && decide (n = n) then bif decide (((b.take n.toNat).drop 0).length ≤ 140737488355328) then some (.slice (.int .u8) ((b.take n.toNat).drop 0) .view, [], [[], [stOb b lv n o]]) else none else none) := by
      rcases lvG_cases hc with rfl | rfl
      · kernel_rfl
      · kernel_rfl
    rw [cond_eq (by simp [h2, h3]), List.drop_zero, cond_eq (by simp only [List.length_take, decide_eq_true_eq]; omega)] at h
    exact fun_call _ mixed (by kernel_rfl) (by kernel_rfl) (no_loops (by kernel_rfl)) h
  · cases hv
def stByE : Ent PR A := ⟨n_page_Store_Bytes, _, stBy_ok⟩
/-! ### Append -/
def appOK (b x : List Int) (o : Bool) : Bool := !o && (decide (x.length ≤ 65536) && decide (b.length + (frB x).length ≤ 65536))
def stApF : Ob → List AV → Tr (AV × Bool × Ob)
  | .cells [.slice (.int .u8) b lv, .int .i64 n, .bool o], [.slice (.int .u8) x .view] => .br (lvG lv && decide (b.length ≤ 1000000)) (.br (appOK b x o) (.yes (.tuple [.int .i64 b.length, .int .i64 0], true, stOb (b ++ frB x) .own n o)) (.yes (.tuple [.int .i64 0, .int .i64 (bif o then 81 else 80)], false, stOb b lv n o))) .no
  | _, _ => .no
theorem stAp_ok : Con PR A n_page_Store_Append (objC 0 stApF) := by
  refine objC_ok fun z rest v wrote z' hv => ?_
  unfold stApF at hv
  split at hv
  · rename_i b lv n o x
    obtain ⟨hc, hv2⟩ := Tr.br_no hv
    clear hv
    simp only [Bool.and_eq_true, decide_eq_true_eq] at hc
    obtain ⟨hc, hl⟩ := hc
    have h : body PR (cfE (P := PR) (A := A) [framedE]) cfgG (fun _ => none) n_page_Store_Append [.ptr 1 0 0, .slice (.int .u8) x .view] [[], [stOb b lv n o]] some =
      (bif o then some (.tuple [.int .i64 0, .int .i64 81], [], [[], [stOb b lv n o]])
      else bif decide ((x.length : Int) > 65536) then some (.tuple [.int .i64 0, .int .i64 80], [], [[], [stOb b lv n o]])
      else bif decide (x.length ≤ 65536) then
        bif decide (IntKind.i64.wrap ((b.length : Int) + ((frB x).length : Int)) > 65536) then some (.tuple [.int .i64 0, .int .i64 80], [], [[], [stOb b lv n o]])
        else bif decide ((b.length + (frB x).length) * 1 ≤ 140737488355328) then some (.tuple [.int .i64 b.length, .int .i64 0], [(1, 0)], [[], [stOb (b ++ frB x) .own n o]]) else none
      else none) := by
      rcases lvG_cases hc with rfl | rfl
      · kernel_rfl
      · kernel_rfl
    have h2 : body PR (cfE (P := PR) (A := A) [framedE]) cfgG (fun _ => none) n_page_Store_Append [.ptr 1 0 0, .slice (.int .u8) x .view] [[], [stOb b lv n o]] some =
        bif appOK b x o then some (.tuple [.int .i64 b.length, .int .i64 0], [(1, 0)], [[], [stOb (b ++ frB x) .own n o]]) else some (.tuple [.int .i64 0, .int .i64 (bif o then 81 else 80)], [], [[], [stOb b lv n o]]) := by
      rw [h]
      unfold appOK
      cases o with
      | true => rfl
      | false =>
        by_cases h1 : x.length ≤ 65536
        · have := frB_le h1
          rw [decide_eq_false (show ¬ (x.length : Int) > 65536 by omega), decide_eq_true h1, wrap_i64 (by omega) (by omega)]
          by_cases h3 : b.length + (frB x).length ≤ 65536
          · rw [decide_eq_true h3, decide_eq_false (show ¬ ((b.length : Int) + ((frB x).length : Int) > 65536) by omega), cond_false, cond_false, cond_true, cond_false, cond_eq (decide_eq_true (by omega))]; rfl
          · rw [decide_eq_false h3, decide_eq_true (show ((b.length : Int) + ((frB x).length : Int) > 65536) by omega)]; rfl
        · rw [decide_eq_true (show (x.length : Int) > 65536 by omega), decide_eq_false h1]; rfl
    rcases Tr.br_or hv2 with ⟨he, h4⟩ | ⟨he, h4⟩
    · cases h4
      rw [he] at h2
      refine ⟨rfl, rfl, rfl, rfl, by simp, fun ha _ => ?_⟩
      exact fun_call _ mixed (by kernel_rfl) (by kernel_rfl) (no_loops (by kernel_rfl)) h2
    · cases h4
      rw [he] at h2
      refine ⟨rfl, rfl, rfl, rfl, by simp, fun ha _ => ?_⟩
      exact fun_call _ mixed (by kernel_rfl) (by kernel_rfl) (no_loops (by kernel_rfl)) h2
  · cases hv
def stApE : Ent PR A := ⟨n_page_Store_Append, _, stAp_ok⟩
/-! ### Crash -/
def crN (b : List Int) (n k : Int) : Int := n + min (max k 0) ((b.length : Int) - n)
def crT (b : List Int) (n k : Int) : List Int := b.take (crN b n k).toNat
def crB (b : List Int) (n k : Int) : List Int := b.take (scanN (crT b n k)).toNat
def stCrF : Ob → List AV → Tr (AV × Bool × Ob)
  | .cells [.slice (.int .u8) b lv, .int .i64 n, .bool o], [.int .i64 k] => .br (lvG lv && (decide (b.length ≤ 1000000) && (decide (0 ≤ n) && decide (n ≤ (b.length : Int))))) (.yes (.tuple [], true, stOb (crB b n k) .full (scanN (crT b n k)) false)) .no
  | _, _ => .no
def crM (b : List Int) (n k : Int) : Int := IntKind.i64.wrap (n + (if IntKind.i64.wrap ((b.length : Int) - n) < (if 0 > k then 0 else k) then IntKind.i64.wrap ((b.length : Int) - n) else (if 0 > k then 0 else k)))
theorem crM_eq {b : List Int} {n k : Int} (hl : b.length ≤ 1000000) (h2 : 0 ≤ n) (h3 : n ≤ (b.length : Int)) : crM b n k = crN b n k := by
  unfold crM crN
  rw [wrap_i64 (n := (b.length : Int) - n) (by omega) (by omega), wrap_i64 (by omega) (by omega)]
  omega
theorem stCr_ok : Con PR A n_page_Store_Crash (objC 0 stCrF) := by
  refine objC_ok fun x rest v wrote x' hv => ?_
  unfold stCrF at hv
  split at hv
  · rename_i b lv n o k
    obtain ⟨hc, hv2⟩ := Tr.br_no hv
    cases hv2
    simp only [Bool.and_eq_true, decide_eq_true_eq] at hc
    obtain ⟨hc, h1, h2, h3⟩ := hc
    refine ⟨rfl, rfl, rfl, rfl, by simp, fun ha hh => ?_⟩
    have hb : isBytes b := by
      have := hh 1 0 _ rfl
      simp only [okAVs, okAV] at this
      exact this.1.2
    have h : body PR (cfE (P := PR) (A := A) [scanE]) cfgG (fun _ => none) n_page_Store_Crash [.ptr 1 0 0, .int .i64 k] [[], [stOb b lv n o]] some =
      (bif (decide (0 ≤ crM b n k) && decide (crM b n k ≤ (b.length : Int))) && decide (crM b n k = crM b n k) then
        bif decide (((b.take (crM b n k).toNat).drop 0).length ≤ 1000000) then
          bif (decide (0 ≤ scanN ((b.take (crM b n k).toNat).drop 0)) && decide (scanN ((b.take (crM b n k).toNat).drop 0) ≤ (b.length : Int))) && decide (scanN ((b.take (crM b n k).toNat).drop 0) = scanN ((b.take (crM b n k).toNat).drop 0)) then
            some (.tuple [], [(1, 0), (1, 0), (1, 0)], [[], [stOb ((b.take (scanN ((b.take (crM b n k).toNat).drop 0)).toNat).drop 0) .full (scanN ((b.take (crM b n k).toNat).drop 0)) false]])
          else none else none else none) := by
      rcases lvG_cases hc with rfl | rfl
      · kernel_rfl
      · kernel_rfl
    rw [crM_eq h1 h2 h3, List.drop_zero] at h
    have hn : 0 ≤ crN b n k ∧ crN b n k ≤ (b.length : Int) := by unfold crN; omega
    have hs := scanN_le (take_bytes hb (crN b n k).toNat)
    have hlt : (b.take (crN b n k).toNat).length ≤ b.length := by rw [List.length_take]; omega
    rw [cond_eq (by simp [hn.1, hn.2]), cond_eq (by simp only [decide_eq_true_eq]; omega), cond_eq (by simp only [Bool.and_eq_true, decide_eq_true_eq, and_true]; omega), List.drop_zero] at h
    exact SimCall.wr (fun_call _ mixed (by kernel_rfl) (by kernel_rfl) (no_loops (by kernel_rfl)) h) fun l i hm => memWr1 (by simp) hm
  · cases hv
def stCrE : Ent PR A := ⟨n_page_Store_Crash, _, stCr_ok⟩
/-! ### New -/
def cfgW : Cfg := cfgOf [] [n_slices_Clone_byte_byte] []
def nwB (b : List Int) : List Int := (b.take 65536).take (scanN (b.take 65536)).toNat
def stNwF : List AV → Tr Ob
  | [.slice (.int .u8) b .view] => .yes (stOb (nwB b) .own (scanN (b.take 65536)) false)
  | _ => .no
theorem stNw_ok : Con PR A n_page_New (newC stNwF) := by
  refine newC_ok fun args x hv ha l S => ?_
  unfold stNwF at hv
  split at hv
  · rename_i b
    cases hv
    simp only [okAVs, okAV] at ha
    have hb : isBytes b := ha.1.2
    have hlen : (b.length : Int) ≤ 9223372036854775807 := by have := ha.1.1; simp only [maxInt] at this; omega
    have h : body PR (cfE (P := PR) (A := A) [scanE, cloneE]) cfgW (fun _ => none) n_page_New [.slice (.int .u8) b .view] (l :: S) some =
      (bif decide (0 ≤ (if 65536 < (b.length : Int) then (65536 : Int) else (b.length : Int))) && decide ((if 65536 < (b.length : Int) then (65536 : Int) else (b.length : Int)) ≤ (b.length : Int)) then
        bif decide (((b.take (if 65536 < (b.length : Int) then (65536 : Int) else (b.length : Int)).toNat).drop 0).length ≤ 1000000) then
          bif (decide (0 ≤ scanN ((b.take (if 65536 < (b.length : Int) then (65536 : Int) else (b.length : Int)).toNat).drop 0)) && decide (scanN ((b.take (if 65536 < (b.length : Int) then (65536 : Int) else (b.length : Int)).toNat).drop 0) ≤ (((b.take (if 65536 < (b.length : Int) then (65536 : Int) else (b.length : Int)).toNat).drop 0).length : Int))) && decide (scanN ((b.take (if 65536 < (b.length : Int) then (65536 : Int) else (b.length : Int)).toNat).drop 0) = scanN ((b.take (if 65536 < (b.length : Int) then (65536 : Int) else (b.length : Int)).toNat).drop 0)) then
            bif decide ((((((b.take (if 65536 < (b.length : Int) then (65536 : Int) else (b.length : Int)).toNat).drop 0).take (scanN ((b.take (if 65536 < (b.length : Int) then (65536 : Int) else (b.length : Int)).toNat).drop 0)).toNat).drop 0)).length ≤ 140737488355328) then
              some (.ptr 0 (lenN l + 0) 0, [], app l [stOb ((((b.take (if 65536 < (b.length : Int) then (65536 : Int) else (b.length : Int)).toNat).drop 0).take (scanN ((b.take (if 65536 < (b.length : Int) then (65536 : Int) else (b.length : Int)).toNat).drop 0)).toNat).drop 0) .own (scanN ((b.take (if 65536 < (b.length : Int) then (65536 : Int) else (b.length : Int)).toNat).drop 0)) false] :: S)
            else none else none else none else none) := by kernel_rfl
    have e : b.take (if 65536 < (b.length : Int) then (65536 : Int) else (b.length : Int)).toNat = b.take 65536 := by
      by_cases h : 65536 < (b.length : Int)
      · rw [if_pos h]; rfl
      · rw [if_neg h, Int.toNat_natCast, List.take_of_length_le (Nat.le_refl _), List.take_of_length_le (by omega)]
    have hlt : (b.take 65536).length ≤ 65536 := by rw [List.length_take]; omega
    have hs := scanN_le (take_bytes hb 65536)
    rw [cond_eq (by simp only [Bool.and_eq_true, decide_eq_true_eq]; omega), e, List.drop_zero, cond_eq (by simp only [decide_eq_true_eq]; omega), cond_eq (by simp only [Bool.and_eq_true, decide_eq_true_eq, and_true]; omega), List.drop_zero, cond_eq (by simp only [List.length_take, decide_eq_true_eq]; omega)] at h
    exact fun_call _ mixed (by kernel_rfl) (by kernel_rfl) (no_loops (by kernel_rfl)) h
  · cases hv
def stNwE : Ent PR A := ⟨n_page_New, _, stNw_ok⟩
end Go.Crc

/- Store.Read. Conditions: none. A text of this seat's numbers. -/
set_option linter.unusedVariables false
set_option linter.unusedSimpArgs false
set_option maxRecDepth 100000
namespace Go.Crc
open Go.Vm Go.Pack Go.Rec Go.RowKit
def boxR (a : Int) (b : List Int) (H : Stack) : Prop := ∃ (n : Int) (S : Stack), H = [.cells [.int .i64 a], .cells [.slice (.int .u8) [] .own], .cells [.bool false], .cells [.int .i64 n], boxO b] :: S
theorem rg1_R (b : List Int) (c0 c1 c2 c3 : Ob) (j : Nat) (S : Stack) (wr : Wr) : region PR cfF cfgG false (rg 1).toList (fr13 4 j) ([c0, c1, c2, c3, boxO b] :: S) wr (kp [1, 3, 10]) = some (.tuple [.ptr 0 4 0, .int .i64 j, .bool (decide ((j : Int) < (b.length : Int)))], wr, [c0, c1, c2, c3, boxO b] :: S) := by kernel_rfl
theorem rg2_R (b : List Int) (c0 c1 c2 c3 : Ob) (j : Nat) (S : Stack) (wr : Wr) : region PR cfF cfgG false (rg 2).toList (fr13 4 j) ([c0, c1, c2, c3, boxO b] :: S) wr (kp [1, 3, 4, 5, 6]) =
    (bif decide (0 ≤ (j : Int)) && decide ((j : Int) ≤ (b.length : Int)) then bif decide (((b.take b.length).drop (j : Int).toNat).length ≤ 140737488355328) then some (.tuple [.ptr 0 4 0, .int .i64 j, .slice (.int .u8) (fX ((b.take b.length).drop (j : Int).toNat)) .view, .int .i64 (fM ((b.take b.length).drop (j : Int).toNat)), .bool (fOK ((b.take b.length).drop (j : Int).toNat))], wr, [c0, c1, c2, c3, boxO b] :: S) else none else none) := by kernel_rfl
theorem iter_R {b : List Int} (a : Int) (hb : isBytes b) (hl : b.length ≤ 140737488355328) : IterOK PR A n_page_frames_1 [.ptr 0 4 0] (boxR a b) (ysF 0 (scanL b)) := by
  refine frames_iter hb hl (fun H wr j h => ?_) fun H wr j h hj => ?_
  · obtain ⟨n, S, rfl⟩ := h
    exact rg1_R b _ _ _ _ j S wr
  · obtain ⟨n, S, rfl⟩ := h
    refine (rg2_R b _ _ _ _ j S wr).trans (rg2_ok hl hj fun z => some (.tuple [.ptr 0 4 0, .int .i64 j, .slice (.int .u8) (fX z) .view, .int .i64 (fM z), .bool (fOK z)], wr, [.cells [.int .i64 a], .cells [.slice (.int .u8) [] .own], .cells [.bool false], .cells [.int .i64 n], boxO b] :: S))
def rdIs (a : Int) : Nat → List (List Int) → Bool
  | _, [] => false
  | n, x :: r => bif (n : Int) == a then true else rdIs a (n + (frB x).length) r
def rdV (a : Int) : Nat → List (List Int) → List Int
  | _, [] => []
  | n, x :: r => bif (n : Int) == a then x else rdV a (n + (frB x).length) r
def rdK (a : Int) : Nat → List (List Int) → Nat
  | _, [] => 0
  | n, x :: r => bif (n : Int) == a then 0 else rdK a (n + (frB x).length) r + 1
def rdF (vs : List AV) (H : Stack) : Tr (Ex × List AV × Stack × Wr) := match vs, H with
  | [.func g [] [.ptr 0 4 0], .ptr 0 0 0, .ptr 0 1 0, .ptr 0 2 0, .ptr 0 3 0], [.cells [.int .i64 a], .cells [.slice (.int .u8) [] .own], .cells [.bool false], .cells [.int .i64 0], .cells [.slice (.int .u8) b .view]] :: S =>
    .br (decide (g = n_page_frames_1)) (.br (decide (b.length ≤ 1000000)) (.br (rdIs a 0 (scanL b))
      (.yes (.ret, [.ptr 0 1 0, .ptr 0 2 0], [.cells [.int .i64 a], .cells [.slice (.int .u8) (rdV a 0 (scanL b)) .view], .cells [.bool true], .cells [.int .i64 a], boxO b] :: S, (0, 2) :: (0, 1) :: repApp (rdK a 0 (scanL b)) [(0, 3)]))
      (.yes (.normal, [.ptr 0 1 0, .ptr 0 2 0], [.cells [.int .i64 a], .cells [.slice (.int .u8) [] .own], .cells [.bool false], .cells [.int .i64 (scanN b)], boxO b] :: S, repApp (rdK a 0 (scanL b)) [(0, 3)]))) .no) .no
  | _, _ => .no
def lfRd : Nat → Option LoopSum := lfOf [(122, loopT [24, 3, 4, 5, 6] [4, 5] rdF)]
noncomputable abbrev rfRd : Code := rcode PR n_page_Store_Read 0
theorem rfRd_eq : rfRd = .rangeFunc (.tmp 24) #[25, 26] (rAs rfRd) (rBd rfRd) := by kernel_rfl
abbrev vsRd (f : AV) : List AV := [f, .ptr 0 0 0, .ptr 0 1 0, .ptr 0 2 0, .ptr 0 3 0]
theorem rd_round' (c : List AV) (x : List Int) (a e n : Int) (bx : Ob) (S : Stack) (wr : Wr) :
    roundE PR cfSc cfgG lfRd (cfgG.live n_page_Store_Read) (rAs rfRd) (rBd rfRd) 122 (frR [24, 3, 4, 5, 6] (vsRd (.func n_page_frames_1 [] c)) 25 26 [.slice (.int .u8) x .view, .int .i64 e]) ([.cells [.int .i64 a], .cells [.slice (.int .u8) [] .own], .cells [.bool false], .cells [.int .i64 n], bx] :: S) wr =
      (bif n == a then some (.bool false, (0, 2) :: (0, 1) :: wr, [.cells [.int .i64 a], .cells [.slice (.int .u8) x .view], .cells [.bool true], .cells [.int .i64 n], bx] :: S)
      else some (.bool true, (0, 3) :: wr, [.cells [.int .i64 a], .cells [.slice (.int .u8) [] .own], .cells [.bool false], .cells [.int .i64 e], bx] :: S)) := by kernel_rfl
theorem rd_run (c : List AV) (a : Int) (bx : Ob) (S : Stack) : ∀ (L : List (List Int)) (at_ : Nat) (wr : Wr),
    runV (fun xs H wr => roundE PR cfSc cfgG lfRd (cfgG.live n_page_Store_Read) (rAs rfRd) (rBd rfRd) 122 (frR [24, 3, 4, 5, 6] (vsRd (.func n_page_frames_1 [] c)) 25 26 xs) H wr) (ysF at_ L) ([.cells [.int .i64 a], .cells [.slice (.int .u8) [] .own], .cells [.bool false], .cells [.int .i64 (at_ : Int)], bx] :: S) wr =
      bif rdIs a at_ L then some (false, (0, 2) :: (0, 1) :: app (repApp (rdK a at_ L) [(0, 3)]) wr, [.cells [.int .i64 a], .cells [.slice (.int .u8) (rdV a at_ L) .view], .cells [.bool true], .cells [.int .i64 a], bx] :: S)
      else some (true, app (repApp (rdK a at_ L) [(0, 3)]) wr, [.cells [.int .i64 a], .cells [.slice (.int .u8) [] .own], .cells [.bool false], .cells [.int .i64 ((at_ + (catF L).length : Nat) : Int)], bx] :: S)
  | [], at_, wr => by simp [ysF, runV, repApp, app, catF, rdIs, rdK]
  | x :: L, at_, wr => by
    rw [ysF, runV, rd_round']
    simp only [rdIs, rdV, rdK]
    cases hn : ((at_ : Int) == a) with
    | true =>
      rw [beq_iff_eq] at hn
      simp only [cond_true, repApp, app, hn]
    | false =>
      simp only [cond_false]
      rw [rd_run c a bx S L (at_ + (frB x).length), rep_more, catF, List.length_append]
      simp only [app, Nat.add_assoc]
theorem rd_ranges : ∀ x ∈ funRanges PR n_page_Store_Read, ∀ L, lfRd x.1 = some L → RangeOK PR A (ntm PR n_page_Store_Read) x.2 L := by
  refine one_range (p := 122) rfl (by kernel_rfl) ?_
  show RangeOK PR A _ rfRd _
  rw [rfRd_eq]
  have hnt : ntm PR n_page_Store_Read = 32 := by kernel_rfl
  refine rangeOK_of (cf := cfSc) (cfg := cfgG) (lf := lfRd) (lv := cfgG.live n_page_Store_Read) (p := 122) (gf := n_page_frames_1) (cfE_ok _) (by kernel_rfl) (by kernel_rfl) (by rw [hnt]; decide) (by rw [hnt]; decide) (by rw [hnt]; decide) (by kernel_rfl) (by obtain ⟨fn, h1, h2, _⟩ := fr_body; exact ⟨fn, _, h1, h2⟩) fun vs H ex vs' H' w hv ha hh => ?_
  unfold rdF at hv
  split at hv
  · rename_i g a b S
    obtain ⟨hg, hv2⟩ := Tr.br_no hv
    clear hv
    obtain ⟨hl, hv3⟩ := Tr.br_no hv2
    clear hv2
    simp only [decide_eq_true_eq] at hg hl
    subst hg
    have hb : isBytes b := by
      have := hh 0 4 _ rfl
      simp only [okAVs, okAV] at this
      exact this.1.2
    have hkeep : ∀ xs ∈ ysF 0 (scanL b), ∀ H wr wr' H', roundE PR cfSc cfgG lfRd (cfgG.live n_page_Store_Read) (rAs rfRd) (rBd rfRd) 122 (frR [24, 3, 4, 5, 6] (vsRd (.func n_page_frames_1 [] [.ptr 0 4 0])) 25 26 xs) H wr = some (.bool true, wr', H') → boxR a b H → boxR a b H' := by
      intro xs hxs H wr wr' H' he hbx
      obtain ⟨n, S', rfl⟩ := hbx
      obtain ⟨x, e, rfl⟩ := ys_form hxs
      rw [rd_round'] at he
      cases hd : (n == a) with
      | true => rw [hd] at he; cases he
      | false => rw [hd] at he; cases he; exact ⟨_, _, rfl⟩
    have hpair : ∀ xs ∈ ysF 0 (scanL b), ∃ x y, xs = [x, y] := fun xs hxs => by
      obtain ⟨x, e, rfl⟩ := ys_form hxs
      exact ⟨_, _, rfl⟩
    have hrun := fun wr => rd_run [.ptr 0 4 0] a (boxO b) S (scanL b) 0 wr
    simp only [Nat.zero_add] at hrun
    rcases Tr.br_or hv3 with ⟨he, h4⟩ | ⟨he, h4⟩
    · cases h4
      rw [he] at hrun
      exact ⟨[.ptr 0 4 0], _, false, ysF 0 (scanL b), boxR a b, rfl, rfl, rfl, iter_R a hb (by omega), ⟨0, S, rfl⟩, fun wr => hrun wr, hkeep, hpair⟩
    · cases h4
      rw [he] at hrun
      exact ⟨[.ptr 0 4 0], _, true, ysF 0 (scanL b), boxR a b, rfl, rfl, rfl, iter_R a hb (by omega), ⟨0, S, rfl⟩, fun wr => hrun wr, hkeep, hpair⟩
  · cases hv
def rdB (b : List Int) (k : Int) : Bool := decide (0 ≤ k) && (decide (k < (b.length : Int)) && rdIs k 0 (scanL b))
def rdX (b : List Int) (k : Int) : List Int := bif rdB b k then rdV k 0 (scanL b) else []
def stRdF : Ob → List AV → Tr (AV × Bool × Ob)
  | .cells [.slice (.int .u8) b lv, .int .i64 n, .bool o], [.int .i64 k] => .br (lvG lv && decide (b.length ≤ 1000000)) (.yes (.tuple [.slice (.int .u8) (rdX b k) .view, .bool (rdB b k)], false, stOb b lv n o)) .no
  | _, _ => .no
theorem stRd_ok : Con PR A n_page_Store_Read (objC 0 stRdF) := by
  refine objC_ok fun z rest v wrote z' hv => ?_
  unfold stRdF at hv
  split at hv
  · rename_i b lv n o k
    obtain ⟨hc, hv2⟩ := Tr.br_no hv
    cases hv2
    simp only [Bool.and_eq_true, decide_eq_true_eq] at hc
    obtain ⟨hc, hl⟩ := hc
    refine ⟨rfl, rfl, rfl, rfl, by simp, fun ha hh => ?_⟩
    have h : body PR cfSc cfgG lfRd n_page_Store_Read [.ptr 1 0 0, .int .i64 k] [[], [stOb b lv n o]] some =
      (bif decide (k < 0) then some (.tuple [.slice (.int .u8) [] .view, .bool false], [], [[], [stOb b lv n o]])
      else bif decide (k ≥ (b.length : Int)) then some (.tuple [.slice (.int .u8) [] .view, .bool false], [], [[], [stOb b lv n o]])
      else bif decide (b.length ≤ 1000000) then
        bif rdIs k 0 (scanL b) then some (.tuple [.slice (.int .u8) (rdV k 0 (scanL b)) .view, .bool true], outer (app (repApp (rdK k 0 (scanL b)) [(0, 3)]) [(0, 3)]), [[], [stOb b lv n o]])
        else some (.tuple [.slice (.int .u8) [] .view, .bool false], outer (app (repApp (rdK k 0 (scanL b)) [(0, 3)]) [(0, 3)]), [[], [stOb b lv n o]])
      else none) := by
      rcases lvG_cases hc with rfl | rfl
      · kernel_rfl
      · kernel_rfl
    rw [outer_app0 _ _ (all0_rep rfl _)] at h
    refine fun_callR _ mixed (by kernel_rfl) (by kernel_rfl) (no_loops (by kernel_rfl)) rd_ranges (h.trans ?_)
    unfold rdX rdB
    by_cases h1 : k < 0
    · rw [decide_eq_true h1, decide_eq_false (show ¬ 0 ≤ k by omega)]; rfl
    · by_cases h2 : k ≥ (b.length : Int)
      · rw [decide_eq_false h1, decide_eq_true h2, decide_eq_true (show 0 ≤ k by omega), decide_eq_false (show ¬ k < (b.length : Int) by omega)]; rfl
      · rw [decide_eq_false h1, decide_eq_false h2, decide_eq_true (show 0 ≤ k by omega), decide_eq_true (show k < (b.length : Int) by omega), decide_eq_true hl]
        cases rdIs k 0 (scanL b) <;> rfl
  · cases hv
def stRdE : Ent PR A := ⟨n_page_Store_Read, _, stRd_ok⟩
end Go.Crc
