/- Contracts of functions of this program. Conditions: none. -/
import Derived.Test.YtgnfgckieigblaaGreatWg
import Derived.Test.YtgnfgckieigblaaGreatVg
set_option linter.unusedVariables false
set_option linter.unusedSimpArgs false
/- Stores of frames. Conditions: none. A text of this seat's numbers. -/
set_option linter.unusedVariables false
set_option linter.unusedSimpArgs false
set_option maxRecDepth 100000
namespace Go.Crc
open Go.Vm Go.Pack Go.Rec Go.RowKit
def lvG : Lv → Bool
  | .own => true
  | .full => true
  | _ => false
abbrev stOb (b : List Int) (lv : Lv) (n : Int) (o : Bool) : Ob := .cells [.slice (.int .u8) b lv, .int .i64 n, .bool o]
def stLenF : Ob → List AV → Tr (AV × Bool × Ob)
  | .cells [.slice (.int .u8) b lv, .int .i64 n, .bool o], [] => .br (lvG lv) (.yes (.int .i64 b.length, false, stOb b lv n o)) .no
  | _, _ => .no
theorem lvG_cases {lv : Lv} (h : lvG lv = true) : lv = .own ∨ lv = .full := by
  cases lv <;> first | exact .inl rfl | exact .inr rfl | cases h
theorem stLen_ok : Con PR A n_page_Store_Len (objC 0 stLenF) := by
  refine objC_ok fun x rest v wrote x' hv => ?_
  unfold stLenF at hv
  split at hv
  · rename_i b lv n o
    obtain ⟨hc, hv2⟩ := Tr.br_no hv
    cases hv2
    refine ⟨rfl, rfl, rfl, rfl, by simp, fun ha _ => ?_⟩
    have h : body PR (cfE (P := PR) (A := A) []) cfgG (fun _ => none) n_page_Store_Len [.ptr 1 0 0] [[], [stOb b lv n o]] some = some (.int .i64 b.length, [], [[], [stOb b lv n o]]) := by
      rcases lvG_cases hc with rfl | rfl
      · kernel_rfl
      · kernel_rfl
    exact fun_call _ mixed (by kernel_rfl) (by kernel_rfl) (no_loops (by kernel_rfl)) h
  · cases hv
def stLenE : Ent PR A := ⟨n_page_Store_Len, _, stLen_ok⟩
def stSynF : Ob → List AV → Tr (AV × Bool × Ob)
  | .cells [.slice (.int .u8) b lv, .int .i64 n, .bool o], [] => .br (lvG lv) (.yes (.int .i64 n, false, stOb b lv n o)) .no
  | _, _ => .no
theorem stSyn_ok : Con PR A n_page_Store_Synced (objC 0 stSynF) := by
  refine objC_ok fun x rest v wrote x' hv => ?_
  unfold stSynF at hv
  split at hv
  · rename_i b lv n o
    obtain ⟨hc, hv2⟩ := Tr.br_no hv
    cases hv2
    refine ⟨rfl, rfl, rfl, rfl, by simp, fun ha _ => ?_⟩
    have h : body PR (cfE (P := PR) (A := A) []) cfgG (fun _ => none) n_page_Store_Synced [.ptr 1 0 0] [[], [stOb b lv n o]] some = some (.int .i64 n, [], [[], [stOb b lv n o]]) := by
      rcases lvG_cases hc with rfl | rfl
      · kernel_rfl
      · kernel_rfl
    exact fun_call _ mixed (by kernel_rfl) (by kernel_rfl) (no_loops (by kernel_rfl)) h
  · cases hv
def stSynE : Ent PR A := ⟨n_page_Store_Synced, _, stSyn_ok⟩
def stOffF : Ob → List AV → Tr (AV × Bool × Ob)
  | .cells [.slice (.int .u8) b lv, .int .i64 n, .bool o], [.bool t] => .br (lvG lv) (.yes (.tuple [], true, stOb b lv n t)) .no
  | _, _ => .no
theorem stOff_ok : Con PR A n_page_Store_Off (objC 0 stOffF) := by
  refine objC_ok fun x rest v wrote x' hv => ?_
  unfold stOffF at hv
  split at hv
  · rename_i b lv n o t
    obtain ⟨hc, hv2⟩ := Tr.br_no hv
    cases hv2
    refine ⟨rfl, rfl, rfl, rfl, by simp, fun ha _ => ?_⟩
    have h : body PR (cfE (P := PR) (A := A) []) cfgG (fun _ => none) n_page_Store_Off [.ptr 1 0 0, .bool t] [[], [stOb b lv n o]] some = some (.tuple [], [(1, 0)], [[], [stOb b lv n t]]) := by
      rcases lvG_cases hc with rfl | rfl
      · kernel_rfl
      · kernel_rfl
    exact fun_call _ mixed (by kernel_rfl) (by kernel_rfl) (no_loops (by kernel_rfl)) h
  · cases hv
def stOffE : Ent PR A := ⟨n_page_Store_Off, _, stOff_ok⟩
def stSyncF : Ob → List AV → Tr (AV × Bool × Ob)
  | .cells [.slice (.int .u8) b lv, .int .i64 n, .bool o], [] => .br (lvG lv) (.yes (.tuple [], true, stOb b lv (bif o then n else b.length) o)) .no
  | _, _ => .no
theorem stSync_ok : Con PR A n_page_Store_Sync (objC 0 stSyncF) := by
  refine objC_ok fun x rest v wrote x' hv => ?_
  unfold stSyncF at hv
  split at hv
  · rename_i b lv n o
    obtain ⟨hc, hv2⟩ := Tr.br_no hv
    cases hv2
    refine ⟨rfl, rfl, rfl, rfl, by simp, fun ha _ => ?_⟩
    have h : body PR (cfE (P := PR) (A := A) []) cfgG (fun _ => none) n_page_Store_Sync [.ptr 1 0 0] [[], [stOb b lv n o]] some = (bif !o then some (.tuple [], [(1, 0)], [[], [stOb b lv b.length o]]) else some (.tuple [], [], [[], [stOb b lv n o]])) := by
      rcases lvG_cases hc with rfl | rfl
      · kernel_rfl
      · kernel_rfl
    cases o with
    | true => exact SimCall.wr (fun_call _ mixed (by kernel_rfl) (by kernel_rfl) (no_loops (by kernel_rfl)) h) fun l i hm => rfl
    | false => exact fun_call _ mixed (by kernel_rfl) (by kernel_rfl) (no_loops (by kernel_rfl)) h
  · cases hv
def stSyncE : Ent PR A := ⟨n_page_Store_Sync, _, stSync_ok⟩
def stFrF : Ob → List AV → Tr (AV × Bool × Ob)
  | .cells [.slice (.int .u8) b lv, .int .i64 n, .bool o], [] => .br (lvG lv && decide (b.length ≤ 1000000)) (.yes (.slice TRow (scanL b) .view, false, stOb b lv n o)) .no
  | _, _ => .no
theorem stFr_ok : Con PR A n_page_Store_Frames (objC 0 stFrF) := by
  refine objC_ok fun x rest v wrote x' hv => ?_
  unfold stFrF at hv
  split at hv
  · rename_i b lv n o
    obtain ⟨hc, hv2⟩ := Tr.br_no hv
    cases hv2
    simp only [Bool.and_eq_true] at hc
    refine ⟨rfl, rfl, rfl, rfl, by simp, fun ha _ => ?_⟩
    have h : body PR (cfE (P := PR) (A := A) [scanE]) cfgG (fun _ => none) n_page_Store_Frames [.ptr 1 0 0] [[], [stOb b lv n o]] some = (bif decide (b.length ≤ 1000000) then some (.slice TRow (scanL b) .view, [], [[], [stOb b lv n o]]) else none) := by
      rcases lvG_cases hc.1 with rfl | rfl
      · kernel_rfl
      · kernel_rfl
    rw [cond_eq hc.2] at h
    exact fun_call _ mixed (by kernel_rfl) (by kernel_rfl) (no_loops (by kernel_rfl)) h
  · cases hv
def stFrE : Ent PR A := ⟨n_page_Store_Frames, _, stFr_ok⟩
def stByF : Ob → List AV → Tr (AV × Bool × Ob)
  | .cells [.slice (.int .u8) b lv, .int .i64 n, .bool o], [] => .br (lvG lv && (decide (b.length ≤ 1000000) && (decide (0 ≤ n) && decide (n ≤ (b.length : Int))))) (.yes (.slice (.int .u8) (b.take n.toNat) .view, false, stOb b lv n o)) .no
  | _, _ => .no
/-! ### Append -/
def appOK (b x : List Int) (o : Bool) : Bool := !o && (decide (x.length ≤ 65536) && decide (b.length + (frB x).length ≤ 65536))
def stApF : Ob → List AV → Tr (AV × Bool × Ob)
  | .cells [.slice (.int .u8) b lv, .int .i64 n, .bool o], [.slice (.int .u8) x .view] => .br (lvG lv && decide (b.length ≤ 1000000)) (.br (appOK b x o) (.yes (.tuple [.int .i64 b.length, .int .i64 0], true, stOb (b ++ frB x) .own n o)) (.yes (.tuple [.int .i64 0, .int .i64 (bif o then 81 else 80)], false, stOb b lv n o))) .no
  | _, _ => .no
theorem stAp_ok : Con PR A n_page_Store_Append (objC 0 stApF) := by
  refine objC_ok fun z rest v wrote z' hv => ?_
  unfold stApF at hv
  split at hv
  · rename_i b lv n o x
    obtain ⟨hc, hv2⟩ := Tr.br_no hv
    clear hv
    simp only [Bool.and_eq_true, decide_eq_true_eq] at hc
    obtain ⟨hc, hl⟩ := hc
    have h : body PR (cfE (P := PR) (A := A) [framedE]) cfgG (fun _ => none) n_page_Store_Append [.ptr 1 0 0, .slice (.int .u8) x .view] [[], [stOb b lv n o]] some =
      (bif o then some (.tuple [.int .i64 0, .int .i64 81], [], [[], [stOb b lv n o]])
      else bif decide ((x.length : Int) > 65536) then some (.tuple [.int .i64 0, .int .i64 80], [], [[], [stOb b lv n o]])
      else bif decide (x.length ≤ 65536) then
        bif decide (IntKind.i64.wrap ((b.length : Int) + ((frB x).length : Int)) > 65536) then some (.tuple [.int .i64 0, .int .i64 80], [], [[], [stOb b lv n o]])
        else bif decide ((b.length + (frB x).length) * 1 ≤ 140737488355328) then some (.tuple [.int .i64 b.length, .int .i64 0], [(1, 0)], [[], [stOb (b ++ frB x) .own n o]]) else none
      else none) := by
      rcases lvG_cases hc with rfl | rfl
      · kernel_rfl
      · kernel_rfl
    have h2 : body PR (cfE (P := PR) (A := A) [framedE]) cfgG (fun _ => none) n_page_Store_Append [.ptr 1 0 0, .slice (.int .u8) x .view] [[], [stOb b lv n o]] some =
        bif appOK b x o then some (.tuple [.int .i64 b.length, .int .i64 0], [(1, 0)], [[], [stOb (b ++ frB x) .own n o]]) else some (.tuple [.int .i64 0, .int .i64 (bif o then 81 else 80)], [], [[], [stOb b lv n o]]) := by
      rw [h]
      unfold appOK
      cases o with
      | true => rfl
      | false =>
        by_cases h1 : x.length ≤ 65536
        · have := frB_le h1
          rw [decide_eq_false (show ¬ (x.length : Int) > 65536 by omega), decide_eq_true h1, wrap_i64 (by omega) (by omega)]
          by_cases h3 : b.length + (frB x).length ≤ 65536
          · rw [decide_eq_true h3, decide_eq_false (show ¬ ((b.length : Int) + ((frB x).length : Int) > 65536) by omega), cond_false, cond_false, cond_true, cond_false, cond_eq (decide_eq_true (by omega))]; rfl
          · rw [decide_eq_false h3, decide_eq_true (show ((b.length : Int) + ((frB x).length : Int) > 65536) by omega)]; rfl
        · rw [decide_eq_true (show (x.length : Int) > 65536 by omega), decide_eq_false h1]; rfl
    rcases Tr.br_or hv2 with ⟨he, h4⟩ | ⟨he, h4⟩
    · cases h4
      rw [he] at h2
      refine ⟨rfl, rfl, rfl, rfl, by simp, fun ha _ => ?_⟩
      exact fun_call _ mixed (by kernel_rfl) (by kernel_rfl) (no_loops (by kernel_rfl)) h2
    · cases h4
      rw [he] at h2
      refine ⟨rfl, rfl, rfl, rfl, by simp, fun ha _ => ?_⟩
      exact fun_call _ mixed (by kernel_rfl) (by kernel_rfl) (no_loops (by kernel_rfl)) h2
  · cases hv
def stApE : Ent PR A := ⟨n_page_Store_Append, _, stAp_ok⟩
/-! ### Crash -/
def crN (b : List Int) (n k : Int) : Int := n + min (max k 0) ((b.length : Int) - n)
def crT (b : List Int) (n k : Int) : List Int := b.take (crN b n k).toNat
def crB (b : List Int) (n k : Int) : List Int := b.take (scanN (crT b n k)).toNat
def stCrF : Ob → List AV → Tr (AV × Bool × Ob)
  | .cells [.slice (.int .u8) b lv, .int .i64 n, .bool o], [.int .i64 k] => .br (lvG lv && (decide (b.length ≤ 1000000) && (decide (0 ≤ n) && decide (n ≤ (b.length : Int))))) (.yes (.tuple [], true, stOb (crB b n k) .full (scanN (crT b n k)) false)) .no
  | _, _ => .no
def crM (b : List Int) (n k : Int) : Int := IntKind.i64.wrap (n + (if IntKind.i64.wrap ((b.length : Int) - n) < (if 0 > k then 0 else k) then IntKind.i64.wrap ((b.length : Int) - n) else (if 0 > k then 0 else k)))
theorem crM_eq {b : List Int} {n k : Int} (hl : b.length ≤ 1000000) (h2 : 0 ≤ n) (h3 : n ≤ (b.length : Int)) : crM b n k = crN b n k := by
  unfold crM crN
  rw [wrap_i64 (n := (b.length : Int) - n) (by omega) (by omega), wrap_i64 (by omega) (by omega)]
  omega
theorem stCr_ok : Con PR A n_page_Store_Crash (objC 0 stCrF) := by
  refine objC_ok fun x rest v wrote x' hv => ?_
  unfold stCrF at hv
  split at hv
  · rename_i b lv n o k
    obtain ⟨hc, hv2⟩ := Tr.br_no hv
    cases hv2
    simp only [Bool.and_eq_true, decide_eq_true_eq] at hc
    obtain ⟨hc, h1, h2, h3⟩ := hc
    refine ⟨rfl, rfl, rfl, rfl, by simp, fun ha hh => ?_⟩
    have hb : isBytes b := by
      have := hh 1 0 _ rfl
      simp only [okAVs, okAV] at this
      exact this.1.2
    have h : body PR (cfE (P := PR) (A := A) [scanE]) cfgG (fun _ => none) n_page_Store_Crash [.ptr 1 0 0, .int .i64 k] [[], [stOb b lv n o]] some =
      (bif (decide (0 ≤ crM b n k) && decide (crM b n k ≤ (b.length : Int))) && decide (crM b n k = crM b n k) then
        bif decide (((b.take (crM b n k).toNat).drop 0).length ≤ 1000000) then
          bif (decide (0 ≤ scanN ((b.take (crM b n k).toNat).drop 0)) && decide (scanN ((b.take (crM b n k).toNat).drop 0) ≤ (b.length : Int))) && decide (scanN ((b.take (crM b n k).toNat).drop 0) = scanN ((b.take (crM b n k).toNat).drop 0)) then
            some (.tuple [], [(1, 0), (1, 0), (1, 0)], [[], [stOb ((b.take (scanN ((b.take (crM b n k).toNat).drop 0)).toNat).drop 0) .full (scanN ((b.take (crM b n k).toNat).drop 0)) false]])
          else none else none else none) := by
      rcases lvG_cases hc with rfl | rfl
      · kernel_rfl
      · kernel_rfl
    rw [crM_eq h1 h2 h3, List.drop_zero] at h
    have hn : 0 ≤ crN b n k ∧ crN b n k ≤ (b.length : Int) := by unfold crN; omega
    have hs := scanN_le (take_bytes hb (crN b n k).toNat)
    have hlt : (b.take (crN b n k).toNat).length ≤ b.length := by rw [List.length_take]; omega
    rw [cond_eq (by simp [hn.1, hn.2]), cond_eq (by simp only [decide_eq_true_eq]; omega), cond_eq (by simp only [Bool.and_eq_true, decide_eq_true_eq, and_true]; omega), List.drop_zero] at h
    exact SimCall.wr (fun_call _ mixed (by kernel_rfl) (by kernel_rfl) (no_loops (by kernel_rfl)) h) fun l i hm => memWr1 (by simp) hm
  · cases hv
def stCrE : Ent PR A := ⟨n_page_Store_Crash, _, stCr_ok⟩
/-! ### New -/
def cfgW : Cfg := cfgOf [] [n_slices_Clone_byte_byte] []
def nwB (b : List Int) : List Int := (b.take 65536).take (scanN (b.take 65536)).toNat
def stNwF : List AV → Tr Ob
  | [.slice (.int .u8) b .view] => .yes (stOb (nwB b) .own (scanN (b.take 65536)) false)
  | _ => .no
theorem stNw_ok : Con PR A n_page_New (newC stNwF) := by
  refine newC_ok fun args x hv ha l S => ?_
  unfold stNwF at hv
  split at hv
  · rename_i b
    cases hv
    simp only [okAVs, okAV] at ha
    have hb : isBytes b := ha.1.2
    have hlen : (b.length : Int) ≤ 9223372036854775807 := by have := ha.1.1; simp only [maxInt] at this; omega
    have h : body PR (cfE (P := PR) (A := A) [scanE, cloneE]) cfgW (fun _ => none) n_page_New [.slice (.int .u8) b .view] (l :: S) some =
      (bif decide (0 ≤ (if 65536 < (b.length : Int) then (65536 : Int) else (b.length : Int))) && decide ((if 65536 < (b.length : Int) then (65536 : Int) else (b.length : Int)) ≤ (b.length : Int)) then
        bif decide (((b.take (if 65536 < (b.length : Int) then (65536 : Int) else (b.length : Int)).toNat).drop 0).length ≤ 1000000) then
          bif (decide (0 ≤ scanN ((b.take (if 65536 < (b.length : Int) then (65536 : Int) else (b.length : Int)).toNat).drop 0)) && decide (scanN ((b.take (if 65536 < (b.length : Int) then (65536 : Int) else (b.length : Int)).toNat).drop 0) ≤ (((b.take (if 65536 < (b.length : Int) then (65536 : Int) else (b.length : Int)).toNat).drop 0).length : Int))) && decide (scanN ((b.take (if 65536 < (b.length : Int) then (65536 : Int) else (b.length : Int)).toNat).drop 0) = scanN ((b.take (if 65536 < (b.length : Int) then (65536 : Int) else (b.length : Int)).toNat).drop 0)) then
            bif decide ((((((b.take (if 65536 < (b.length : Int) then (65536 : Int) else (b.length : Int)).toNat).drop 0).take (scanN ((b.take (if 65536 < (b.length : Int) then (65536 : Int) else (b.length : Int)).toNat).drop 0)).toNat).drop 0)).length ≤ 140737488355328) then
              some (.ptr 0 (lenN l + 0) 0, [], app l [stOb ((((b.take (if 65536 < (b.length : Int) then (65536 : Int) else (b.length : Int)).toNat).drop 0).take (scanN ((b.take (if 65536 < (b.length : Int) then (65536 : Int) else (b.length : Int)).toNat).drop 0)).toNat).drop 0) .own (scanN ((b.take (if 65536 < (b.length : Int) then (65536 : Int) else (b.length : Int)).toNat).drop 0)) false] :: S)
            else none else none else none else none) := by kernel_rfl
    have e : b.take (if 65536 < (b.length : Int) then (65536 : Int) else (b.length : Int)).toNat = b.take 65536 := by
      by_cases h : 65536 < (b.length : Int)
      · rw [if_pos h]; rfl
      · rw [if_neg h, Int.toNat_natCast, List.take_of_length_le (Nat.le_refl _), List.take_of_length_le (by omega)]
    have hlt : (b.take 65536).length ≤ 65536 := by rw [List.length_take]; omega
    have hs := scanN_le (take_bytes hb 65536)
    rw [cond_eq (by simp only [Bool.and_eq_true, decide_eq_true_eq]; omega), e, List.drop_zero, cond_eq (by simp only [decide_eq_true_eq]; omega), cond_eq (by simp only [Bool.and_eq_true, decide_eq_true_eq, and_true]; omega), List.drop_zero, cond_eq (by simp only [List.length_take, decide_eq_true_eq]; omega)] at h
    exact fun_call _ mixed (by kernel_rfl) (by kernel_rfl) (no_loops (by kernel_rfl)) h
  · cases hv
def stNwE : Ent PR A := ⟨n_page_New, _, stNw_ok⟩
end Go.Crc

/- Stores whose bytes are always their own: crashes. Conditions: none. A text of this seat's numbers. -/
set_option linter.unusedVariables false
set_option linter.unusedSimpArgs false
set_option maxRecDepth 100000
namespace Go.Crc
open Go.Vm Go.Pack Go.Rec Go.RowKit
theorem head_keeps (z z' : Ob) (r : List Ob) (S : Stack) : ∀ l i, memWr l i [(0, 0)] = false → ObE (getH ((z' :: r) :: S) l i) (getH ((z :: r) :: S) l i) ∨ (l = 0 ∧ headLen ((z :: r) :: S) ≤ i)
  | 0, 0, h => by simp [memWr, (beq_iff _ _).2 rfl] at h
  | 0, i + 1, h => .inl (copyvs_refl_ObE _)
  | l + 1, i, h => .inl (copyvs_refl_ObE _)
theorem app_keeps (z : List Ob) (y : List Ob) (S : Stack) : ∀ l i, memWr l i [] = false → ObE (getH (app z y :: S) l i) (getH (z :: S) l i) ∨ (l = 0 ∧ headLen (z :: S) ≤ i)
  | l + 1, i, _ => .inl (copyvs_refl_ObE _)
  | 0, i, _ => by
    simp only [headLen, lenN_eq]
    rcases Nat.lt_or_ge i z.length with hi | hi
    · left
      simp only [getH, nth_eq, app_eq]
      rw [List.getElem?_append_left hi]
      exact copyvs_refl_ObE _
    · exact .inr ⟨trivial, hi⟩
def stCr2F : Ob → List AV → Tr (AV × Bool × Ob)
  | .cells [.slice (.int .u8) b .own, .int .i64 n, .bool o], [.int .i64 k] => .br (decide (b.length ≤ 1000000) && (decide (0 ≤ n) && decide (n ≤ (b.length : Int)))) (.yes (.tuple [], true, stOb (crB b n k) .own (scanN (crT b n k)) false)) .no
  | _, _ => .no
theorem stCr2_ok : Con PR A n_page_Store_Crash (objC 0 stCr2F) := by
  refine objC_ok fun x rest v wrote x' hv => ?_
  unfold stCr2F at hv
  split at hv
  · rename_i b n o k
    obtain ⟨hc, hv2⟩ := Tr.br_no hv
    cases hv2
    refine ⟨rfl, rfl, rfl, rfl, by simp, fun ha hh => ?_⟩
    obtain ⟨res, h1, h2, h3, _⟩ := stCr_ok [.ptr 1 0 0, .int .i64 k] [[], [stOb b .own n o]] some (.tuple [], [(1, 0)], [[], [stOb (crB b n k) .full (scanN (crT b n k)) false]]) (by
      have : objC 0 stCrF [.ptr 1 0 0, .int .i64 k] [[], [stOb b .own n o]] some = (bif decide (b.length ≤ 1000000) && (decide (0 ≤ n) && decide (n ≤ (b.length : Int))) then some (.tuple [], [(1, 0)], [[], [stOb (crB b n k) .full (scanN (crT b n k)) false]]) else none) := by kernel_rfl
      rw [this, hc]; rfl)
    cases h2
    have := SimCall.weak (l := 1) (i := 0) (cs' := [.slice (.int .u8) (crB b n k) .own, .int .i64 (scanN (crT b n k)), .bool false]) h3 rfl ⟨.sl _ _ _ _ rfl, .refl _, .refl _, trivial⟩
    exact this
  · cases hv
def stCr2E : Ent PR A := ⟨n_page_Store_Crash, _, stCr2_ok⟩
end Go.Crc

/- A store has frames, of which some first ones are safe: plain facts. Conditions: none. A text of this seat's numbers. -/
set_option linter.unusedVariables false
set_option linter.unusedSimpArgs false
set_option maxRecDepth 100000
namespace Go.Crc
open Go.Vm Go.Pack Go.Rec Go.RowKit
def dcN (l : List (List Int)) (y k : Int) : Nat := y.toNat + wholeF (l.drop y.toNat) k.toNat
theorem appOK_iff {b x : List Int} : appOK b x false = true ↔ x.length ≤ 65536 ∧ b.length + (frB x).length ≤ 65536 := by
  unfold appOK
  simp only [Bool.not_false, Bool.true_and, Bool.and_eq_true, decide_eq_true_eq]
theorem nwB_nil : nwB [] = [] := by simp [nwB]
theorem scanN_nil : scanN (([] : List Int).take 65536) = 0 := rfl
structure Inv (b : List Int) (n : Int) (l : List (List Int)) (y : Nat) : Prop where
  cat : b = catF l
  small : smallF l
  len : b.length ≤ 65536
  le : y ≤ l.length
  syn : n = ((catF (l.take y)).length : Int)
theorem cat_split (l : List (List Int)) (y : Nat) : catF l = catF (l.take y) ++ catF (l.drop y) := by rw [← catF_app, List.take_append_drop]
theorem cat_le (l : List (List Int)) (y : Nat) : (catF (l.take y)).length ≤ (catF l).length := by
  have := congrArg List.length (cat_split l y)
  rw [List.length_append] at this
  omega
theorem Inv.bounds {b : List Int} {n : Int} {l : List (List Int)} {y : Nat} (h : Inv b n l y) : b.length ≤ 1000000 ∧ 0 ≤ n ∧ n ≤ (b.length : Int) := by
  have h1 := h.len
  have h2 := cat_le l y
  have h3 := h.syn
  have h4 := congrArg List.length h.cat
  exact ⟨by omega, by omega, by omega⟩
theorem Inv.take {b : List Int} {n : Int} {l : List (List Int)} {y : Nat} (h : Inv b n l y) : b.take n.toNat = catF (l.take y) := by
  rw [h.syn, Int.toNat_natCast]
  exact take_pre (h.cat.trans (cat_split l y))
theorem nw_cat {l : List (List Int)} (hs : smallF l) (hl : (catF l).length ≤ 65536) : nwB (catF l) = catF l ∧ scanN ((catF l).take 65536) = ((catF l).length : Int) := by
  have e : (catF l).take 65536 = catF l := List.take_of_length_le hl
  have e2 : scanN (catF l) = ((catF l).length : Int) := by unfold scanN; rw [scan_cat hs]
  unfold nwB
  rw [e, e2, Int.toNat_natCast, List.take_of_length_le (Nat.le_refl _)]
  exact ⟨rfl, rfl⟩
theorem Inv.anew {b : List Int} {n : Int} {l : List (List Int)} {y : Nat} (h : Inv b n l y) : Inv (nwB (b.take n.toNat)) (scanN ((b.take n.toNat).take 65536)) (l.take y) y := by
  rw [h.take]
  have hs : smallF (l.take y) := fun x hx => h.small x (List.mem_of_mem_take hx)
  have hl : (catF (l.take y)).length ≤ 65536 := by have := cat_le l y; have := h.len; rw [h.cat] at this; omega
  obtain ⟨e1, e2⟩ := nw_cat hs hl
  rw [e1, e2]
  have hly : (l.take y).length = y := by rw [List.length_take]; have := h.le; omega
  exact ⟨rfl, hs, hl, by omega, by rw [List.take_take, Nat.min_self]⟩
theorem crash_l {l : List (List Int)} (hs : smallF l) {y : Nat} (hy : y ≤ l.length) (k : Int) : scanL (crT (catF l) ((catF (l.take y)).length : Int) k) = l.take (y + wholeF (l.drop y) k.toNat) := by
  have hsa : smallF (l.take y) := fun x hx => hs x (List.mem_of_mem_take hx)
  have hsb : smallF (l.drop y) := fun x hx => hs x (List.mem_of_mem_drop hx)
  have ht : crT (catF l) ((catF (l.take y)).length : Int) k = catF (l.take y) ++ (catF (l.drop y)).take k.toNat := by
    unfold crT crN
    have hlen : (catF l).length = (catF (l.take y)).length + (catF (l.drop y)).length := by rw [cat_split l y, List.length_append]
    have e : (((catF (l.take y)).length : Int) + min (max k 0) (((catF l).length : Int) - ((catF (l.take y)).length : Int))).toNat = (catF (l.take y)).length + min k.toNat (catF (l.drop y)).length := by omega
    rw [e]
    conv => lhs; rw [cat_split l y]
    rw [List.take_length_add_append]
    congr 1
    rcases Nat.le_total k.toNat (catF (l.drop y)).length with h | h
    · rw [Nat.min_eq_left h]
    · rw [Nat.min_eq_right h, List.take_of_length_le (Nat.le_refl _), List.take_of_length_le h]
  rw [ht, scan_app hsa (take_bytes (catF_bytes hsb) _), scan_whole _ _ hsb, List.take_add]
theorem Inv.crash {b : List Int} {n : Int} {l : List (List Int)} {y : Nat} (h : Inv b n l y) (k : Int) : Inv (crB b n k) (scanN (crT b n k)) (l.take (dcN l (y : Int) k)) (dcN l (y : Int) k) := by
  have hN : dcN l (y : Int) k = y + wholeF (l.drop y) k.toNat := by unfold dcN; rw [Int.toNat_natCast]
  have hw := wholeF_le (l.drop y) k.toNat
  rw [List.length_drop] at hw
  have hle := h.le
  have hc := h.cat
  have hn := h.syn
  subst hc hn
  have e := crash_l h.small h.le k
  unfold crB scanN
  rw [e, ← hN, Int.toNat_natCast, take_pre (cat_split l (dcN l (y : Int) k))]
  have hln : (l.take (dcN l (y : Int) k)).length = dcN l (y : Int) k := by rw [List.length_take]; omega
  refine ⟨rfl, fun x hx => h.small x (List.mem_of_mem_take hx), ?_, by omega, by rw [List.take_take, Nat.min_self]⟩
  have := cat_le l (dcN l (y : Int) k)
  have := h.len
  omega
theorem Inv.app {b : List Int} {n : Int} {l : List (List Int)} {y : Nat} (h : Inv b n l y) {x : List Int} {o : Bool} (hx : isBytes x) (ha : appOK b x o = true) : Inv (b ++ frB x) n (l ++ [x]) y := by
  unfold appOK at ha
  simp only [Bool.and_eq_true, decide_eq_true_eq] at ha
  refine ⟨by rw [catF_app, h.cat]; simp [catF], fun z hz => ?_, by rw [List.length_append]; exact ha.2.2, by have := h.le; rw [List.length_append]; omega, by rw [List.take_append_of_le_length h.le]; exact h.syn⟩
  rcases List.mem_append.1 hz with hz | hz
  · exact h.small z hz
  · rw [List.mem_singleton.1 hz]; exact ⟨ha.2.1, hx⟩
theorem Inv.sync {b : List Int} {n : Int} {l : List (List Int)} {y : Nat} (h : Inv b n l y) : Inv b (b.length : Int) l l.length :=
  ⟨h.cat, h.small, h.len, Nat.le_refl _, by rw [List.take_of_length_le (Nat.le_refl _), ← h.cat]⟩
theorem Inv.new {b : List Int} (hb : isBytes b) : Inv (nwB b) (scanN (b.take 65536)) (scanL (b.take 65536)) (scanL (b.take 65536)).length := by
  have hbt := take_bytes hb 65536
  have hn : nwB b = catF (scanL (b.take 65536)) := by unfold nwB; exact scan_take hbt
  have hlt : (b.take 65536).length ≤ 65536 := by rw [List.length_take]; omega
  have hN := scanN_le hbt
  refine ⟨hn, scan_small _ _ (Nat.le_refl _) hbt, ?_, Nat.le_refl _, by rw [List.take_of_length_le (Nat.le_refl _)]; rfl⟩
  rw [hn]
  unfold scanN at hN
  omega
theorem Inv.frames {b : List Int} {n : Int} {l : List (List Int)} {y : Nat} (h : Inv b n l y) : scanL b = l := by rw [h.cat]; exact scan_cat h.small
theorem Inv.syncedAll {b : List Int} {n : Int} {l : List (List Int)} {y : Nat} (h : Inv b n l y) (hn : n = (b.length : Int)) : y = l.length := by
  have h1 := h.syn
  have h2 := h.cat
  have h3 := cat_split l y
  have h4 := congrArg List.length h3
  rw [List.length_append] at h4
  have h5 := congrArg List.length h2
  have hd : (catF (l.drop y)).length = 0 := by omega
  have h6 : l.drop y = [] := by
    cases hl : l.drop y with
    | nil => rfl
    | cons x r =>
      rw [hl] at hd
      simp only [catF, List.length_append] at hd
      have := frB_ge x
      omega
  have := h.le
  have h7 := congrArg List.length h6
  rw [List.length_drop] at h7
  simp at h7
  omega
end Go.Crc
