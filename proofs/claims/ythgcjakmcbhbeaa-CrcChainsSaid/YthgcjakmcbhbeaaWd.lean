/- Contracts of functions of this program. Conditions: none. -/
import Derived.Test.YthgcjakmcbhbeaaWc
/- The laws of crc with loops. Conditions: none. A text of this seat's numbers. -/
set_option linter.unusedVariables false
set_option linter.unusedSimpArgs false
namespace Go.Crc
open Go.Vm
theorem outer_rep00 : ∀ (n : Nat) (x : Wr), outer (app (repApp n [(0, 0)]) x) = outer x
  | 0, _ => rfl
  | n + 1, x => outer_rep00 n x
theorem rep_app : ∀ (n m : Nat) (x : Nat × Nat) (wr : Wr), app (repApp n [x]) (app (repApp m [x]) wr) = app (repApp (m + n) [x]) wr
  | 0, _, _, _ => rfl
  | n + 1, m, x, wr => by
    show x :: app (repApp n [x]) (app (repApp m [x]) wr) = x :: app (repApp (m + n) [x]) wr
    rw [rep_app n m x wr]

/-! ### CrcCounts -/
def longB (m : Int) (b : List Int) : Bool := decide ((b.length : Int) > m)
def anyLong (m : Int) : List (List Int) → Bool
  | [] => false
  | b :: r => bif longB m b then true else anyLong m r
def addC (c : Int) (b : List Int) : Int := cutC b (IntKind.i64.wrap (IntKind.i64.wrap (IntKind.i64.wrap (c + 1) + 1) + 1))
def cnts : Int → List (List Int) → Int
  | c, [] => c
  | c, b :: r => bif longB 20000 b then c else cnts (addC c b) r
def rnds (m : Int) : List (List Int) → Nat
  | [] => 0
  | b :: r => bif longB m b then 0 else rnds m r + 1
def lfCo : Nat → Option LoopSum := lfOf [(250, loopT [3, 4, 20, 21, 22] [2] fun vs H => match vs, H with
  | [.ptr l i o, .int .i64 n, .slice (.slice (.int .u8)) ps .view, .int .i64 ln, .int .i64 j], [[.abs 0 [c]]] => .br ((Nat.beq l 0 && Nat.beq i 0) && (Nat.beq o 0 && (decide (j = 0) && (decide (n = 0) && decide (c = 0)))))
      (.br (decide (ln = ps.length) && decide (ps.length ≤ 100)) (.br (anyLong 20000 ps)
        (.yes (.ret, [.bool true], [[.abs 0 [cnts 0 ps]]], repApp (4 * rnds 20000 ps) [(0, 0)]))
        (.yes (.exit 0, [.undef], [[.abs 0 [cnts 0 ps]]], repApp (4 * rnds 20000 ps) [(0, 0)]))) .no) .no
  | _, _ => .no)]
noncomputable abbrev LCo (N : Nat) := LC PR (cfE E1) cfgL lfCo n_law_CrcCounts 0 250 [3, 4, 20, 21, 22] [2] N
theorem counts_round (c n ln i : Int) (l : List (List Int)) (wr : Wr) (N : Nat) (k : Ex → List AV → Stack → Wr → Option Res) :
    LCo (N + 1) [.ptr 0 0 0, .int .i64 n, .slice (.slice (.int .u8)) l .view, .int .i64 ln, .int .i64 i] [[.abs 0 [c]]] wr k =
      (bif decide (i < ln) then (at? l i).bind fun b =>
        bif longB 20000 b then k .ret [.bool true] [[.abs 0 [c]]] wr
        else bif decide (b.length + 4 ≤ 140737488355328) then bif decide (b.length ≤ 140737488355328) then
          bif decide ((b.length : Int) ≥ 4) then
            bif addC c b != IntKind.i64.wrap (IntKind.i64.wrap (n + 3) + 1) then k .ret [.bool false] [[.abs 0 [addC c b]]] ((0, 0) :: (0, 0) :: (0, 0) :: (0, 0) :: wr)
            else LCo N [.ptr 0 0 0, .int .i64 (IntKind.i64.wrap (IntKind.i64.wrap (n + 3) + 1)), .slice (.slice (.int .u8)) l .view, .int .i64 ln, .int .i64 (IntKind.i64.wrap (i + 1))] [[.abs 0 [addC c b]]] ((0, 0) :: (0, 0) :: (0, 0) :: (0, 0) :: wr) k
          else bif addC c b != IntKind.i64.wrap (n + 3) then k .ret [.bool false] [[.abs 0 [addC c b]]] ((0, 0) :: (0, 0) :: (0, 0) :: (0, 0) :: wr)
            else LCo N [.ptr 0 0 0, .int .i64 (IntKind.i64.wrap (n + 3)), .slice (.slice (.int .u8)) l .view, .int .i64 ln, .int .i64 (IntKind.i64.wrap (i + 1))] [[.abs 0 [addC c b]]] ((0, 0) :: (0, 0) :: (0, 0) :: (0, 0) :: wr) k
        else none else none
      else k (.exit 0) [.undef] [[.abs 0 [c]]] wr) := by kernel_rfl
theorem addC_eq {c : Int} {b : List Int} (h0 : 0 ≤ c) (h1 : c ≤ 1000) : addC c b = bif decide ((b.length : Int) ≥ 4) then c + 4 else c + 3 := by
  unfold addC cutC
  rw [wrap_i64 (n := c + 1) (by omega) (by omega), wrap_i64 (n := c + 1 + 1) (by omega) (by omega), wrap_i64 (n := c + 1 + 1 + 1) (by omega) (by omega), wrap_i64 (n := c + 1 + 1 + 1 + 1) (by omega) (by omega)]
  by_cases h : b.length < 4
  · rw [cond_eq (by simpa using h), cond_ne (by simp <;> omega)]; omega
  · rw [cond_ne (by simpa using h), cond_eq (by simp <;> omega)]; omega
theorem counts_loop (l : List (List Int)) (hl : l.length ≤ 100) (k : Ex → List AV → Stack → Wr → Option Res) : ∀ (q j : Nat) (c : Int) (wr : Wr), j + q = l.length → 0 ≤ c → c ≤ 4 * j →
    LCo (q + 1) [.ptr 0 0 0, .int .i64 c, .slice (.slice (.int .u8)) l .view, .int .i64 (l.length : Int), .int .i64 (j : Int)] [[.abs 0 [c]]] wr k =
      (bif anyLong 20000 (l.drop j) then k .ret [.bool true] [[.abs 0 [cnts c (l.drop j)]]] (app (repApp (4 * rnds 20000 (l.drop j)) [(0, 0)]) wr)
      else k (.exit 0) [.undef] [[.abs 0 [cnts c (l.drop j)]]] (app (repApp (4 * rnds 20000 (l.drop j)) [(0, 0)]) wr))
  | 0, j, c, wr, hj, h0, h1 => by
    rw [counts_round, cond_ne (by simp <;> omega), List.drop_of_length_le (by omega)]
    rfl
  | q + 1, j, c, wr, hj, h0, h1 => by
    obtain ⟨b, hx⟩ : ∃ x, l[j]? = some x := ⟨_, List.getElem?_eq_getElem (by omega)⟩
    rw [counts_round, cond_eq (by simp <;> omega), at_some hx, Option.bind_some, drop_cons hx]
    cases hb : longB 20000 b with
    | true => simp only [anyLong, cnts, rnds, hb, cond_true]; rfl
    | false =>
      have hb2 : ¬ ((b.length : Int) > 20000) := by simpa [longB] using hb
      have hw : ∀ m : Nat, app (repApp (4 * (m + 1)) [(0, 0)]) wr = app (repApp (4 * m) [(0, 0)]) ((0, 0) :: (0, 0) :: (0, 0) :: (0, 0) :: wr) := fun m => by
        have := rep_app (4 * m) 4 (0, 0) wr
        rw [show 4 * (m + 1) = 4 + 4 * m by omega]
        exact this.symm
      have ha := addC_eq (b := b) h0 (show c ≤ 1000 by omega)
      simp only [anyLong, cnts, rnds, hb, cond_false]
      rw [cond_eq (by simp <;> omega), cond_eq (by simp <;> omega), hw, wrap_i64 (n := c + 3) (by omega) (by omega), wrap_i64 (n := c + 3 + 1) (by omega) (by omega), wrap_succ (n := l.length) (by omega) (by simp only [maxInt]; omega)]
      by_cases h4 : (b.length : Int) ≥ 4
      · rw [decide_eq_true h4, cond_true] at ha
        rw [decide_eq_true h4, cond_true, ha, cond_ne (by simp <;> omega), show c + 3 + 1 = c + 4 by omega, counts_loop l hl k q (j + 1) (c + 4) _ (by omega) (by omega) (by omega)]
      · rw [decide_eq_false h4, cond_false] at ha
        rw [decide_eq_false h4, cond_false, ha, cond_ne (by simp), counts_loop l hl k q (j + 1) (c + 3) _ (by omega) (by omega) (by omega)]
theorem counts_loops : ∀ x ∈ funLoops PR n_law_CrcCounts, ∀ L, lfCo x.1 = some L → LoopOK (ntm PR n_law_CrcCounts) (fun fr H wr k => code PR (cfE E1) cfgL lfCo (cfgL.live n_law_CrcCounts) x.2 (2 * x.1) fr H wr k) L := by
  refine one_loop (p := 250) rfl (by kernel_rfl) (loopT_ok (by decide) fun vs H wr ex vs' H' w hv ha hh => ?_)
  split at hv
  · rename_i l i o n ps ln j c
    obtain ⟨hc, hv2⟩ := Tr.br_no hv
    clear hv
    simp only [Bool.and_eq_true, beq_iff, decide_eq_true_eq] at hc
    obtain ⟨⟨rfl, rfl⟩, rfl, rfl, rfl, rfl⟩ := hc
    obtain ⟨hln, hv3⟩ := Tr.br_no hv2
    simp only [Bool.and_eq_true, decide_eq_true_eq] at hln
    obtain ⟨rfl, hl⟩ := hln
    refine ⟨ps.length + 1, fun k => ?_⟩
    have := counts_loop ps hl k ps.length 0 0 wr (by omega) (by omega) (by omega)
    rw [List.drop_zero] at this
    rcases Tr.br_or hv3 with ⟨he, h4⟩ | ⟨he, h4⟩
    · cases h4; rw [he] at this; exact this
    · cases h4; rw [he] at this; exact this
  · cases hv
theorem counts_eq (l : List (List Int)) : body PR (cfE E1) cfgL lfCo n_law_CrcCounts [.slice (.slice (.int .u8)) l .view] [] some = some (.bool true, [], []) := by
  have h : body PR (cfE E1) cfgL lfCo n_law_CrcCounts [.slice (.slice (.int .u8)) l .view] [] some =
    (bif decide ((l.length : Int) > 100) then some (.bool true, [], [])
    else bif decide ((l.length : Int) = (l.length : Int)) && decide (l.length ≤ 100) then
      bif anyLong 20000 l then some (.bool true, outer (app (repApp (4 * rnds 20000 l) [(0, 0)]) []), [])
      else some (.bool true, outer (app (repApp (4 * rnds 20000 l) [(0, 0)]) []), [])
    else none) := by kernel_rfl
  rw [h, outer_rep00]
  by_cases hl : (l.length : Int) > 100
  · simp [hl]
  · simp [hl, show l.length ≤ 100 by omega, outer]

/-! ### CrcChains -/
def mores : Int → List (List Int) → Int
  | n, [] => n
  | n, b :: r => bif longB 5000 b then n else mores (crcMore n b) r
def ones : Int → List (List Int) → Int
  | c, [] => c
  | c, b :: r => bif longB 5000 b then c else ones (IntKind.i64.wrap (c + 1)) r
def lfCh : Nat → Option LoopSum := lfOf [(250, loopT [0, 3, 4, 22, 23, 24] [0, 2, 3, 4] fun vs H => match vs, H with
  | [.slice (.slice (.int .u8)) l0 .view, .ptr l i o, .int .u32 n, .slice (.slice (.int .u8)) ps .view, .int .i64 ln, .int .i64 j], [[.abs 0 [c]]] => .br ((Nat.beq l 0 && Nat.beq i 0) && (Nat.beq o 0 && decide (j = 0)))
      (.br (decide (ln = ps.length)) (.br (anyLong 5000 ps)
        (.yes (.ret, [.slice (.slice (.int .u8)) l0 .view, .bool true, .ptr 0 0 0, .int .u32 (mores n ps)], [[.abs 0 [ones c ps]]], repApp (rnds 5000 ps) [(0, 0)]))
        (.yes (.exit 0, [.slice (.slice (.int .u8)) l0 .view, .undef, .ptr 0 0 0, .int .u32 (mores n ps)], [[.abs 0 [ones c ps]]], repApp (rnds 5000 ps) [(0, 0)]))) .no) .no
  | _, _ => .no)]
noncomputable abbrev LCh (N : Nat) := LC PR (cfE E1) cfgL lfCh n_law_CrcChains 0 250 [0, 3, 4, 22, 23, 24] [0, 2, 3, 4] N
theorem chains_round (c n ln i : Int) (l0 l : List (List Int)) (wr : Wr) (N : Nat) (k : Ex → List AV → Stack → Wr → Option Res) :
    LCh (N + 1) [.slice (.slice (.int .u8)) l0 .view, .ptr 0 0 0, .int .u32 n, .slice (.slice (.int .u8)) l .view, .int .i64 ln, .int .i64 i] [[.abs 0 [c]]] wr k =
      (bif decide (i < ln) then (at? l i).bind fun b =>
        bif longB 5000 b then k .ret [.slice (.slice (.int .u8)) l0 .view, .bool true, .ptr 0 0 0, .int .u32 n] [[.abs 0 [c]]] wr
        else LCh N [.slice (.slice (.int .u8)) l0 .view, .ptr 0 0 0, .int .u32 (crcMore n b), .slice (.slice (.int .u8)) l .view, .int .i64 ln, .int .i64 (IntKind.i64.wrap (i + 1))] [[.abs 0 [IntKind.i64.wrap (c + 1)]]] ((0, 0) :: wr) k
      else k (.exit 0) [.slice (.slice (.int .u8)) l0 .view, .undef, .ptr 0 0 0, .int .u32 n] [[.abs 0 [c]]] wr) := by kernel_rfl
theorem chains_loop (l0 l : List (List Int)) (hl : l.length ≤ maxInt) (k : Ex → List AV → Stack → Wr → Option Res) : ∀ (q j : Nat) (n c : Int) (wr : Wr), j + q = l.length →
    LCh (q + 1) [.slice (.slice (.int .u8)) l0 .view, .ptr 0 0 0, .int .u32 n, .slice (.slice (.int .u8)) l .view, .int .i64 (l.length : Int), .int .i64 (j : Int)] [[.abs 0 [c]]] wr k =
      (bif anyLong 5000 (l.drop j) then k .ret [.slice (.slice (.int .u8)) l0 .view, .bool true, .ptr 0 0 0, .int .u32 (mores n (l.drop j))] [[.abs 0 [ones c (l.drop j)]]] (app (repApp (rnds 5000 (l.drop j)) [(0, 0)]) wr)
      else k (.exit 0) [.slice (.slice (.int .u8)) l0 .view, .undef, .ptr 0 0 0, .int .u32 (mores n (l.drop j))] [[.abs 0 [ones c (l.drop j)]]] (app (repApp (rnds 5000 (l.drop j)) [(0, 0)]) wr))
  | 0, j, n, c, wr, hj => by
    rw [chains_round, cond_ne (by simp <;> omega), List.drop_of_length_le (by omega)]
    rfl
  | q + 1, j, n, c, wr, hj => by
    obtain ⟨b, hx⟩ : ∃ x, l[j]? = some x := ⟨_, List.getElem?_eq_getElem (by omega)⟩
    rw [chains_round, cond_eq (by simp <;> omega), at_some hx, Option.bind_some, drop_cons hx]
    cases hb : longB 5000 b with
    | true => simp only [anyLong, mores, ones, rnds, hb, cond_true]; rfl
    | false =>
      simp only [anyLong, mores, ones, rnds, hb, cond_false]
      rw [wrap_succ (n := l.length) (by omega) hl, chains_loop l0 l hl k q (j + 1) _ _ _ (by omega)]
      have hw : ∀ m : Nat, app (repApp (m + 1) [(0, 0)]) wr = app (repApp m [(0, 0)]) ((0, 0) :: wr) := fun m => by
        have := rep_app m 1 (0, 0) wr
        rw [show m + 1 = 1 + m by omega]
        exact this.symm
      rw [hw]
theorem chains_loops : ∀ x ∈ funLoops PR n_law_CrcChains, ∀ L, lfCh x.1 = some L → LoopOK (ntm PR n_law_CrcChains) (fun fr H wr k => code PR (cfE E1) cfgL lfCh (cfgL.live n_law_CrcChains) x.2 (2 * x.1) fr H wr k) L := by
  refine one_loop (p := 250) rfl (by kernel_rfl) (loopT_ok (by decide) fun vs H wr ex vs' H' w hv ha hh => ?_)
  split at hv
  · rename_i l0 l i o n ps ln j c
    obtain ⟨hc, hv2⟩ := Tr.br_no hv
    clear hv
    simp only [Bool.and_eq_true, beq_iff, decide_eq_true_eq] at hc
    obtain ⟨⟨rfl, rfl⟩, rfl, rfl⟩ := hc
    obtain ⟨hln, hv3⟩ := Tr.br_no hv2
    simp only [decide_eq_true_eq] at hln
    subst hln
    simp only [okAVs, okAV] at ha
    refine ⟨ps.length + 1, fun k => ?_⟩
    have := chains_loop l0 ps ha.2.2.2.1.1 k ps.length 0 n c wr (by omega)
    rw [List.drop_zero] at this
    rcases Tr.br_or hv3 with ⟨he, h4⟩ | ⟨he, h4⟩
    · cases h4; rw [he] at this; exact this
    · cases h4; rw [he] at this; exact this
  · cases hv
theorem mores_eq : ∀ (l : List (List Int)) (s : Int), anyLong 5000 l = false → (∀ b ∈ l, isBytes b) → 0 ≤ s ∧ s ≤ 4294967295 → mores s l = crcMore s l.flatten
  | [], s, _, _, hs => by
    unfold mores crcMore crcMoreN
    rw [List.flatten_nil, crcFold_nil]
    simp only [Int.ofNat_eq_natCast]
    omega
  | b :: r, s, h, hb, hs => by
    simp only [anyLong] at h
    cases hl : longB 5000 b with
    | true => rw [hl] at h; cases h
    | false =>
      rw [hl, cond_false] at h
      simp only [mores, hl, cond_false]
      rw [mores_eq r _ h (fun x hx => hb x (by simp [hx])) (crcMore_range s b), List.flatten_cons, crcMore_app s b r.flatten hs (hb b (by simp))]
theorem chains_eq (l : List (List Int)) (hb : ∀ b ∈ l, isBytes b) : body PR (cfE E1) cfgL lfCh n_law_CrcChains [.slice (.slice (.int .u8)) l .view] [] some = some (.bool true, [], []) := by
  have h : body PR (cfE E1) cfgL lfCh n_law_CrcChains [.slice (.slice (.int .u8)) l .view] [] some =
    (bif decide ((l.length : Int) > 50) then some (.bool true, [], [])
    else bif decide ((l.length : Int) = (l.length : Int)) then
      bif anyLong 5000 l then some (.bool true, outer (app (repApp (rnds 5000 l) [(0, 0)]) [(0, 0)]), [])
      else some (.bool (mores (crcSum []) l == crcSum l.flatten), outer (app [(0, 0)] (app (repApp (rnds 5000 l) [(0, 0)]) [(0, 0)])), [])
    else none) := by kernel_rfl
  have ho : outer (app [(0, 0)] (app (repApp (rnds 5000 l) [(0, 0)]) [(0, 0)])) = outer (app (repApp (rnds 5000 l) [(0, 0)]) [(0, 0)]) := rfl
  rw [h, ho, outer_rep00]
  by_cases hl : (l.length : Int) > 50
  · simp [hl]
  · rw [cond_ne (by simpa using hl), cond_eq (by simp)]
    cases ha : anyLong 5000 l with
    | true => rfl
    | false =>
      have : mores (crcSum []) l = crcSum l.flatten := by
        have h0 : crcSum [] = 0 := by kernel_rfl
        rw [h0, mores_eq l 0 ha hb (by omega)]
        rfl
      rw [this]
      simp [outer]
end Go.Crc
namespace Go.Crc
open Go.Vm
theorem sz_rows {l : List (List Int)} (h : Sz (.slice (.slice (.int .u8))) l) : ∀ b ∈ l, isBytes b := fun b hb => sz_bytes (h.2 b hb)
end Go.Crc
