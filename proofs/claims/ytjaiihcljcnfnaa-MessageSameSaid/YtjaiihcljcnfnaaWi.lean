/- Contracts of functions of this program. Conditions: none. -/
import Derived.Test.YtjaiihcljcnfnaaWh
import Derived.Test.YtjaiihcljcnfnaaWf
set_option linter.unusedVariables false
set_option linter.unusedSimpArgs false
/- Configurations as the document says: which may be, written, read, the same. Conditions: none. A text of this seat's numbers. -/
set_option linter.unusedVariables false
set_option linter.unusedSimpArgs false
set_option maxRecDepth 100000
namespace Go.Crc
open Go.Vm Go.Pack Go.Rec
/-! ### Has -/
def lfHr : Nat → Option LoopSum := lfOf [(26, loopT [0, 1, 5] [4] fun vs H => match vs, H with
  | [.slice (.int .i64) a .view, .int .i64 n, .int .i64 i], [] :: S => .br (decide (i = 0)) (.br (inB6 a n) (.yes (.ret, [.bool true], [] :: S, [])) (.yes (.exit 0, [.undef], [] :: S, []))) .no
  | _, _ => .no)]
def hrF : List AV → Tr AV
  | [.slice (.int .i64) a .view, .int .i64 n] => .yes (.bool (inB6 a n))
  | _ => .no
/-! ### unlike -/
def lfUx : Nat → Option LoopSum := lfOf [(26, loopT [0, 3] [2] fun vs H => match vs, H with
  | [.slice (.int .i64) a .view, .int .i64 i], [] :: S => .br (decide (i = 0)) (.br (unlX [] a) (.yes (.exit 0, [.undef], [] :: S, [])) (.yes (.ret, [.bool false], [] :: S, []))) .no
  | _, _ => .no)]
/-! ### Right -/
def lfT6 : Nat → Option LoopSum := lfOf [(58, loopT [1, 3] [1, 2] fun vs H => match vs, H with
  | [.ptr 0 0 0, .int .i64 i], [.cells [.int .i64 t, .slice (.int .i64) s .view, .slice (.slice (.int .i64)) sh .view]] :: S => .br (decide (i = 0)) (.br (sh.any badRow) (.yes (.ret, [.ptr 0 0 0, .bool false], [.cells [.int .i64 t, .slice (.int .i64) s .view, .slice (.slice (.int .i64)) sh .view]] :: S, [])) (.yes (.exit 0, [.ptr 0 0 0, .undef], [.cells [.int .i64 t, .slice (.int .i64) s .view, .slice (.slice (.int .i64)) sh .view]] :: S, []))) .no
  | _, _ => .no)]
theorem bind_thrice {α : Type} (o : Option α) (a b c : α → Bool) (R G : Option Res) :
    (o.bind fun x => bif a x then R else o.bind fun x => bif b x then R else o.bind fun x => bif c x then R else G) = o.bind fun x => bif a x || (b x || c x) then R else G := by
  cases o with
  | none => rfl
  | some x =>
    show (bif a x then R else bif b x then R else bif c x then R else G) = bif a x || (b x || c x) then R else G
    cases a x <;> cases b x <;> rfl
theorem len_odd (s : List Int) : (((s.length : Int) == 1) || (((s.length : Int) == 3) || (((s.length : Int) == 5) || ((s.length : Int) == 7)))) = !((s.length : Int).tmod 2 == 0 || decide ((s.length : Int) > 7)) := by
  have hm : (s.length : Int).tmod 2 = ((s.length % 2 : Nat) : Int) := by
    rw [Int.tmod_eq_emod_of_nonneg (by omega)]; omega
  rw [hm, Bool.eq_iff_iff]
  simp only [Bool.or_eq_true, beq_iff_eq, Bool.not_eq_true', Bool.or_eq_false_iff, beq_eq_false_iff_ne, ne_eq, decide_eq_false_iff_not]
  omega
/-! ### Written -/
def lfRw : Nat → Option LoopSum := lfOf [(58, loopT [0, 3, 4] [3] fun vs H => match vs, H with
  | [.slice (.int .i64) a .view, .str o, .int .i64 i], [] :: S => .br (decide (i = 0) && decide (o.length + 9 * a.length ≤ 140737488355328)) (.yes (.exit 0, [.str (o ++ (a.map numS).flatten)], [] :: S, [])) .no
  | _, _ => .no)]
def rwF : List AV → Tr AV
  | [.slice (.int .i64) a .view] => .br (decide (a.length ≤ 1000)) (.yes (.str (rowS a))) .no
  | _ => .no
def lfTo6 : Nat → Option LoopSum := lfOf [(122, loopT [1, 4, 5] [4] fun vs H => match vs, H with
  | [.ptr 0 0 0, .str o, .int .i64 i], [.cells [.int .i64 t, .slice (.int .i64) s .view, .slice (.slice (.int .i64)) sh .view]] :: S => .br (decide (i = 0) && (decide (sh.length ≤ 8) && (decide (o.length ≤ 1000) && !(sh.any badRow)))) (.yes (.exit 0, [.str (o ++ rowsS sh)], [.cells [.int .i64 t, .slice (.int .i64) s .view, .slice (.slice (.int .i64)) sh .view]] :: S, [])) .no
  | _, _ => .no)]
def toStep6 (i : Int) (x : List Int) (o : List Int) (k : List Int → Option Res) : Option Res :=
  bif decide (x.length ≤ 1000) then bif decide (o.length + (rowS x).length ≤ 9223372036854775807) then k (o ++ rowS x) else none else none
theorem to6_fold (E : List Int → Option Res) : ∀ (sh : List (List Int)) (j : Nat) (o : List Int), (∀ x ∈ sh, badRow x = false) → o.length + 36 * sh.length ≤ 100000 → foldK toStep6 E j sh o = E (o ++ rowsS sh)
  | [], j, o, _, _ => by simp only [foldK, rowsS, List.append_nil]
  | x :: r, j, o, hb, hl => by
    obtain ⟨h1, h2, h3⟩ := badRow_iff.1 (hb x (by simp))
    have k2 := rowS_len x
    simp only [List.length_cons] at hl
    rw [show foldK toStep6 E j (x :: r) o = (bif decide (x.length ≤ 1000) then bif decide (o.length + (rowS x).length ≤ 9223372036854775807) then foldK toStep6 E (j + 1) r (o ++ rowS x) else none else none) from rfl,
      cond_eq (decide_eq_true (by omega)), cond_eq (decide_eq_true (by omega)), to6_fold E r (j + 1) _ (fun y hy => hb y (by simp [hy])) (by rw [List.length_append]; omega), rowsS, List.append_assoc]
theorem rowS_ok {l : List Int} (h : unl l = true) (hl : l.length ≤ 1000) : rowS l = rowT l := by
  unfold rowS rowT
  rw [okAll_numS l (unl_all h), numS_ok ⟨by omega, by omega⟩]
theorem rowsS_ok : ∀ {sh : List (List Int)}, (∀ x ∈ sh, badRow x = false) → rowsS sh = rowsT sh
  | [], _ => rfl
  | x :: r, h => by
    obtain ⟨h1, h2, h3⟩ := badRow_iff.1 (h x (by simp))
    simp only [rowsS, rowsT]
    rw [rowS_ok h3 (by omega), rowsS_ok fun y hy => h y (by simp [hy])]
end Go.Crc

/- Configurations are read and compared by the document. Conditions: none. A text of this seat's numbers. -/
set_option linter.unusedVariables false
set_option linter.unusedSimpArgs false
set_option maxRecDepth 100000
namespace Go.Crc
open Go.Vm Go.Pack Go.Rec
/-! ### A row -/
def strOb (s : St) : Ob := .cells [.str s.b, .int .i64 s.e]
def lfQ6 : Nat → Option LoopSum := lfOf [(122, loopT [1, 2, 4, 5, 6] [1, 2, 5] fun vs H => match vs, H with
  | [.ptr 0 0 0, .ptr 0 1 0, .int .i64 m, .slice (.int .i64) o .own, .int .i64 i], [.cells [.str b, .int .i64 e], .cells [.str [], .int .i64 0]] :: S =>
    .br (decide (i = 0) && decide (0 ≤ m) && (decide (m ≤ 16) && decide (o.length = 0))) (.yes (.exit 0, [.ptr 0 0 0, .ptr 0 1 0, .slice (.int .i64) (rowR 16 m.toNat ⟨b, e⟩).2 .own], [strOb (rowR 16 m.toNat ⟨b, e⟩).1, .cells [.str [], .int .i64 0]] :: S, repApp m.toNat [(0, 0), (0, 2)])) .no
  | _, _ => .no)]
def rrV (r : St × List Int) : AV := .tuple [.agg [.str r.1.b, .int .i64 r.1.e], .slice (.int .i64) r.2 .view]
def rrwF : List AV → Tr AV
  | [.agg [.str b, .int .i64 e]] => .yes (rrV (nodesR ⟨b, e⟩))
  | _ => .no
/-! ### Read -/
def lfR6 : Nat → Option LoopSum := lfOf [(4090, loopT [2, 5, 6, 7, 8, 9] [2, 5, 6, 8] fun vs H => match vs, H with
  | [.ptr 0 0 0, .bool z, .ptr 0 1 0, .int .i64 m, .ptr 0 2 0, .int .i64 i], [.cells [.int .i64 0, .slice (.int .i64) [] .own, .slice (.slice (.int .i64)) [] .own], .cells [.int .i64 t, .slice (.int .i64) s .view, .slice (.slice (.int .i64)) o .own], .cells [.str b, .int .i64 e]] :: S =>
    .br (decide (i = 0) && decide (0 ≤ m) && (decide (m ≤ 8) && decide (o.length = 0))) (.yes (.exit 0, [.ptr 0 0 0, .bool z, .ptr 0 1 0, .ptr 0 2 0], [.cells [.int .i64 0, .slice (.int .i64) [] .own, .slice (.slice (.int .i64)) [] .own], .cells [.int .i64 t, .slice (.int .i64) s .view, .slice (.slice (.int .i64)) (rowsR m.toNat ⟨b, e⟩).2 .own], strOb (rowsR m.toNat ⟨b, e⟩).1] :: S, repApp m.toNat [(0, 1), (0, 2), (0, 3)])) .no
  | _, _ => .no)]
/-! ### The same -/
def lfS6 : Nat → Option LoopSum := lfOf [(58, loopT [2, 3, 5] [4] fun vs H => match vs, H with
  | [.ptr 0 0 0, .ptr 0 1 0, .int .i64 i], [.cells [.int .i64 t, .slice (.int .i64) s .view, .slice (.slice (.int .i64)) a .view], .cells [.int .i64 t2, .slice (.int .i64) s2 .view, .slice (.slice (.int .i64)) b .view]] :: S =>
    .br (decide (i = 0) && decide (a.length = b.length)) (.br (a == b) (.yes (.exit 0, [.undef], [.cells [.int .i64 t, .slice (.int .i64) s .view, .slice (.slice (.int .i64)) a .view], .cells [.int .i64 t2, .slice (.int .i64) s2 .view, .slice (.slice (.int .i64)) b .view]] :: S, [])) (.yes (.ret, [.bool false], [.cells [.int .i64 t, .slice (.int .i64) s .view, .slice (.slice (.int .i64)) a .view], .cells [.int .i64 t2, .slice (.int .i64) s2 .view, .slice (.slice (.int .i64)) b .view]] :: S, []))) .no
  | _, _ => .no)]
theorem s6_loops : ∀ x ∈ funLoops PR n_ref06_Same, ∀ L, lfS6 x.1 = some L → LoopOK (ntm PR n_ref06_Same) (fun fr H wr k => code PR (cfE [reE]) cfgT lfS6 (cfgT.live n_ref06_Same) x.2 (2 * x.1) fr H wr k) L := by
  refine one_loop (p := 58) rfl (by kernel_rfl) (loopT_ok (by decide) fun vs H wr ex vs' H' w hv ha hh => ?_)
  split at hv
  · rename_i i t s a t2 s2 b S
    obtain ⟨hc, hv2⟩ := Tr.br_no hv
    clear hv
    simp only [Bool.and_eq_true, decide_eq_true_eq] at hc
    obtain ⟨rfl, hl⟩ := hc
    have hmax : a.length ≤ maxInt := by
      have := hh 0 0 _ rfl
      simp only [okAVs, okAV] at this
      exact this.2.2.1.1
    refine ⟨a.length + 1, fun k => ?_⟩
    have := eq_loop (F := fun N i => LC PR (cfE [reE]) cfgT lfS6 n_ref06_Same 0 58 [2, 3, 5] [4] N [.ptr 0 0 0, .ptr 0 1 0, .int .i64 i] ([.cells [.int .i64 t, .slice (.int .i64) s .view, .slice (.slice (.int .i64)) a .view], .cells [.int .i64 t2, .slice (.int .i64) s2 .view, .slice (.slice (.int .i64)) b .view]] :: S) wr k)
      (xs := a) (ys := b) (R := k .ret [.bool false] ([.cells [.int .i64 t, .slice (.int .i64) s .view, .slice (.slice (.int .i64)) a .view], .cells [.int .i64 t2, .slice (.int .i64) s2 .view, .slice (.slice (.int .i64)) b .view]] :: S) wr) (E := k (.exit 0) [.undef] ([.cells [.int .i64 t, .slice (.int .i64) s .view, .slice (.slice (.int .i64)) a .view], .cells [.int .i64 t2, .slice (.int .i64) s2 .view, .slice (.slice (.int .i64)) b .view]] :: S) wr) rfl hl hmax (fun N i => by kernel_rfl) a.length 0 (by omega)
    rw [List.drop_zero, List.drop_zero] at this
    rcases Tr.br_or hv2 with ⟨he, h4⟩ | ⟨he, h4⟩
    · cases h4; rw [he] at this; exact this
    · cases h4; rw [he] at this; exact this
  · cases hv
theorem tsr_ok : Con PR A n_ref06_Same (pureC tsF) := by
  refine pure_con (cfg := cfgT) (lf := lfS6) [reE] mixed (by kernel_rfl) (by kernel_rfl) s6_loops fun args v hv ha S => ?_
  unfold tsF at hv
  split at hv
  · rename_i t s sh t2 s2 sh2
    cases hv
    have h : body PR (cfE [reE]) cfgT lfS6 n_ref06_Same [conA t s sh, conA t2 s2 sh2] S some =
      (bif t != t2 then some (.bool false, [], S) else bif !(s == s2) then some (.bool false, [], S) else bif (sh.length : Int) != (sh2.length : Int) then some (.bool false, [], S)
      else bif true && decide (sh.length = sh2.length) then (bif sh == sh2 then some (.bool true, [], S) else some (.bool false, [], S)) else none) := by kernel_rfl
    refine h.trans ?_
    rw [bne]
    cases t == t2 with
    | false => rfl
    | true =>
      cases s == s2 with
      | false => rfl
      | true =>
        by_cases hl : sh.length = sh2.length
        · rw [show ((sh.length : Int) != (sh2.length : Int)) = false by simp [hl], decide_eq_true hl]
          cases sh == sh2 <;> rfl
        · rw [show ((sh.length : Int) != (sh2.length : Int)) = true by simp; omega, ne_len hl]; rfl
  · cases hv
def tsrE : Ent PR A := ⟨n_ref06_Same, _, tsr_ok⟩
end Go.Crc
