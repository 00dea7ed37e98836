/- Contracts of functions of this program. Conditions: none. -/
import Derived.Test.YtndplefahpomoaaWf
import Derived.Test.YtndplefahpomoaaWb
import Derived.Test.YtndplefahpomoaaVp
set_option linter.unusedVariables false
set_option linter.unusedSimpArgs false
/- The laws of entries. Conditions: none. A text of this seat's numbers. -/
set_option linter.unusedVariables false
set_option linter.unusedSimpArgs false
set_option maxRecDepth 100000
namespace Go.Crc
open Go.Vm Go.Pack Go.Rec
noncomputable def EE : List (Ent PR A) := [eencE, eencrE, aliveE, erE, errE, edecE, edecrE, esE, esrE, chE, dcE, laE, dlE, owE, coE, toE, reE]
theorem ent_writes (n k : Int) (v : List Int) (t te p : Int) : body PR (cfE EE) cfgEn lf0 n_law_EntryWrites [entA n k v t te p] [] some = some (.bool true, [], []) := by
  have h : body PR (cfE EE) cfgEn lf0 n_law_EntryWrites [entA n k v t te p] [] some =
    (bif entB n k v t te p == entB n k v t te p then bif entE n k v t te p == entE n k v t te p then some (.bool (entR n k v t te p == entR n k v t te p), [], []) else some (.bool false, [], []) else some (.bool false, [], [])) := by kernel_rfl
  rw [h, beq_self_eq_true, beq_self_eq_true, beq_self_eq_true]; rfl
theorem ent_reads (b : List Int) (hb : isBytes b) : body PR (cfE EE) cfgEn lf0 n_law_EntryReads [.slice (.int .u8) b .view] [] some = some (.bool true, [], []) := by
  have h : body PR (cfE EE) cfgEn lf0 n_law_EntryReads [.slice (.int .u8) b .view] [] some =
    (bif decide ((b.length : Int) > 20000) then some (.bool true, [], [])
    else bif decide (b.length ≤ 140737488355328) then bif decide (b.length ≤ 140737488355328) then
      bif esameB (pD b).1 (pD b).2.1 (pD b).2.2.1 (pD b).2.2.2.1 (pD b).2.2.2.2.1 (pD b).2.2.2.2.2 (rD b).1 (rD b).2.1 (rD b).2.2.1 (rD b).2.2.2.1 (rD b).2.2.2.2.1 (rD b).2.2.2.2.2 then some (.bool (pE b == rE b), [], []) else some (.bool false, [], []) else none else none) := by kernel_rfl
  rw [h]
  by_cases hl : (b.length : Int) > 20000
  · rw [decide_eq_true hl]; rfl
  · obtain ⟨h1, h2⟩ := same_dec hb
    rw [decide_eq_false hl, decide_eq_true (show b.length ≤ 140737488355328 by omega), h1, h2, esameB_refl, beq_self_eq_true]; rfl
theorem entE_zero {n k : Int} {v : List Int} {t te p : Int} (h : entE n k v t te p = 0) : entR n k v t te p = true := by
  unfold entE at h
  cases hr : entR n k v t te p with
  | true => rfl
  | false => rw [hr] at h; cases h
theorem ent_same (n k : Int) (v : List Int) (t te p : Int) (n2 k2 : Int) (v2 : List Int) (t2 te2 p2 : Int) : body PR (cfE EE) cfgEn lf0 n_law_EntrySame [entA n k v t te p, entA n2 k2 v2 t2 te2 p2] [] some = some (.bool true, [], []) := by
  have h : body PR (cfE EE) cfgEn lf0 n_law_EntrySame [entA n k v t te p, entA n2 k2 v2 t2 te2 p2] [] some =
    (bif !(esameB n k v t te p n2 k2 v2 t2 te2 p2 == esameB n k v t te p n2 k2 v2 t2 te2 p2) then some (.bool false, [], [])
    else bif !esameB n k v t te p n k v t te p then some (.bool false, [], [])
    else bif entE n k v t te p != 0 then some (.bool true, [], []) else bif entE n2 k2 v2 t2 te2 p2 != 0 then some (.bool true, [], [])
    else some (.bool ((entB n k v t te p == entB n2 k2 v2 t2 te2 p2) == esameB n k v t te p n2 k2 v2 t2 te2 p2), [], [])) := by kernel_rfl
  rw [h, beq_self_eq_true, esameB_refl]
  by_cases h1 : entE n k v t te p = 0
  · by_cases h2 : entE n2 k2 v2 t2 te2 p2 = 0
    · rw [h1, h2]
      have r1 := entE_zero h1
      have r2 := entE_zero h2
      have : (entB n k v t te p == entB n2 k2 v2 t2 te2 p2) = esameB n k v t te p n2 k2 v2 t2 te2 p2 := by
        rw [Bool.eq_iff_iff, beq_iff_eq, esameB_iff]
        constructor
        · intro e
          unfold entB at e
          rw [r1, r2] at e
          simp only [cond_true] at e
          have a := (p_back (x := (n, k, v, t, te, p)) r1).2
          have b := (p_back (x := (n2, k2, v2, t2, te2, p2)) r2).2
          unfold enT at a b
          simp only at a b
          rw [e, b] at a
          simp only [Prod.mk.injEq] at a
          obtain ⟨q1, q2, q3, q4, q5, q6⟩ := a
          exact ⟨q1.symm, q2.symm, q3.symm, q4.symm, q5.symm, q6.symm⟩
        · rintro ⟨rfl, rfl, rfl, rfl, rfl, rfl⟩; rfl
      rw [this, beq_self_eq_true]; rfl
    · rw [h1, show (entE n2 k2 v2 t2 te2 p2 != 0) = true by simpa using h2]; rfl
  · rw [show (entE n k v t te p != 0) = true by simpa using h1]; rfl
theorem ent_chains (l : List En) (n : Int) : body PR (cfE EE) cfgEn lf0 n_law_EntryChains [.slice EnT l .view, .int .i64 n] [] some = some (.bool true, [], []) := by
  have h : body PR (cfE EE) cfgEn lf0 n_law_EntryChains [.slice EnT l .view, .int .i64 n] [] some =
    (bif decide ((l.length : Int) > 200) then some (.bool true, [], []) else bif decide (l.length * 64 ≤ 140737488355328) then
      bif ((chP 0 [] l : Nat) : Int) == ((chP 0 [] l : Nat) : Int) then bif decide (l.length * 64 ≤ 140737488355328) then
        some (.bool (lastV (zv n) (l.take (chP 0 [] l)) == lastV (zv n) (l.take (chP 0 [] l))), [], []) else none else some (.bool false, [], []) else none) := by kernel_rfl
  rw [h, beq_self_eq_true, beq_self_eq_true]
  by_cases hl : (l.length : Int) > 200
  · rw [decide_eq_true hl]; rfl
  · rw [decide_eq_false hl, decide_eq_true (show l.length * 64 ≤ 140737488355328 by omega)]; rfl
/-! ### One entry more -/
def mayN (b : Bool) (k : Int) (v : List Int) (l : List En) : Bool := bif b then (bif k == 1 then (bif (lastC l).isSome then coversB v (lastV [] l) else true) else true) else false
def lfNx : Nat → Option LoopSum := lfOf [(250, loopT [0, 3, 5, 6, 7] [0, 3, 5, 6] fun vs H => match vs, H with
  | [.slice (.pair (.int .i64) (.pair (.int .i64) (.pair (.slice (.int .i64)) (.pair (.int .i64) (.pair (.int .i64) (.int .i64)))))) l .view, .ptr 0 0 0, .slice (.pair (.int .i64) (.pair (.int .i64) (.pair (.slice (.int .i64)) (.pair (.int .i64) (.pair (.int .i64) (.int .i64)))))) x .own, .bool b, .int .i64 i], [.cells [.int .i64 n, .int .i64 kd, .slice (.int .i64) v .view, .int .i64 t, .int .i64 te, .int .i64 p]] :: S =>
    .br (decide (i = (l.length : Int) - 1)) (.yes (.exit 0, [.slice EnT l .view, .ptr 0 0 0, .slice EnT x .own, .bool (mayN b kd v l)], [entOb n kd v t te p] :: S, [])) .no
  | _, _ => .no)]
theorem nx_loops : ∀ x ∈ funLoops PR n_law_EntryNext, ∀ L, lfNx x.1 = some L → LoopOK (ntm PR n_law_EntryNext) (fun fr H wr k => code PR (cfE EE) cfgEn lfNx (cfgEn.live n_law_EntryNext) x.2 (2 * x.1) fr H wr k) L := by
  refine one_loop (p := 250) rfl (by kernel_rfl) (loopT_ok (by decide) fun vs H wr ex vs' H' w hv ha hh => ?_)
  split at hv
  · rename_i l xo b i n kd v t te p S
    obtain ⟨hc, hv2⟩ := Tr.br_no hv
    clear hv
    simp only [decide_eq_true_eq] at hc
    subst hc
    cases hv2
    have hmax : l.length ≤ maxInt := by simp only [okAVs, okAV] at ha; exact ha.1.1
    refine ⟨l.length + 1, fun k => ?_⟩
    have hF : ∀ N i, LC PR (cfE EE) cfgEn lfNx n_law_EntryNext 0 250 [0, 3, 5, 6, 7] [0, 3, 5, 6] (N + 1) [.slice EnT l .view, .ptr 0 0 0, .slice EnT xo .own, .bool b, .int .i64 i] ([entOb n kd v t te p] :: S) wr k =
        (bif decide (i ≥ 0) then bif b then bif kd == 1 then (at? l i).bind fun x => bif x.2.1 == 1 then (at? l i).bind fun y => k (.exit 0) [.slice EnT l .view, .ptr 0 0 0, .slice EnT xo .own, .bool (coversB v (eV y))] ([entOb n kd v t te p] :: S) wr
            else LC PR (cfE EE) cfgEn lfNx n_law_EntryNext 0 250 [0, 3, 5, 6, 7] [0, 3, 5, 6] N [.slice EnT l .view, .ptr 0 0 0, .slice EnT xo .own, .bool b, .int .i64 (IntKind.i64.wrap (i - 1))] ([entOb n kd v t te p] :: S) wr k
          else k (.exit 0) [.slice EnT l .view, .ptr 0 0 0, .slice EnT xo .own, .bool b] ([entOb n kd v t te p] :: S) wr else k (.exit 0) [.slice EnT l .view, .ptr 0 0 0, .slice EnT xo .own, .bool b] ([entOb n kd v t te p] :: S) wr
          else k (.exit 0) [.slice EnT l .view, .ptr 0 0 0, .slice EnT xo .own, .bool b] ([entOb n kd v t te p] :: S) wr) := fun N i => by kernel_rfl
    cases b with
    | false =>
      refine Eq.trans (hF l.length ((l.length : Int) - 1)) ?_
      cases decide ((l.length : Int) - 1 ≥ 0) <;> rfl
    | true =>
      cases hk : kd == 1 with
      | false =>
        have := hF l.length ((l.length : Int) - 1)
        rw [hk] at this
        refine Eq.trans this ?_
        unfold mayN
        rw [hk]
        cases decide ((l.length : Int) - 1 ≥ 0) <;> rfl
      | true =>
        have := down_loop (F := fun N i => LC PR (cfE EE) cfgEn lfNx n_law_EntryNext 0 250 [0, 3, 5, 6, 7] [0, 3, 5, 6] N [.slice EnT l .view, .ptr 0 0 0, .slice EnT xo .own, .bool true, .int .i64 i] ([entOb n kd v t te p] :: S) wr k)
          (xs := l) (p := isC) (R := fun x => k (.exit 0) [.slice EnT l .view, .ptr 0 0 0, .slice EnT xo .own, .bool (coversB v (eV x))] ([entOb n kd v t te p] :: S) wr) (E := k (.exit 0) [.slice EnT l .view, .ptr 0 0 0, .slice EnT xo .own, .bool true] ([entOb n kd v t te p] :: S) wr) hmax (fun N i => by
            rw [hF, hk]
            cases at? l i <;> rfl) l.length (Nat.le_refl _)
        rw [List.take_length] at this
        refine Eq.trans this ?_
        unfold mayN lastV lastC
        rw [hk]
        cases List.find? isC l.reverse <;> rfl
  · cases hv
theorem ent_next (l : List En) (n k : Int) (v : List Int) (t te p : Int) (hl : l.length * 64 ≤ 140737488355328) : body PR (cfE EE) cfgEn lfNx n_law_EntryNext [.slice EnT l .view, entA n k v t te p] [] some = some (.bool true, [], []) := by
  have h : body PR (cfE EE) cfgEn lfNx n_law_EntryNext [.slice EnT l .view, entA n k v t te p] [] some =
    (bif decide (l.length * 64 ≤ 140737488355328) then bif decide ((l.length : Int) > 200) then some (.bool true, [], []) else bif decide ((l.length : Int) < 1) then some (.bool true, [], [])
      else bif ((chP 0 [] l : Nat) : Int) != (l.length : Int) then some (.bool true, [], [])
      else bif entR n k v t te p then
        bif decide (IntKind.i64.wrap ((l.length : Int) - 1) = (l.length : Int) - 1) then bif decide ((l.length + [((n, k, v, t, te, p) : En)].length) * 64 ≤ 140737488355328) then
          some (.bool ((((chP 0 [] (l ++ [(n, k, v, t, te, p)]) : Nat) : Int) == IntKind.i64.wrap ((l.length : Int) + 1)) == mayN (n == IntKind.i64.wrap ((l.length : Int) + 1)) k v l), [], []) else none else none
      else bif decide (IntKind.i64.wrap ((l.length : Int) - 1) = (l.length : Int) - 1) then bif decide ((l.length + [((n, k, v, t, te, p) : En)].length) * 64 ≤ 140737488355328) then
          some (.bool ((((chP 0 [] (l ++ [(n, k, v, t, te, p)]) : Nat) : Int) == IntKind.i64.wrap ((l.length : Int) + 1)) == mayN false k v l), [], []) else none else none else none) := by kernel_rfl
  rw [h, decide_eq_true hl]
  by_cases h1 : (l.length : Int) > 200
  · rw [decide_eq_true h1]; rfl
  by_cases h2 : (l.length : Int) < 1
  · rw [decide_eq_false h1, decide_eq_true h2]; rfl
  rw [decide_eq_false h1, decide_eq_false h2]
  by_cases h3 : chP 0 [] l = l.length
  · have e3 : (((chP 0 [] l : Nat) : Int) != (l.length : Int)) = false := by rw [h3]; simp
    have w1 : IntKind.i64.wrap ((l.length : Int) - 1) = (l.length : Int) - 1 := by rw [wrap_i64 (by omega) (by omega)]
    have w2 : IntKind.i64.wrap ((l.length : Int) + 1) = ((l.length + 1 : Nat) : Int) := by rw [wrap_i64 (by omega) (by omega)]; omega
    rw [e3, w2, decide_eq_true w1, decide_eq_true (show (l.length + [((n, k, v, t, te, p) : En)].length) * 64 ≤ 140737488355328 by simp only [List.length_cons, List.length_nil]; omega), ch_next h3]
    have key : (bif entR n k v t te p then mayN (n == ((l.length + 1 : Nat) : Int)) k v l else mayN false k v l) = folB l (n, k, v, t, te, p) := by
      unfold folB enR mayN lastV
      cases entR n k v t te p with
      | false => rfl
      | true =>
        cases n == ((l.length + 1 : Nat) : Int) with
        | false => rfl
        | true =>
          cases k == 1 with
          | false => rfl
          | true => cases lastC l <;> rfl
    rw [← key]
    cases entR n k v t te p <;> simp only [cond_true, cond_false, beq_self_eq_true]
  · have e3 : (((chP 0 [] l : Nat) : Int) != (l.length : Int)) = true := by rw [bne_iff_ne]; omega
    rw [e3]; rfl
/-! ### Beginnings -/
def bgB (last : List Int) (x : En) : Bool := bif x.2.1 == 1 then (bif !coversB last (eV x) then false else !decide (totalV last < totalV (eV x))) else true
def lfBg : Nat → Option LoopSum := lfOf [(1018, loopT [7, 40, 41, 42] [4] fun vs H => match vs, H with
  | [.slice (.int .i64) last .view, .slice (.pair (.int .i64) (.pair (.int .i64) (.pair (.slice (.int .i64)) (.pair (.int .i64) (.pair (.int .i64) (.int .i64)))))) l .view, .int .i64 m, .int .i64 i], [] :: S =>
    .br (decide (m = l.length) && (decide (i = 0) && l.all (bgB last))) (.yes (.exit 0, [.undef], [] :: S, repApp l.length [(0, 0)])) .no
  | _, _ => .no)]
def bgStep (R : Wr → En → Option Res) (last : List Int) (i : Int) (x : En) (s : Wr) (k : Wr → Option Res) : Option Res :=
  bif x.2.1 == 1 then (bif !coversB last (eV x) then R s x else bif decide (totalV last < totalV (eV x)) then R s x else k ((0, 0) :: s)) else k ((0, 0) :: s)
theorem bg_fold (R : Wr → En → Option Res) (last : List Int) (E : Wr → Option Res) : ∀ (l : List En) (j : Nat) (s : Wr), l.all (bgB last) = true → foldK (bgStep R last) E j l s = E (app (repApp l.length [(0, 0)]) s)
  | [], j, s, h => rfl
  | x :: l, j, s, h => by
    simp only [List.all_cons, Bool.and_eq_true] at h
    have ih := bg_fold R last E l (j + 1) ((0, 0) :: s) h.2
    rw [show foldK (bgStep R last) E j (x :: l) s = (bif x.2.1 == 1 then (bif !coversB last (eV x) then R s x else bif decide (totalV last < totalV (eV x)) then R s x else foldK (bgStep R last) E (j + 1) l ((0, 0) :: s)) else foldK (bgStep R last) E (j + 1) l ((0, 0) :: s)) from rfl, ih, List.length_cons, rep_more]
    have h1 := h.1
    unfold bgB at h1
    revert h1
    cases x.2.1 == 1 <;> cases !coversB last (eV x) <;> cases decide (totalV last < totalV (eV x)) <;> intro h1 <;> first | rfl | cases h1
theorem bg_loops : ∀ x ∈ funLoops PR n_law_EntryBegins, ∀ L, lfBg x.1 = some L → LoopOK (ntm PR n_law_EntryBegins) (fun fr H wr k => code PR (cfE EE) cfgEn lfBg (cfgEn.live n_law_EntryBegins) x.2 (2 * x.1) fr H wr k) L := by
  refine one_loop (p := 1018) rfl (by kernel_rfl) (loopT_ok (by decide) fun vs H wr ex vs' H' w hv ha hh => ?_)
  split at hv
  · rename_i last l m i S
    obtain ⟨hc, hv2⟩ := Tr.br_no hv
    clear hv
    simp only [Bool.and_eq_true, decide_eq_true_eq] at hc
    obtain ⟨hm, rfl, hall⟩ := hc
    cases hv2
    have hmax : l.length ≤ maxInt := by simp only [okAVs, okAV] at ha; exact ha.2.1.1
    refine ⟨l.length + 1, fun k => ?_⟩
    have := fold_loop (F := fun N i s => LC PR (cfE EE) cfgEn lfBg n_law_EntryBegins 0 1018 [7, 40, 41, 42] [4] N [.slice (.int .i64) last .view, .slice EnT l .view, .int .i64 m, .int .i64 i] ([] :: S) s k)
      (xs := l) (step := bgStep (fun s x => k .ret [.bool false] ([enOb x] :: S) ((0, 0) :: s)) last) (E := fun s => k (.exit 0) [.undef] ([] :: S) s) hm hmax (fun N i s => by kernel_rfl) l.length 0 wr (by omega)
    rw [List.drop_zero, bg_fold _ last _ l 0 wr hall] at this
    exact this
  · cases hv
theorem ent_begins (l : List En) (n : Int) (hl : l.length * 64 ≤ 140737488355328) : body PR (cfE EE) cfgEn lfBg n_law_EntryBegins [.slice EnT l .view, .int .i64 n] [] some = some (.bool true, [], []) := by
  have h : body PR (cfE EE) cfgEn lfBg n_law_EntryBegins [.slice EnT l .view, .int .i64 n] [] some =
    (bif decide (l.length * 64 ≤ 140737488355328) then bif decide ((l.length : Int) > 200) then some (.bool true, [], []) else bif decide (n < 0) then some (.bool true, [], []) else bif decide (n > (l.length : Int)) then some (.bool true, [], [])
      else bif decide (0 ≤ n) && decide (n ≤ (l.length : Int)) then
        bif ((chP 0 [] (l.take n.toNat) : Nat) : Int) != (if ((chP 0 [] l : Nat) : Int) < n then ((chP 0 [] l : Nat) : Int) else n) then some (.bool false, [], [])
        else bif decide (0 ≤ ((chP 0 [] l : Nat) : Int)) && decide (((chP 0 [] l : Nat) : Int) ≤ (l.length : Int)) then
          bif decide (((l.take (chP 0 [] l)).length : Int) = ((l.take (chP 0 [] l)).length : Int)) && (true && (l.take (chP 0 [] l)).all (bgB (lastV (zv 1) (l.take (chP 0 [] l))))) then
            some (.bool true, outer (app (repApp (l.take (chP 0 [] l)).length [(0, 0)]) []), []) else none else none else none else none) := by kernel_rfl
  rw [h, decide_eq_true hl]
  by_cases h1 : (l.length : Int) > 200
  · rw [decide_eq_true h1]; rfl
  by_cases h2 : n < 0
  · rw [decide_eq_false h1, decide_eq_true h2]; rfl
  by_cases h3 : n > (l.length : Int)
  · rw [decide_eq_false h1, decide_eq_false h2, decide_eq_true h3]; rfl
  have hle := chP_le l 0 []
  have e1 : (((chP 0 [] (l.take n.toNat) : Nat) : Int) != (if ((chP 0 [] l : Nat) : Int) < n then ((chP 0 [] l : Nat) : Int) else n)) = false := by
    rw [chP_take l 0 [] n.toNat (by omega), bne_eq_false_iff_eq]
    split <;> omega
  have e2 : (l.take (chP 0 [] l)).all (bgB (lastV (zv 1) (l.take (chP 0 [] l)))) = true := by
    rw [List.all_eq_true]
    intro x hx
    unfold bgB
    cases hk : x.2.1 == 1 with
    | false => rfl
    | true =>
      have hc : coversB (lastV (zv 1) (l.take (chP 0 [] l))) (eV x) = true := by
        have := (ch_covers l 0 [] (.inl rfl)).1 x hx hk
        have hlast : lastV (zv 1) (l.take (chP 0 [] l)) = lastV [] (l.take (chP 0 [] l)) := by
          unfold lastV
          cases hlc : lastC (l.take (chP 0 [] l)) with
          | some y => rfl
          | none =>
            unfold lastC at hlc
            rw [List.find?_eq_none] at hlc
            exact absurd hk (hlc x (List.mem_reverse.2 hx))
        rw [hlast]; exact this
      have ht := total_mono hc
      rw [hc, decide_eq_false (by omega)]; rfl
  rw [decide_eq_false h1, decide_eq_false h2, decide_eq_false h3, decide_eq_true (show 0 ≤ n by omega), decide_eq_true (show n ≤ (l.length : Int) by omega), e1, e2, decide_eq_true (show 0 ≤ ((chP 0 [] l : Nat) : Int) by omega), decide_eq_true (show ((chP 0 [] l : Nat) : Int) ≤ (l.length : Int) by omega), decide_eq_true rfl, outer_app0 _ _ (all0_rep rfl _)]
  rfl
/-! ### Trims -/
def trimE : Nat → List (Int × Int) → List En
  | _, [] => []
  | j, s :: r => (((j + 1 : Nat) : Int), 2, [], 0, s.1, s.2) :: trimE (j + 1) r
theorem trimE_cut : ∀ (r : List (Int × Int)) (j : Nat), ∀ x ∈ trimE j r, isC x = false
  | [], j, x, hx => by cases hx
  | s :: r, j, x, hx => by
    rcases List.mem_cons.1 hx with rfl | hx
    · rfl
    · exact trimE_cut r (j + 1) x hx
theorem trimE_len : ∀ (r : List (Int × Int)) (j : Nat), (trimE j r).length = r.length
  | [], j => rfl
  | s :: r, j => by simp [trimE, trimE_len r (j + 1)]
def lfTm : Nat → Option LoopSum := lfOf [(250, loopT [0, 2, 7, 8, 40, 41, 42] [0, 2, 7, 8] fun vs H => match vs, H with
  | [.slice (.pair (.int .i64) (.pair (.int .i64) (.pair (.slice (.int .i64)) (.pair (.int .i64) (.pair (.int .i64) (.int .i64)))))) l .view, .int .i64 sh, .slice (.pair (.int .i64) (.pair (.int .i64) (.pair (.slice (.int .i64)) (.pair (.int .i64) (.pair (.int .i64) (.int .i64)))))) x .own, .slice (.int .i64) was .view, .slice (.pair (.int .i64) (.int .i64)) more .view, .int .i64 m, .int .i64 i], [] :: S =>
    .br (decide (m = more.length) && (decide (i = 0) && decide ((x.length + more.length) * 64 ≤ 140737488355328))) (.yes (.exit 0, [.slice EnT l .view, .int .i64 sh, .slice EnT (x ++ trimE x.length more) .own, .slice (.int .i64) was .view], [] :: S, repApp more.length [(0, 0)])) .no
  | _, _ => .no)]
def tmStep (i : Int) (x : Int × Int) (s : List En × Wr) (k : List En × Wr → Option Res) : Option Res :=
  bif decide ((s.1.length + [((IntKind.i64.wrap ((s.1.length : Int) + 1), 2, [], 0, x.1, x.2) : En)].length) * 64 ≤ 140737488355328) then k (s.1 ++ [(IntKind.i64.wrap ((s.1.length : Int) + 1), 2, [], 0, x.1, x.2)], (0, 0) :: s.2) else none
theorem tm_fold (E : List En × Wr → Option Res) : ∀ (l : List (Int × Int)) (j : Nat) (o : List En) (wr : Wr), (o.length + l.length) * 64 ≤ 140737488355328 → foldK tmStep E j l (o, wr) = E (o ++ trimE o.length l, app (repApp l.length [(0, 0)]) wr)
  | [], j, o, wr, h => by simp [foldK, trimE, repApp, app]
  | x :: l, j, o, wr, h => by
    simp only [List.length_cons] at h
    have hw : IntKind.i64.wrap ((o.length : Int) + 1) = ((o.length + 1 : Nat) : Int) := by rw [wrap_i64 (by omega) (by omega)]; omega
    rw [show foldK tmStep E j (x :: l) (o, wr) = (bif decide ((o.length + [((IntKind.i64.wrap ((o.length : Int) + 1), 2, [], 0, x.1, x.2) : En)].length) * 64 ≤ 140737488355328) then foldK tmStep E (j + 1) l (o ++ [(IntKind.i64.wrap ((o.length : Int) + 1), 2, [], 0, x.1, x.2)], (0, 0) :: wr) else none) from rfl,
      cond_eq (decide_eq_true (by simp only [List.length_cons, List.length_nil]; omega)), tm_fold E l (j + 1) _ _ (by rw [List.length_append]; simp only [List.length_cons, List.length_nil]; omega)]
    rw [List.length_cons, rep_more, List.append_assoc, hw, List.length_append, List.length_singleton]
    rfl
theorem tm_loops : ∀ x ∈ funLoops PR n_law_EntryTrims, ∀ L, lfTm x.1 = some L → LoopOK (ntm PR n_law_EntryTrims) (fun fr H wr k => code PR (cfE EE) cfgEn lfTm (cfgEn.live n_law_EntryTrims) x.2 (2 * x.1) fr H wr k) L := by
  refine one_loop (p := 250) rfl (by kernel_rfl) (loopT_ok (by decide) fun vs H wr ex vs' H' w hv ha hh => ?_)
  split at hv
  · rename_i l sh x was more m i S
    obtain ⟨hc, hv2⟩ := Tr.br_no hv
    clear hv
    simp only [Bool.and_eq_true, decide_eq_true_eq] at hc
    obtain ⟨hm, rfl, hl⟩ := hc
    cases hv2
    refine ⟨more.length + 1, fun k => ?_⟩
    have := fold_loop (F := fun N i s => LC PR (cfE EE) cfgEn lfTm n_law_EntryTrims 0 250 [0, 2, 7, 8, 40, 41, 42] [0, 2, 7, 8] N [.slice EnT l .view, .int .i64 sh, .slice EnT s.1 .own, .slice (.int .i64) was .view, .slice (.pair (.int .i64) (.int .i64)) more .view, .int .i64 m, .int .i64 i] ([] :: S) s.2 k)
      (xs := more) (step := tmStep) (E := fun s => k (.exit 0) [.slice EnT l .view, .int .i64 sh, .slice EnT s.1 .own, .slice (.int .i64) was .view] ([] :: S) s.2) hm (by simp only [maxInt]; omega) (fun N i s => by kernel_rfl) more.length 0 (x, wr) (by omega)
    rw [List.drop_zero, tm_fold _ more 0 x wr hl] at this
    exact this
  · cases hv
theorem ent_trims (l : List En) (more : List (Int × Int)) (sh : Int) (hl : l.length * 64 ≤ 140737488355328) : body PR (cfE EE) cfgEn lfTm n_law_EntryTrims [.slice EnT l .view, .slice (.pair (.int .i64) (.int .i64)) more .view, .int .i64 sh] [] some = some (.bool true, [], []) := by
  have h : body PR (cfE EE) cfgEn lfTm n_law_EntryTrims [.slice EnT l .view, .slice (.pair (.int .i64) (.int .i64)) more .view, .int .i64 sh] [] some =
    (bif decide (l.length * 64 ≤ 140737488355328) then bif decide ((l.length : Int) > 200) then some (.bool true, [], []) else bif decide ((more.length : Int) > 200) then some (.bool true, [], [])
      else bif ((chP 0 [] l : Nat) : Int) != (l.length : Int) then some (.bool true, [], []) else bif decide (sh < 1) then some (.bool true, [], []) else bif decide (sh > 8) then some (.bool true, [], [])
      else bif decide ((more.length : Int) = (more.length : Int)) && (true && decide ((l.length + more.length) * 64 ≤ 140737488355328)) then
        bif ((chP 0 [] (l ++ trimE l.length more) : Nat) : Int) != ((l ++ trimE l.length more).length : Int) then some (.bool true, outer (app (repApp more.length [(0, 0)]) []), [])
        else bif lastV (zv sh) ((l ++ trimE l.length more).take (chP 0 [] (l ++ trimE l.length more))) == lastV (zv sh) (l.take (chP 0 [] l)) then
          bif decide ((l.length : Int) > 0) then some (.bool true, outer (app (repApp more.length [(0, 0)]) []), []) else some (.bool (totalV (lastV (zv sh) (l.take (chP 0 [] l))) == 0), outer (app (repApp more.length [(0, 0)]) []), [])
        else some (.bool false, outer (app (repApp more.length [(0, 0)]) []), []) else none else none) := by kernel_rfl
  rw [h, decide_eq_true hl, outer_app0 _ _ (all0_rep rfl _)]
  by_cases h1 : (l.length : Int) > 200
  · rw [decide_eq_true h1]; rfl
  by_cases h2 : (more.length : Int) > 200
  · rw [decide_eq_false h1, decide_eq_true h2]; rfl
  rw [decide_eq_false h1, decide_eq_false h2]
  by_cases h3 : chP 0 [] l = l.length
  · have e3 : (((chP 0 [] l : Nat) : Int) != (l.length : Int)) = false := by rw [h3]; simp
    rw [e3, decide_eq_true (rfl : (more.length : Int) = (more.length : Int)), decide_eq_true (show (l.length + more.length) * 64 ≤ 140737488355328 by omega)]
    cases decide (sh < 1) with
    | true => rfl
    | false =>
      cases decide (sh > 8) with
      | true => rfl
      | false =>
        simp only [cond_true, cond_false, Bool.and_self]
        cases h4 : (((chP 0 [] (l ++ trimE l.length more) : Nat) : Int) != ((l ++ trimE l.length more).length : Int)) with
        | true => rfl
        | false =>
          rw [bne_eq_false_iff_eq] at h4
          have h5 : chP 0 [] (l ++ trimE l.length more) = (l ++ trimE l.length more).length := by omega
          rw [h5, h3, List.take_length, List.take_length]
          have e5 : lastV (zv sh) (l ++ trimE l.length more) = lastV (zv sh) l := by
            unfold lastV
            rw [lastC_none l _ (trimE_cut more l.length)]
          rw [e5, beq_self_eq_true]
          by_cases h6 : (l.length : Int) > 0
          · rw [decide_eq_true h6]; rfl
          · rw [decide_eq_false h6]
            have : l = [] := List.eq_nil_of_length_eq_zero (by omega)
            subst this
            rw [show lastV (zv sh) [] = zv sh from rfl, zv_total]; rfl
  · have e3 : (((chP 0 [] l : Nat) : Int) != (l.length : Int)) = true := by rw [bne_iff_ne]; omega
    rw [e3]; rfl
theorem sz_bytes {b : List Int} (h : Sz (.slice (.int .u8)) b) : isBytes b := fun x hx => by
  have := h.2 x hx
  simpa [Sz, IntKind.min, IntKind.max, IntKind.signed, IntKind.bits] using this
theorem sz_ents {l : List En} (h : Sz (.slice EnT) l) : l.length * 64 ≤ 140737488355328 := by
  have h1 := h.1
  have h2 : Ty.bts EnT = 64 := rfl
  have h3 : reachBytes ≤ 140737488355328 := by decide
  rw [h2] at h1
  omega
end Go.Crc

/- Entries that are turned in a byte. Conditions: none. A text of this seat's numbers. -/
set_option linter.unusedVariables false
set_option linter.unusedSimpArgs false
set_option maxRecDepth 100000
namespace Go.Crc
open Go.Vm Go.Pack Go.Rec
def eencMF : List AV → Tr AV
  | [.agg [.int .i64 n, .int .i64 k, .slice (.int .i64) v .view, .int .i64 t, .int .i64 te, .int .i64 p]] =>
    .br (entR n k v t te p) (.yes (.tuple [.slice (.int .u8) (crcPut (entT n k v t te p)) .mine, .int .i64 0])) (.yes (.tuple [.slice (.int .u8) [] .own, .int .i64 50]))
  | _ => .no
theorem eencM_ok : Con PR A n_entry_Encode (pureC eencMF) := by
  refine pure_con0 (cfg := cfgE) [erE, pnumE, ptextE, vencE, newE, putME] mixed (by kernel_rfl) (by kernel_rfl) (by kernel_rfl) fun args v hv ha S => ?_
  unfold eencMF at hv
  split at hv
  · rename_i n k v t te p
    have h : body PR (cfE [erE, pnumE, ptextE, vencE, newE, putME]) cfgE lf0 n_entry_Encode [entA n k v t te p] S some =
      (bif !entR n k v t te p then some (AV.tuple [AV.slice (.int .u8) [] .own, AV.int .i64 50], [], S)
      else bif k == 1 then
        bif decide ((bif okAll [n, k] then [] ++ nums [n, k] else []).length ≤ 100000000) then
        bif decide ((bif decide (((bif vecR v then vecT v else []).length : Int) > 65536) then bif okAll [n, k] then [] ++ nums [n, k] else [] else (bif okAll [n, k] then [] ++ nums [n, k] else []) ++ num ((bif vecR v then vecT v else []).length : Int) ++ bif vecR v then vecT v else []).length + 4 ≤ 140737488355328) then
          some (AV.tuple [AV.slice (.int .u8) (crcPut (bif decide (((bif vecR v then vecT v else []).length : Int) > 65536) then bif okAll [n, k] then [] ++ nums [n, k] else [] else (bif okAll [n, k] then [] ++ nums [n, k] else []) ++ num ((bif vecR v then vecT v else []).length : Int) ++ bif vecR v then vecT v else [])) .mine, AV.int .i64 0], [], S)
        else none else none
      else
        bif decide ((bif okAll [n, k] then [] ++ nums [n, k] else []).length + 10 * [t, te, p].length ≤ 140737488355328) then
        bif decide ((bif okAll [t, te, p] then (bif okAll [n, k] then [] ++ nums [n, k] else []) ++ nums [t, te, p] else bif okAll [n, k] then [] ++ nums [n, k] else []).length + 4 ≤ 140737488355328) then
          some (AV.tuple [AV.slice (.int .u8) (crcPut (bif okAll [t, te, p] then (bif okAll [n, k] then [] ++ nums [n, k] else []) ++ nums [t, te, p] else bif okAll [n, k] then [] ++ nums [n, k] else [])) .mine, AV.int .i64 0], [], S)
        else none else none) := by kernel_rfl
    refine h.trans ?_
    rcases Tr.br_or hv with ⟨hr, h4⟩ | ⟨hr, h4⟩
    · cases h4
      rw [hr]
      obtain ⟨hn, hk⟩ := entR_n hr
      have k1 : okAll [n, k] = true := by
        simp only [okAll, ok2 (show 0 ≤ n ∧ n ≤ 1099511627776 by omega), ok2 (show 0 ≤ k ∧ k ≤ 1099511627776 by omega)]; rfl
      have l1 := nums_len [n, k]
      simp only [List.length_cons, List.length_nil] at l1
      have lt := entT_len hr
      by_cases h1 : k = 1
      · obtain ⟨_, hv2, _⟩ := entR_one hr h1
        have lv := vecT_len (vecR_iff.1 hv2).2.1
        have hk1 : (k == 1) = true := by simpa using h1
        have e : ([] ++ nums [n, k]) ++ num ((vecT v).length : Int) ++ vecT v = entT n k v t te p := by
          unfold entT
          rw [hk1]
          simp only [nums, List.nil_append, List.append_nil, List.append_assoc, cond_true]
        rw [k1, hv2, hk1]
        simp only [cond_true, Bool.not_true, cond_false]
        simp only [show decide (((vecT v).length : Int) > 65536) = false from decide_eq_false (by omega), cond_false]
        rw [e, cond_eq (decide_eq_true (by rw [List.length_append, List.length_nil]; omega)), cond_eq (decide_eq_true (by omega))]
      · obtain ⟨_, h2, _, h4, h5, h6⟩ := entR_two hr h1
        have hk1 : (k == 1) = false := by simpa using h1
        have k2 : okAll [t, te, p] = true := by
          simp only [okAll, ok2 (show 0 ≤ t ∧ t ≤ 1099511627776 by omega), ok2 (show 0 ≤ te ∧ te ≤ 1099511627776 by omega), ok2 (show 0 ≤ p ∧ p ≤ 1099511627776 by omega)]; rfl
        have e : ([] ++ nums [n, k]) ++ nums [t, te, p] = entT n k v t te p := by
          unfold entT
          rw [hk1]
          simp only [nums, List.nil_append, List.append_nil, List.append_assoc, cond_false]
        rw [k1, k2, hk1]
        simp only [cond_true, Bool.not_true, cond_false]
        rw [cond_eq (decide_eq_true (by simp only [List.length_append, List.length_nil, List.length_cons]; omega)), cond_eq (decide_eq_true (by rw [e]; omega)), e]
    · cases h4
      rw [hr]
      rfl
  · cases hv
def eencME : Ent PR A := ⟨n_entry_Encode, _, eencM_ok⟩
noncomputable def EB : List (Ent PR A) := [eencME, aliveE, edecE, esrE]
def stB : List StoreAt := [⟨254, 27, 5, 7, 56, 57, 62, 63⟩]
theorem ent_back_eq (n k : Int) (v : List Int) (t te p at_ turn : Int) : bodyL PR (cfE EB) cfgEn (fun _ => none) (estL PR (cfE EB) cfgEn n_law_EntryBack (nthD (up.ups [entA n k v t te p, .int .i64 at_, .int .i64 turn])) [] stB) n_law_EntryBack [entA n k v t te p, .int .i64 at_, .int .i64 turn] = some (.bool true, [], []) := by
  have h : bodyL PR (cfE EB) cfgEn (fun _ => none) (estL PR (cfE EB) cfgEn n_law_EntryBack (nthD (up.ups [entA n k v t te p, .int .i64 at_, .int .i64 turn])) [] stB) n_law_EntryBack [entA n k v t te p, .int .i64 at_, .int .i64 turn] =
    (bif entR n k v t te p then bif decide ((crcPut (entT n k v t te p)).length ≤ 140737488355328) then
        bif pE (crcPut (entT n k v t te p)) != 0 then some (.bool false, [], [])
        else bif !esameB (pD (crcPut (entT n k v t te p))).1 (pD (crcPut (entT n k v t te p))).2.1 (pD (crcPut (entT n k v t te p))).2.2.1 (pD (crcPut (entT n k v t te p))).2.2.2.1 (pD (crcPut (entT n k v t te p))).2.2.2.2.1 (pD (crcPut (entT n k v t te p))).2.2.2.2.2 n k v t te p then some (.bool false, [], [])
        else bif decide (at_ < 0) then some (.bool true, [], []) else bif decide (at_ ≥ ((crcPut (entT n k v t te p)).length : Int)) then some (.bool true, [], [])
        else bif decide (turn < 1) then some (.bool true, [], []) else bif decide (turn > 255) then some (.bool true, [], [])
        else (at? (crcPut (entT n k v t te p)) at_).bind fun x => bif (decide (0 ≤ at_) && decide (at_ < ((crcPut (entT n k v t te p)).length : Int))) && true then
          bif decide ((setAt (crcPut (entT n k v t te p)) at_.toNat (bitop .xor .u8 x (IntKind.u8.wrap turn))).length ≤ 140737488355328) then
            some (.bool (pE (setAt (crcPut (entT n k v t te p)) at_.toNat (bitop .xor .u8 x (IntKind.u8.wrap turn))) == 51), [], []) else none else none
      else none
    else some (.bool true, [], [])) := by kernel_rfl
  rw [h]
  cases hr : entR n k v t te p with
  | false => rfl
  | true =>
    have lt := entT_len hr
    have hl : (crcPut (entT n k v t te p)).length = (entT n k v t te p).length + 4 := by unfold crcPut; rw [List.length_append]; rfl
    have hb : isBytes (crcPut (entT n k v t te p)) := put_bytes (entT_bytes n k v t te p)
    obtain ⟨k1, k2⟩ := p_back (x := (n, k, v, t, te, p)) hr
    unfold enT at k1 k2
    simp only at k1 k2
    have hp := pE_ok.2 k1
    rw [hp, k2, decide_eq_true (show (crcPut (entT n k v t te p)).length ≤ 140737488355328 by omega), esameB_refl]
    by_cases h1 : at_ < 0
    · rw [decide_eq_true h1]; rfl
    by_cases h2 : at_ ≥ ((crcPut (entT n k v t te p)).length : Int)
    · rw [decide_eq_false h1, decide_eq_true h2]; rfl
    by_cases h3 : turn < 1
    · rw [decide_eq_false h1, decide_eq_false h2, decide_eq_true h3]; rfl
    by_cases h4 : turn > 255
    · rw [decide_eq_false h1, decide_eq_false h2, decide_eq_false h3, decide_eq_true h4]; rfl
    rw [decide_eq_false h1, decide_eq_false h2, decide_eq_false h3, decide_eq_false h4]
    obtain ⟨x, hx⟩ : ∃ x, at? (crcPut (entT n k v t te p)) at_ = some x := by
      unfold at?
      rw [if_pos (by omega)]
      exact ⟨_, List.getElem?_eq_getElem (by omega)⟩
    have hoff := turn_off hb (crcOK_put) (by omega) hx (t := turn) (by omega)
    have he : pE (setAt (crcPut (entT n k v t te p)) at_.toNat (bitop .xor .u8 x (IntKind.u8.wrap turn))) = 51 := by
      unfold pE; rw [hoff]; rfl
    have hsl : (setAt (crcPut (entT n k v t te p)) at_.toNat (bitop .xor .u8 x (IntKind.u8.wrap turn))).length = (crcPut (entT n k v t te p)).length := by rw [setAt_eq, List.length_set]
    simp only [hx, Option.bind_some, he, decide_eq_true (show 0 ≤ at_ by omega), decide_eq_true (show at_ < ((crcPut (entT n k v t te p)).length : Int) by omega), decide_eq_true (show (setAt (crcPut (entT n k v t te p)) at_.toNat (bitop .xor .u8 x (IntKind.u8.wrap turn))).length ≤ 140737488355328 by omega)]
    rfl
end Go.Crc
