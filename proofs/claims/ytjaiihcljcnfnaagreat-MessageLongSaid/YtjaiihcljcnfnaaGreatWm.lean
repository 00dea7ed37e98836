/- Contracts of functions of this program. Conditions: none. -/
import Derived.Test.YtjaiihcljcnfnaaGreatWj
import Derived.Test.YtjaiihcljcnfnaaGreatVp
import Derived.Test.YtjaiihcljcnfnaaGreatWk
import Derived.Test.YtjaiihcljcnfnaaGreatWl
set_option linter.unusedVariables false
set_option linter.unusedSimpArgs false
/- What the laws of messages use: few, own, plain. Conditions: none. A text of this seat's numbers. -/
set_option linter.unusedVariables false
set_option linter.unusedSimpArgs false
set_option maxRecDepth 100000
namespace Go.Crc
open Go.Vm Go.Pack Go.Rec
theorem own_ok : Con PR A n_law_own (pureC (msgF0 msgA)) := by
  refine msg_con0 (cfg := cfgM) [] (by kernel_rfl) (by kernel_rfl) (by kernel_rfl) fun m S => ?_
  have h : body PR (cfE (P := PR) (A := A) []) cfgM lf0 n_law_own [msgA m] S some = some (msgA m, [], S) := by kernel_rfl
  exact h
def ownE : Ent PR A := ⟨n_law_own, _, own_ok⟩
theorem plain_ok : Con PR A n_law_plain (pureC (msgF0 msgA)) := by
  refine msg_con0 (cfg := cfgM) [] (by kernel_rfl) (by kernel_rfl) (by kernel_rfl) fun m S => ?_
  have h : body PR (cfE (P := PR) (A := A) []) cfgM lf0 n_law_plain [msgA m] S some = some (msgA m, [], S) := by kernel_rfl
  exact h
def plainE : Ent PR A := ⟨n_law_plain, _, plain_ok⟩
/-! ### few -/
def fewN : List (List Int) → Int → Int
  | [], n => n
  | x :: r, n => fewN r (IntKind.i64.wrap (n + (x.length : Int)))
def lfFw : Nat → Option LoopSum := lfOf [(58, loopT [3, 32, 33, 34] [3] fun vs H => match vs, H with
  | [.int .i64 n, .slice (.slice (.int .i64)) sh .view, .int .i64 m, .int .i64 i], [.cells cs] :: S => .br (decide (m = sh.length) && decide (i = 0)) (.yes (.exit 0, [.int .i64 (fewN sh n)], [.cells cs] :: S, [])) .no
  | _, _ => .no)]
def fwStep (i : Int) (x : List Int) (n : Int) (k : Int → Option Res) : Option Res := k (IntKind.i64.wrap (n + (x.length : Int)))
theorem fw_fold (E : Int → Option Res) : ∀ (sh : List (List Int)) (j : Nat) (n : Int), foldK fwStep E j sh n = E (fewN sh n)
  | [], j, n => rfl
  | x :: r, j, n => by
    rw [show foldK fwStep E j (x :: r) n = foldK fwStep E (j + 1) r (IntKind.i64.wrap (n + (x.length : Int))) from rfl, fw_fold E r]; rfl
theorem fw_loops : ∀ x ∈ funLoops PR n_law_few, ∀ L, lfFw x.1 = some L → LoopOK (ntm PR n_law_few) (fun fr H wr k => code PR (cfE (P := PR) (A := A) []) cfgM lfFw (cfgM.live n_law_few) x.2 (2 * x.1) fr H wr k) L := by
  refine one_loop (p := 58) rfl (by kernel_rfl) (loopT_ok (by decide) fun vs H wr ex vs' H' w hv ha hh => ?_)
  split at hv
  · rename_i n sh m i cs S
    obtain ⟨hc, hv2⟩ := Tr.br_no hv
    clear hv
    simp only [Bool.and_eq_true, decide_eq_true_eq] at hc
    obtain ⟨hm, rfl⟩ := hc
    cases hv2
    have hmax : sh.length ≤ maxInt := by simp only [okAVs, okAV] at ha; exact ha.2.1.1
    refine ⟨sh.length + 1, fun k => ?_⟩
    have := fold_loop (F := fun N i (n : Int) => LC PR (cfE (P := PR) (A := A) []) cfgM lfFw n_law_few 0 58 [3, 32, 33, 34] [3] N [.int .i64 n, .slice (.slice (.int .i64)) sh .view, .int .i64 m, .int .i64 i] ([.cells cs] :: S) wr k)
      (step := fwStep) (E := fun n => k (.exit 0) [.int .i64 n] ([.cells cs] :: S) wr) hm hmax (fun N i x => by kernel_rfl) sh.length 0 n (by omega)
    rw [List.drop_zero, fw_fold] at this
    exact this
  · cases hv
def few0 (m : Msg) : Int := IntKind.i64.wrap (IntKind.i64.wrap (IntKind.i64.wrap (IntKind.i64.wrap ((m.rt.length : Int) + (m.rd.length : Int)) + (m.e.2.2.1.length : Int)) + (m.cs.length : Int)) + (m.ch.length : Int))
def fewB (m : Msg) : Bool := decide (fewN m.ch (few0 m) ≤ 5000)
theorem few_ok : Con PR A n_law_few (pureC (msgF (fun _ => true) fun m => .bool (fewB m))) := by
  refine msg_con (cfg := cfgM) (lf := lfFw) [] (by kernel_rfl) (by kernel_rfl) fw_loops fun m ha hc S => ?_
  have h : body PR (cfE (P := PR) (A := A) []) cfgM lfFw n_law_few [msgA m] S some = (bif decide ((m.ch.length : Int) = (m.ch.length : Int)) && true then some (.bool (fewB m), [], S) else none) := by kernel_rfl
  rw [h, decide_eq_true rfl]; rfl
def fewE : Ent PR A := ⟨n_law_few, _, few_ok⟩
end Go.Crc

/- A message that is read as it was. Conditions: none. A text of this seat's numbers. -/
set_option linter.unusedVariables false
set_option linter.unusedSimpArgs false
set_option maxRecDepth 100000
namespace Go.Crc
open Go.Vm Go.Pack Go.Rec
theorem alive_body (S : Stack) : body PR (cfE [meE, mdeE, msameE]) cfgM lf0 n_law_alive [] S some = some (.bool true, [], S) := by kernel_rfl
def alF : List AV → Tr AV
  | [] => .yes (.bool true)
  | _ => .no
theorem alive_ok : Con PR A n_law_alive (pureC alF) := by
  refine pure_con0 (cfg := cfgM) [meE, mdeE, msameE] mixed (by kernel_rfl) (by kernel_rfl) (by kernel_rfl) fun args v hv ha S => ?_
  unfold alF at hv
  split at hv
  · cases hv; exact alive_body S
  · cases hv
def aliveE : Ent PR A := ⟨n_law_alive, _, alive_ok⟩
end Go.Crc

/- The laws of messages. Conditions: none. A text of this seat's numbers. -/
set_option linter.unusedVariables false
set_option linter.unusedSimpArgs false
set_option maxRecDepth 100000
namespace Go.Crc
open Go.Vm Go.Pack Go.Rec
noncomputable def MM : List (Ent PR A) := [meE, mreE, mrightE, mrrE, mdeE, mderE, msamerE, msameE, aliveE, fewE, ownE, plainE]
theorem msg_writes (m : Msg) : body PR (cfE MM) cfgM lf0 n_law_MessageWrites [msgA m] [] some = some (.bool true, [], []) := by
  have h : body PR (cfE MM) cfgM lf0 n_law_MessageWrites [msgA m] [] some =
    (bif !fewB m then some (.bool true, [], []) else bif msgB m == msgB m then bif msgE m == msgE m then some (.bool (rightM m == rightM m), [], []) else some (.bool false, [], []) else some (.bool false, [], [])) := by kernel_rfl
  rw [h, beq_self_eq_true, beq_self_eq_true, beq_self_eq_true]
  cases fewB m <;> rfl
theorem msg_reads (b : List Int) : body PR (cfE MM) cfgM lf0 n_law_MessageReads [.slice (.int .u8) b .view] [] some = some (.bool true, [], []) := by
  have h : body PR (cfE MM) cfgM lf0 n_law_MessageReads [.slice (.int .u8) b .view] [] some =
    (bif decide ((b.length : Int) > 20000) then some (.bool true, [], []) else bif decide (b.length ≤ 140737488355328) then bif decide (b.length ≤ 140737488355328) then bif sameM (mD b) (mD b) then some (.bool (mE b == mE b), [], []) else some (.bool false, [], []) else none else none) := by kernel_rfl
  rw [h, beq_self_eq_true, sameM_refl]
  by_cases hl : (b.length : Int) > 20000
  · rw [decide_eq_true hl]; rfl
  · rw [decide_eq_false hl, decide_eq_true (show b.length ≤ 140737488355328 by omega)]; rfl
end Go.Crc

/- Laws of messages: kinds, lengths. Conditions: none. A text of this seat's numbers. -/
set_option linter.unusedVariables false
set_option linter.unusedSimpArgs false
set_option maxRecDepth 100000
namespace Go.Crc
open Go.Vm Go.Pack Go.Rec
theorem msgE_zero (x : Msg) : (msgE x == 0) = rightM x := by unfold msgE; cases rightM x <;> rfl
theorem right_rd {m : Msg} (h : rightM m = true) : m.rd.length ≤ 2000 := by
  by_cases hk : m.k = 1
  · have := rightR_iff.1 ((right_p h).recd hk); omega
  · have hb := right_bare h
    have e1 : (m.k == 1) = false := by rw [beq_eq_false_iff_ne]; exact hk
    have hr : m.rd = (bareM m).rd := congrArg Msg.rd hb
    unfold bareM bare0 at hr
    rw [e1] at hr
    revert hr
    cases m.k == 2 <;> cases m.k == 3 <;> cases (m.k == 4 || m.k == 6) <;> cases m.k == 8 <;> cases m.k == 9 <;> cases m.k == 7 <;> cases m.k == 10 <;> cases m.ol == 0 <;> (intro hr; simp only [cond_true, cond_false] at hr; rw [hr]; simp)
def kq (n : Int) : Int := (IntKind.i64.wrap (n.tmod 4 + 4)).tmod 4
def kR (x : Msg) : Option Res := some (.bool ((msgE x == 0) == rightM x), [], [])
theorem kR_eq (x : Msg) : kR x = some (.bool true, [], []) := by unfold kR; rw [msgE_zero, beq_self_eq_true]
theorem msg_kinds (m : Msg) (n : Int) : body PR (cfE MM) cfgM lf0 n_law_MessageKinds [msgA m, .int .i64 n] [] some = some (.bool true, [], []) := by
  have h : body PR (cfE MM) cfgM lf0 n_law_MessageKinds [msgA m, .int .i64 n] [] some =
    (bif !fewB m then some (.bool true, [], []) else bif !rightM m then some (.bool true, [], []) else
     bif kq n == 0 then kR { m with is := true } else bif kq n == 1 then kR { m with ol := 1 }
     else bif kq n == 2 then (bif decide (m.rd.length + 1 ≤ 9223372036854775807) then kR { m with rd := m.rd ++ [120] } else none)
     else bif kq n == 3 then kR { m with e := (IntKind.i64.wrap (m.e.1 + 1), m.e.2) } else kR m) := by kernel_rfl
  rw [h]
  simp only [kR_eq]
  cases hr : rightM m with
  | false => cases fewB m <;> rfl
  | true =>
    have := right_rd hr
    have hd : decide (m.rd.length + 1 ≤ 9223372036854775807) = true := decide_eq_true (by omega)
    rw [hd]
    cases fewB m <;> cases kq n == 0 <;> cases kq n == 1 <;> cases kq n == 2 <;> cases kq n == 3 <;> rfl
/-! ### Long -/
def lgR (m x : Msg) : Option Res :=
  bif msgE m != 0 then some (.bool true, [], []) else bif msgE x != 0 then some (.bool true, [], []) else bif x.k == m.k then some (.bool true, [], []) else some (.bool (msgB m != msgB x), [], [])
def lgQ (m x : Msg) : Option Res := bif msgE x == 0 then (bif !rightM x then some (.bool false, [], []) else lgR m x) else lgR m x
theorem lgR_eq (m x : Msg) : lgR m x = some (.bool true, [], []) := by
  unfold lgR msgE
  cases h1 : rightM m with
  | false => rfl
  | true =>
  cases h2 : rightM x with
  | false => rfl
  | true =>
  cases h3 : x.k == m.k with
  | true => rfl
  | false =>
    have h4 : (msgB m != msgB x) = true := by
      rw [bne_iff_ne]
      intro h
      unfold msgB at h
      rw [h1, h2] at h
      simp only [cond_true] at h
      have k1 := (m_ok_back h1).2
      have k2 := (m_ok_back h2).2
      rw [h, k2] at k1
      rw [beq_eq_false_iff_ne] at h3
      exact h3 (by rw [k1])
    rw [h4]; rfl
theorem lgQ_eq (m x : Msg) : lgQ m x = some (.bool true, [], []) := by
  unfold lgQ
  rw [lgR_eq, msgE_zero]
  cases rightM x <;> rfl
theorem msg_long (m : Msg) (n : Int) : body PR (cfE MM) cfgM lf0 n_law_MessageLong [msgA m, .int .i64 n] [] some = some (.bool true, [], []) := by
  have h : body PR (cfE MM) cfgM lf0 n_law_MessageLong [msgA m, .int .i64 n] [] some =
    (bif !fewB m then some (.bool true, [], []) else
     bif msgE m == 0 then (bif decide (((msgB m).length : Int) > 2000) then some (.bool false, [], []) else lgQ m { m with k := n }) else lgQ m { m with k := n }) := by kernel_rfl
  rw [h, lgQ_eq, msgE_zero]
  have hl := msgT_len m
  cases h1 : rightM m with
  | false => cases fewB m <;> rfl
  | true =>
    rw [decide_eq_false (show ¬ (((msgB m).length : Int) > 2000) by unfold msgB; rw [h1, cond_true, crcPut_len]; omega)]
    cases fewB m <;> rfl
end Go.Crc
