/- Contracts of functions of this program. Conditions: none. -/
import Derived.Test.YtjaiihcljcnfnaaWj
import Derived.Test.YtjaiihcljcnfnaaVp
import Derived.Test.YtjaiihcljcnfnaaWk
import Derived.Test.YtjaiihcljcnfnaaWl
import Derived.Test.YtjaiihcljcnfnaaWb
set_option linter.unusedVariables false
set_option linter.unusedSimpArgs false
/- What the laws of messages use: few, own, plain. Conditions: none. A text of this seat's numbers. -/
set_option linter.unusedVariables false
set_option linter.unusedSimpArgs false
set_option maxRecDepth 100000
namespace Go.Crc
open Go.Vm Go.Pack Go.Rec
theorem own_ok : Con PR A n_law_own (pureC (msgF0 msgA)) := by
  refine msg_con0 (cfg := cfgM) [] (by kernel_rfl) (by kernel_rfl) (by kernel_rfl) fun m S => ?_
  have h : body PR (cfE (P := PR) (A := A) []) cfgM lf0 n_law_own [msgA m] S some = some (msgA m, [], S) := by kernel_rfl
  exact h
def ownE : Ent PR A := ⟨n_law_own, _, own_ok⟩
theorem plain_ok : Con PR A n_law_plain (pureC (msgF0 msgA)) := by
  refine msg_con0 (cfg := cfgM) [] (by kernel_rfl) (by kernel_rfl) (by kernel_rfl) fun m S => ?_
  have h : body PR (cfE (P := PR) (A := A) []) cfgM lf0 n_law_plain [msgA m] S some = some (msgA m, [], S) := by kernel_rfl
  exact h
def plainE : Ent PR A := ⟨n_law_plain, _, plain_ok⟩
/-! ### few -/
def fewN : List (List Int) → Int → Int
  | [], n => n
  | x :: r, n => fewN r (IntKind.i64.wrap (n + (x.length : Int)))
def lfFw : Nat → Option LoopSum := lfOf [(58, loopT [3, 32, 33, 34] [3] fun vs H => match vs, H with
  | [.int .i64 n, .slice (.slice (.int .i64)) sh .view, .int .i64 m, .int .i64 i], [.cells cs] :: S => .br (decide (m = sh.length) && decide (i = 0)) (.yes (.exit 0, [.int .i64 (fewN sh n)], [.cells cs] :: S, [])) .no
  | _, _ => .no)]
def fwStep (i : Int) (x : List Int) (n : Int) (k : Int → Option Res) : Option Res := k (IntKind.i64.wrap (n + (x.length : Int)))
theorem fw_fold (E : Int → Option Res) : ∀ (sh : List (List Int)) (j : Nat) (n : Int), foldK fwStep E j sh n = E (fewN sh n)
  | [], j, n => rfl
  | x :: r, j, n => by
    rw [show foldK fwStep E j (x :: r) n = foldK fwStep E (j + 1) r (IntKind.i64.wrap (n + (x.length : Int))) from rfl, fw_fold E r]; rfl
theorem fw_loops : ∀ x ∈ funLoops PR n_law_few, ∀ L, lfFw x.1 = some L → LoopOK (ntm PR n_law_few) (fun fr H wr k => code PR (cfE (P := PR) (A := A) []) cfgM lfFw (cfgM.live n_law_few) x.2 (2 * x.1) fr H wr k) L := by
  refine one_loop (p := 58) rfl (by kernel_rfl) (loopT_ok (by decide) fun vs H wr ex vs' H' w hv ha hh => ?_)
  split at hv
  · rename_i n sh m i cs S
    obtain ⟨hc, hv2⟩ := Tr.br_no hv
    clear hv
    simp only [Bool.and_eq_true, decide_eq_true_eq] at hc
    obtain ⟨hm, rfl⟩ := hc
    cases hv2
    have hmax : sh.length ≤ maxInt := by simp only [okAVs, okAV] at ha; exact ha.2.1.1
    refine ⟨sh.length + 1, fun k => ?_⟩
    have := fold_loop (F := fun N i (n : Int) => LC PR (cfE (P := PR) (A := A) []) cfgM lfFw n_law_few 0 58 [3, 32, 33, 34] [3] N [.int .i64 n, .slice (.slice (.int .i64)) sh .view, .int .i64 m, .int .i64 i] ([.cells cs] :: S) wr k)
      (step := fwStep) (E := fun n => k (.exit 0) [.int .i64 n] ([.cells cs] :: S) wr) hm hmax (fun N i x => by kernel_rfl) sh.length 0 n (by omega)
    rw [List.drop_zero, fw_fold] at this
    exact this
  · cases hv
def few0 (m : Msg) : Int := IntKind.i64.wrap (IntKind.i64.wrap (IntKind.i64.wrap (IntKind.i64.wrap ((m.rt.length : Int) + (m.rd.length : Int)) + (m.e.2.2.1.length : Int)) + (m.cs.length : Int)) + (m.ch.length : Int))
def fewB (m : Msg) : Bool := decide (fewN m.ch (few0 m) ≤ 5000)
theorem few_ok : Con PR A n_law_few (pureC (msgF (fun _ => true) fun m => .bool (fewB m))) := by
  refine msg_con (cfg := cfgM) (lf := lfFw) [] (by kernel_rfl) (by kernel_rfl) fw_loops fun m ha hc S => ?_
  have h : body PR (cfE (P := PR) (A := A) []) cfgM lfFw n_law_few [msgA m] S some = (bif decide ((m.ch.length : Int) = (m.ch.length : Int)) && true then some (.bool (fewB m), [], S) else none) := by kernel_rfl
  rw [h, decide_eq_true rfl]; rfl
def fewE : Ent PR A := ⟨n_law_few, _, few_ok⟩
end Go.Crc

/- A message that is read as it was. Conditions: none. A text of this seat's numbers. -/
set_option linter.unusedVariables false
set_option linter.unusedSimpArgs false
set_option maxRecDepth 100000
namespace Go.Crc
open Go.Vm Go.Pack Go.Rec
theorem alive_body (S : Stack) : body PR (cfE [meE, mdeE, msameE]) cfgM lf0 n_law_alive [] S some = some (.bool true, [], S) := by kernel_rfl
def alF : List AV → Tr AV
  | [] => .yes (.bool true)
  | _ => .no
theorem alive_ok : Con PR A n_law_alive (pureC alF) := by
  refine pure_con0 (cfg := cfgM) [meE, mdeE, msameE] mixed (by kernel_rfl) (by kernel_rfl) (by kernel_rfl) fun args v hv ha S => ?_
  unfold alF at hv
  split at hv
  · cases hv; exact alive_body S
  · cases hv
def aliveE : Ent PR A := ⟨n_law_alive, _, alive_ok⟩
end Go.Crc

/- Messages that are turned in a byte, and messages that are the same. Conditions: none. A text of this seat's numbers. -/
set_option linter.unusedVariables false
set_option linter.unusedSimpArgs false
set_option maxRecDepth 100000
namespace Go.Crc
open Go.Vm Go.Pack Go.Rec
theorem nums1 (n : Int) : nums [n] = num n := by simp only [nums, List.append_nil]
theorem rec_bytes {c n : Int} {t d : List Int} (hd : isBytes d) : isBytes (textR' c n t d) := by
  unfold textR'
  exact app_bytes (num_bytes _) (app_bytes (num_bytes _) (app_bytes (num_bytes _) (app_bytes (nums_bytes _) (app_bytes (num_bytes _) hd))))
theorem rowT_bytes (l : List Int) : isBytes (rowT l) := app_bytes (num_bytes _) (nums_bytes l)
theorem rowsT_bytes : ∀ l : List (List Int), isBytes (rowsT l)
  | [] => nil_bytes
  | x :: r => app_bytes (rowT_bytes x) (rowsT_bytes r)
theorem termT_bytes (t : Int) (s : List Int) (h : List (List Int)) : isBytes (termT t s h) :=
  app_bytes (num_bytes _) (app_bytes (rowT_bytes s) (app_bytes (num_bytes _) (rowsT_bytes h)))
theorem sz_str {b : List Int} (h : Sz .str b) : isBytes b := fun x hx => by
  have := h.2 x hx
  simpa [Sz] using this
/-! ### The same -/
noncomputable def SS : List (Ent PR A) := [meE, msamerE, msameE, aliveE, fewE, ownE]
def saR (a b : Msg) : Option Res :=
  bif sameM a b == sameM a b then bif sameM a a then bif msgE a != 0 then some (.bool true, [], []) else bif msgE b != 0 then some (.bool true, [], []) else some (.bool ((msgB a == msgB b) == sameM a b), [], []) else some (.bool false, [], []) else some (.bool false, [], [])
theorem msgE_z (x : Msg) : (msgE x != 0) = !rightM x := by unfold msgE; cases rightM x <;> rfl
theorem saR_eq (a b : Msg) : saR a b = some (.bool true, [], []) := by
  unfold saR
  rw [beq_self_eq_true, sameM_refl, msgE_z, msgE_z]
  cases h1 : rightM a with
  | false => rfl
  | true =>
  cases h2 : rightM b with
  | false => rfl
  | true =>
    have : (msgB a == msgB b) = sameM a b := by
      rw [Bool.eq_iff_iff, beq_iff_eq, sameM_iff]
      constructor
      · intro h
        unfold msgB at h
        rw [h1, h2] at h
        simp only [cond_true] at h
        have k1 := (m_ok_back h1).2
        have k2 := (m_ok_back h2).2
        rw [h, k2] at k1
        exact k1.symm
      · rintro rfl; rfl
    rw [this, beq_self_eq_true]; rfl
theorem msg_same (a b : Msg) : body PR (cfE SS) cfgM lf0 n_law_MessageSame [msgA a, msgA b] [] some = some (.bool true, [], []) := by
  have h : body PR (cfE SS) cfgM lf0 n_law_MessageSame [msgA a, msgA b] [] some =
    (bif !fewB a then some (.bool true, [], []) else bif !fewB b then some (.bool true, [], []) else saR a b) := by kernel_rfl
  rw [h, saR_eq]
  cases fewB a <;> cases fewB b <;> rfl
/-! ### Back -/
def meMF : List AV → Tr AV
  | [.agg cs] => match msgOf cs with
    | some m => .br (rightM m) (.yes (.tuple [.slice (.int .u8) (crcPut (msgT m)) .mine, .int .i64 0])) (.yes (.tuple [.slice (.int .u8) [] .own, .int .i64 70]))
    | none => .no
  | _ => .no
theorem meM_ok : Con PR A n_message_Encode (pureC meMF) := by
  refine pure_con0 (cfg := withM cfgM) [mrightE, pnumE, encE', eencE, mtE, pbE, mvE, newE, putME] mixed (by kernel_rfl) (by kernel_rfl) (by kernel_rfl) fun args v hv ha S => ?_
  unfold meMF at hv
  split at hv
  · split at hv
    · rename_i m hm
      have := msgOf_some hm
      subst this
      have h : body PR (cfE [mrightE, pnumE, encE', eencE, mtE, pbE, mvE, newE, putME]) (withM cfgM) lf0 n_message_Encode [msgA m] S some =
        (bif !rightM m then some (.tuple [.slice (.int .u8) [] .own, .int .i64 70], [], S) else meT .mine m S) := by kernel_rfl
      refine h.trans ?_
      rcases Tr.br_or hv with ⟨hr, h4⟩ | ⟨hr, h4⟩
      · cases h4
        rw [hr, me_res .mine S hr]; rfl
      · cases h4
        rw [hr]; rfl
    · cases hv
  · cases hv
def meME : Ent PR A := ⟨n_message_Encode, _, meM_ok⟩
noncomputable def MB : List (Ent PR A) := [meME, aliveE, mdeE, msamerE, fewE, ownE, plainE]
def stB : List StoreAt := [⟨510, 38, 5, 7, 62, 63, 68, 69⟩]
theorem msgT_bytes {m : Msg} (h : rightM m = true) (hd : isBytes m.rd) : isBytes (msgT m) := by
  unfold msgT bodyT
  have tx : ∀ {s : List Int}, isBytes s → isBytes (txt s) := fun hs => app_bytes (num_bytes _) hs
  have bo : isBytes (boolT m.is) := fun x hx => by unfold boolT at hx; cases hm : m.is <;> rw [hm] at hx <;> simp at hx <;> omega
  have hrec : isBytes (recE m) := by
    unfold recE
    cases rightR m.rc m.rn m.rt m.rd with
    | false => exact nil_bytes
    | true => exact put_bytes (rec_bytes hd)
  have hent : isBytes (entEn m.e) := by
    unfold entEn entB
    cases entR m.e.1 m.e.2.1 m.e.2.2.1 m.e.2.2.2.1 m.e.2.2.2.2.1 m.e.2.2.2.2.2 with
    | false => exact nil_bytes
    | true => exact put_bytes (entT_bytes _ _ _ _ _ _)
  have hcon : isBytes (conEn m) := by
    unfold conEn termB
    cases termR m.ct m.cs m.ch with
    | false => exact nil_bytes
    | true => exact put_bytes (termT_bytes _ _ _)
  refine app_bytes (nums_bytes _) ?_
  cases m.k == 1 with
  | true => exact app_bytes (nums_bytes _) (tx hrec)
  | false =>
  cases m.k == 2 with
  | true => exact nums_bytes _
  | false =>
  cases m.k == 3 with
  | true => exact tx hent
  | false =>
  cases (m.k == 4 || m.k == 6) with
  | true => exact app_bytes (num_bytes _) bo
  | false =>
  cases m.k == 7 with
  | true => exact num_bytes _
  | false =>
  cases m.k == 10 with
  | true => exact app_bytes (num_bytes _) bo
  | false =>
  cases m.k == 8 with
  | true =>
    cases m.ol == 0 with
    | true => exact app_bytes (num_bytes _) (app_bytes (num_bytes _) nil_bytes)
    | false => exact app_bytes (num_bytes _) (app_bytes (num_bytes _) (tx hcon))
  | false =>
  cases m.k == 9 with
  | true => exact app_bytes (num_bytes _) (tx hcon)
  | false => exact nil_bytes
theorem msg_back_eq (m : Msg) (hd : isBytes m.rd) (at_ turn : Int) : bodyL PR (cfE MB) cfgM (fun _ => none) (estL PR (cfE MB) cfgM n_law_MessageBack (nthD (up.ups [msgA m, .int .i64 at_, .int .i64 turn])) [] stB) n_law_MessageBack [msgA m, .int .i64 at_, .int .i64 turn] = some (.bool true, [], []) := by
  have h : bodyL PR (cfE MB) cfgM (fun _ => none) (estL PR (cfE MB) cfgM n_law_MessageBack (nthD (up.ups [msgA m, .int .i64 at_, .int .i64 turn])) [] stB) n_law_MessageBack [msgA m, .int .i64 at_, .int .i64 turn] =
    (bif !fewB m then some (.bool true, [], []) else bif rightM m then bif decide ((crcPut (msgT m)).length ≤ 140737488355328) then
        bif mE (crcPut (msgT m)) != 0 then some (.bool false, [], [])
        else bif !sameM (mD (crcPut (msgT m))) m then some (.bool false, [], [])
        else bif decide (at_ < 0) then some (.bool true, [], []) else bif decide (at_ ≥ ((crcPut (msgT m)).length : Int)) then some (.bool true, [], [])
        else bif decide (turn < 1) then some (.bool true, [], []) else bif decide (turn > 255) then some (.bool true, [], [])
        else (at? (crcPut (msgT m)) at_).bind fun x => bif (decide (0 ≤ at_) && decide (at_ < ((crcPut (msgT m)).length : Int))) && true then
          bif decide ((setAt (crcPut (msgT m)) at_.toNat (bitop .xor .u8 x (IntKind.u8.wrap turn))).length ≤ 140737488355328) then
            some (.bool (mE (setAt (crcPut (msgT m)) at_.toNat (bitop .xor .u8 x (IntKind.u8.wrap turn))) == 70), [], []) else none else none
      else none
    else some (.bool true, [], [])) := by kernel_rfl
  rw [h]
  cases hf : fewB m with
  | false => rfl
  | true =>
  cases hr : rightM m with
  | false => rfl
  | true =>
    have lt := msgT_len m
    have hl : (crcPut (msgT m)).length = (msgT m).length + 4 := by unfold crcPut; rw [List.length_append]; rfl
    have hb : isBytes (crcPut (msgT m)) := put_bytes (msgT_bytes hr hd)
    obtain ⟨k1, k2⟩ := m_ok_back hr
    have hE : mE (crcPut (msgT m)) = 0 := by unfold mE; rw [k1]; rfl
    have hD : mD (crcPut (msgT m)) = m := by unfold mD; rw [k1]; exact k2
    rw [hE, hD, decide_eq_true (show (crcPut (msgT m)).length ≤ 140737488355328 by omega), sameM_refl]
    by_cases h1 : at_ < 0
    · rw [decide_eq_true h1]; rfl
    by_cases h2 : at_ ≥ ((crcPut (msgT m)).length : Int)
    · rw [decide_eq_false h1, decide_eq_true h2]; rfl
    by_cases h3 : turn < 1
    · rw [decide_eq_false h1, decide_eq_false h2, decide_eq_true h3]; rfl
    by_cases h4 : turn > 255
    · rw [decide_eq_false h1, decide_eq_false h2, decide_eq_false h3, decide_eq_true h4]; rfl
    rw [decide_eq_false h1, decide_eq_false h2, decide_eq_false h3, decide_eq_false h4]
    obtain ⟨x, hx⟩ : ∃ x, at? (crcPut (msgT m)) at_ = some x := by
      unfold at?
      rw [if_pos (by omega)]
      exact ⟨_, List.getElem?_eq_getElem (by omega)⟩
    have hoff := turn_off hb (crcOK_put) (by omega) hx (t := turn) (by omega)
    have he : mE (setAt (crcPut (msgT m)) at_.toNat (bitop .xor .u8 x (IntKind.u8.wrap turn))) = 70 := by
      unfold mE mOK; rw [hoff]; rfl
    have hsl : (setAt (crcPut (msgT m)) at_.toNat (bitop .xor .u8 x (IntKind.u8.wrap turn))).length = (crcPut (msgT m)).length := by rw [setAt_eq, List.length_set]
    simp only [hx, Option.bind_some, he, decide_eq_true (show 0 ≤ at_ by omega), decide_eq_true (show at_ < ((crcPut (msgT m)).length : Int) by omega), decide_eq_true (show (setAt (crcPut (msgT m)) at_.toNat (bitop .xor .u8 x (IntKind.u8.wrap turn))).length ≤ 140737488355328 by omega)]
    rfl
end Go.Crc
