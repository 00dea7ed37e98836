/- Contracts of functions of this program. Conditions: none. -/
import Derived.Test.YtjaiihcljcnfnaaWf
import Derived.Test.YtjaiihcljcnfnaaVp
set_option linter.unusedVariables false
set_option linter.unusedSimpArgs false
/- Entries: which may be, how they are written, which are the same; by the program and by the document. Conditions: none. A text of this seat's numbers. -/
set_option linter.unusedVariables false
set_option linter.unusedSimpArgs false
set_option maxRecDepth 100000
namespace Go.Crc
open Go.Vm Go.Pack Go.Rec
def entA (n k : Int) (v : List Int) (t te p : Int) : AV := .agg [.int .i64 n, .int .i64 k, .slice (.int .i64) v .view, .int .i64 t, .int .i64 te, .int .i64 p]
def entOb (n k : Int) (v : List Int) (t te p : Int) : Ob := .cells [.int .i64 n, .int .i64 k, .slice (.int .i64) v .view, .int .i64 t, .int .i64 te, .int .i64 p]
def wiF : List AV → Tr AV
  | [.int .i64 a, .int .i64 b, .int .i64 c] => .yes (.bool (wiB a b c))
  | _ => .no
theorem wi_ok : Con PR A n_entry_within (pureC wiF) := by
  refine pure_con0 (cfg := cfgI) [] mixed (by kernel_rfl) (by kernel_rfl) (by kernel_rfl) fun args v hv ha S => ?_
  unfold wiF at hv
  split at hv
  · rename_i a b c
    cases hv
    have h : body PR (cfE (P := PR) (A := A) []) cfgI lf0 n_entry_within [.int .i64 a, .int .i64 b, .int .i64 c] S some = (bif decide (a ≥ b) then some (.bool (decide (a ≤ c)), [], S) else some (.bool false, [], S)) := by kernel_rfl
    rw [h]
    unfold wiB
    by_cases h0 : b ≤ a
    · rw [decide_eq_true (show a ≥ b from h0)]; rfl
    · rw [decide_eq_false (show ¬ a ≥ b from h0)]; rfl
  · cases hv
def wiE : Ent PR A := ⟨n_entry_within, _, wi_ok⟩
def erF : List AV → Tr AV
  | [.agg [.int .i64 n, .int .i64 k, .slice (.int .i64) v .view, .int .i64 t, .int .i64 te, .int .i64 p]] => .yes (.bool (entR n k v t te p))
  | _ => .no
theorem len0 {v : List Int} : ((v.length : Int) == 0) = decide (v.length = 0) := by
  by_cases h : v.length = 0
  · simp [h]
  · simp [h]
theorem er_ok : Con PR A n_entry_Right (pureC erF) := by
  refine pure_con0 (cfg := cfgI) [wiE, vrE] mixed (by kernel_rfl) (by kernel_rfl) (by kernel_rfl) fun args v hv ha S => ?_
  unfold erF at hv
  split at hv
  · rename_i n k v t te p
    cases hv
    have h : body PR (cfE [wiE, vrE]) cfgI lf0 n_entry_Right [entA n k v t te p] S some =
      (bif !wiB n 1 1099511627776 then some (AV.bool false, [], S)
      else bif k == 1 then
        bif vecR v then bif t == 0 then some (AV.bool (te == 0 && (p == 0 && true)), [], S) else some (AV.bool false, [], S) else some (AV.bool false, [], S)
      else bif k == 2 then
        bif (v.length : Int) == 0 then bif wiB t 0 1073741824 then bif wiB te 1 64 then some (AV.bool (wiB p 0 1099511627776), [], S) else some (AV.bool false, [], S)
          else some (AV.bool false, [], S) else some (AV.bool false, [], S)
      else some (AV.bool false, [], S)) := by kernel_rfl
    refine h.trans ?_
    unfold entR
    rw [len0]
    cases wiB n 1 1099511627776 with
    | false => rfl
    | true =>
      cases k == 1 with
      | true => cases vecR v <;> cases t == 0 <;> cases te == 0 <;> cases p == 0 <;> rfl
      | false => cases k == 2 <;> cases decide (v.length = 0) <;> cases wiB t 0 1073741824 <;> cases wiB te 1 64 <;> cases wiB p 0 1099511627776 <;> rfl
  · cases hv
def erE : Ent PR A := ⟨n_entry_Right, _, er_ok⟩
/-! ### Written -/
def eencV (n k : Int) (v : List Int) (t te p : Int) (lv : Lv) : AV := .tuple [.slice (.int .u8) (entB n k v t te p) lv, .int .i64 (entE n k v t te p)]
def eencF (lv : Lv) : List AV → Tr AV
  | [.agg [.int .i64 n, .int .i64 k, .slice (.int .i64) v .view, .int .i64 t, .int .i64 te, .int .i64 p]] => .yes (eencV n k v t te p lv)
  | _ => .no
def cfgEt : Cfg := cfgOf [(n_pack_Num, [0]), (n_pack_Text, [0])] [n_pack_Num, n_pack_Text, n_crc_New, n_crc_Table_Put, n_pack_NewReader, n_entry_Encode] []
theorem ok2 {a : Int} (h : 0 ≤ a ∧ a ≤ 1099511627776) : okN a = true := okN_iff'.2 ⟨h.1, by simp only [top]; omega⟩
theorem eenc_ok : Con PR A n_entry_Encode (pureC (eencF .own)) := by
  refine pure_con0 (cfg := cfgEt) [erE, pnumE, ptextE, vencE, newE, putE] mixed (by kernel_rfl) (by kernel_rfl) (by kernel_rfl) fun args v hv ha S => ?_
  unfold eencF at hv
  split at hv
  · rename_i n k v t te p
    cases hv
    have h : body PR (cfE [erE, pnumE, ptextE, vencE, newE, putE]) cfgEt lf0 n_entry_Encode [entA n k v t te p] S some =
      (bif !entR n k v t te p then some (AV.tuple [AV.slice (.int .u8) [] .own, AV.int .i64 50], [], S)
      else bif k == 1 then
        bif decide ((bif okAll [n, k] then [] ++ nums [n, k] else []).length ≤ 100000000) then
        bif decide ((bif decide (((bif vecR v then vecT v else []).length : Int) > 65536) then bif okAll [n, k] then [] ++ nums [n, k] else [] else (bif okAll [n, k] then [] ++ nums [n, k] else []) ++ num ((bif vecR v then vecT v else []).length : Int) ++ bif vecR v then vecT v else []).length + 4 ≤ 140737488355328) then
          some (AV.tuple [AV.slice (.int .u8) (crcPut (bif decide (((bif vecR v then vecT v else []).length : Int) > 65536) then bif okAll [n, k] then [] ++ nums [n, k] else [] else (bif okAll [n, k] then [] ++ nums [n, k] else []) ++ num ((bif vecR v then vecT v else []).length : Int) ++ bif vecR v then vecT v else [])) .own, AV.int .i64 0], [], S)
        else none else none
      else
        bif decide ((bif okAll [n, k] then [] ++ nums [n, k] else []).length + 10 * [t, te, p].length ≤ 140737488355328) then
        bif decide ((bif okAll [t, te, p] then (bif okAll [n, k] then [] ++ nums [n, k] else []) ++ nums [t, te, p] else bif okAll [n, k] then [] ++ nums [n, k] else []).length + 4 ≤ 140737488355328) then
          some (AV.tuple [AV.slice (.int .u8) (crcPut (bif okAll [t, te, p] then (bif okAll [n, k] then [] ++ nums [n, k] else []) ++ nums [t, te, p] else bif okAll [n, k] then [] ++ nums [n, k] else [])) .own, AV.int .i64 0], [], S)
        else none else none) := by kernel_rfl
    refine h.trans ?_
    unfold eencV entB entE
    cases hr : entR n k v t te p with
    | false => rfl
    | true =>
      obtain ⟨hn, hk⟩ := entR_n hr
      have k1 : okAll [n, k] = true := by
        simp only [okAll, ok2 (show 0 ≤ n ∧ n ≤ 1099511627776 by omega), ok2 (show 0 ≤ k ∧ k ≤ 1099511627776 by omega)]; rfl
      have l1 := nums_len [n, k]
      simp only [List.length_cons, List.length_nil] at l1
      have lt := entT_len hr
      by_cases h1 : k = 1
      · obtain ⟨_, hv2, _⟩ := entR_one hr h1
        have lv := vecT_len (vecR_iff.1 hv2).2.1
        have hk1 : (k == 1) = true := by simpa using h1
        have e : ([] ++ nums [n, k]) ++ num ((vecT v).length : Int) ++ vecT v = entT n k v t te p := by
          unfold entT
          rw [hk1]
          simp only [nums, List.nil_append, List.append_nil, List.append_assoc, cond_true]
        rw [k1, hv2, hk1]
        simp only [cond_true, Bool.not_true, cond_false]
        simp only [show decide (((vecT v).length : Int) > 65536) = false from decide_eq_false (by omega), cond_false]
        rw [e, cond_eq (decide_eq_true (by rw [List.length_append, List.length_nil]; omega)), cond_eq (decide_eq_true (by omega))]
      · obtain ⟨_, h2, _, h4, h5, h6⟩ := entR_two hr h1
        have hk1 : (k == 1) = false := by simpa using h1
        have k2 : okAll [t, te, p] = true := by
          simp only [okAll, ok2 (show 0 ≤ t ∧ t ≤ 1099511627776 by omega), ok2 (show 0 ≤ te ∧ te ≤ 1099511627776 by omega), ok2 (show 0 ≤ p ∧ p ≤ 1099511627776 by omega)]; rfl
        have e : ([] ++ nums [n, k]) ++ nums [t, te, p] = entT n k v t te p := by
          unfold entT
          rw [hk1]
          simp only [nums, List.nil_append, List.append_nil, List.append_assoc, cond_false]
        rw [k1, k2, hk1]
        simp only [cond_true, Bool.not_true, cond_false]
        rw [cond_eq (decide_eq_true (by simp only [List.length_append, List.length_nil, List.length_cons]; omega)), cond_eq (decide_eq_true (by rw [e]; omega)), e]
  · cases hv
def eencE : Ent PR A := ⟨n_entry_Encode, _, eenc_ok⟩
theorem numS_of {a : Int} (h : 0 ≤ a ∧ a ≤ 1099511627776) : numS a = num a := by unfold numS; rw [ok2 h]; rfl
/-! ### Same -/
def esF : List AV → Tr AV
  | [.agg [.int .i64 n, .int .i64 k, .slice (.int .i64) v .view, .int .i64 t, .int .i64 te, .int .i64 p], .agg [.int .i64 n', .int .i64 k', .slice (.int .i64) v' .view, .int .i64 t', .int .i64 te', .int .i64 p']] => .yes (.bool (esameB n k v t te p n' k' v' t' te' p'))
  | _ => .no
theorem es_ok : Con PR A n_entry_Same (pureC esF) := by
  refine pure_con0 (cfg := cfgEt) [seE] mixed (by kernel_rfl) (by kernel_rfl) (by kernel_rfl) fun args v hv ha S => ?_
  unfold esF at hv
  split at hv
  · rename_i n k v t te p n' k' v' t' te' p'
    cases hv
    have h : body PR (cfE [seE]) cfgEt lf0 n_entry_Same [entA n k v t te p, entA n' k' v' t' te' p'] S some =
      (bif n == n' then bif k == k' then bif v == v' then bif t == t' then some (AV.bool (te == te' && (p == p' && true)), [], S) else some (AV.bool false, [], S)
        else some (AV.bool false, [], S) else some (AV.bool false, [], S) else some (AV.bool false, [], S)) := by kernel_rfl
    refine h.trans ?_
    unfold esameB
    cases n == n' <;> cases k == k' <;> cases v == v' <;> cases t == t' <;> cases te == te' <;> cases p == p' <;> rfl
  · cases hv
def esE : Ent PR A := ⟨n_entry_Same, _, es_ok⟩
theorem esr_ok : Con PR A n_ref05_Same (pureC esF) := by
  refine pure_con0 (cfg := cfgEt) [reE] mixed (by kernel_rfl) (by kernel_rfl) (by kernel_rfl) fun args v hv ha S => ?_
  unfold esF at hv
  split at hv
  · rename_i n k v t te p n' k' v' t' te' p'
    cases hv
    have h : body PR (cfE [reE]) cfgEt lf0 n_ref05_Same [entA n k v t te p, entA n' k' v' t' te' p'] S some =
      (bif n == n' then bif k == k' then bif t == t' then bif te == te' && (p == p' && true) then some (AV.bool (v == v'), [], S) else some (AV.bool false, [], S)
        else some (AV.bool false, [], S) else some (AV.bool false, [], S) else some (AV.bool false, [], S)) := by kernel_rfl
    refine h.trans ?_
    unfold esameB
    cases n == n' <;> cases k == k' <;> cases v == v' <;> cases t == t' <;> cases te == te' <;> cases p == p' <;> rfl
  · cases hv
def esrE : Ent PR A := ⟨n_ref05_Same, _, esr_ok⟩
end Go.Crc

/- Entries are read, by the program and by the document. Conditions: none. A text of this seat's numbers. -/
set_option linter.unusedVariables false
set_option linter.unusedSimpArgs false
set_option maxRecDepth 100000
namespace Go.Crc
open Go.Vm Go.Pack Go.Rec
def enV (n k : Int) (v : List Int) (t te p : Int) (e : Int) : AV := .tuple [entA n k v t te p, .int .i64 e]
def enVx (x : En) (e : Int) : AV := enV x.1 x.2.1 x.2.2.1 x.2.2.2.1 x.2.2.2.2.1 x.2.2.2.2.2 e
def edecF : List AV → Tr AV
  | [.slice (.int .u8) b .view] => .br (decide (b.length ≤ 140737488355328)) (.yes (enVx (pD b) (pE b))) .no
  | _ => .no
theorem cutB_len (b : List Int) : (cutB b).length ≤ b.length := by
  unfold cutB
  cases crcOK b with
  | true => simp only [cond_true, List.length_take]; omega
  | false => simp
theorem edec_ok : Con PR A n_entry_Decode (pureC edecF) := by
  refine pure_con0 (cfg := cfgEt) [newE, cutE, newReaderE, numE, textE, endE, erE, vdecE] mixed (by kernel_rfl) (by kernel_rfl) (by kernel_rfl) fun args v hv ha S => ?_
  unfold edecF at hv
  split at hv
  · rename_i b
    obtain ⟨h1, hv2⟩ := Tr.br_no hv
    cases hv2
    simp only [decide_eq_true_eq] at h1
    have h : body PR (cfE [newE, cutE, newReaderE, numE, textE, endE, erE, vdecE]) cfgEt lf0 n_entry_Decode [.slice (.int .u8) b .view] S some =
      (bif decide (b.length ≤ 140737488355328) then bif !crcOK b then some (enV 0 0 [] 0 0 0 51, [], S)
      else bif decide ((cutB b).length ≤ 140737488355328) then
        bif (r2 1099511627776 2 (cutB b)).2 == 1 then
          bif decide ((rx 1099511627776 2 200 (cutB b)).2.length ≤ 140737488355328) then
            bif endR (rx 1099511627776 2 200 (cutB b)).1 != 0 then some (enV 0 0 [] 0 0 0 50, [], S)
            else bif !entR (r1 1099511627776 (cutB b)).2 (r2 1099511627776 2 (cutB b)).2 (vdV (rx 1099511627776 2 200 (cutB b)).2) 0 0 0 then some (enV 0 0 [] 0 0 0 50, [], S)
            else some (enV (r1 1099511627776 (cutB b)).2 (r2 1099511627776 2 (cutB b)).2 (vdV (rx 1099511627776 2 200 (cutB b)).2) 0 0 0 0, [], S)
          else none
        else
          bif endR (r5 1099511627776 2 1073741824 64 1099511627776 (cutB b)).1 != 0 then some (enV 0 0 [] 0 0 0 50, [], S)
          else bif !entR (r1 1099511627776 (cutB b)).2 (r2 1099511627776 2 (cutB b)).2 [] (r3 1099511627776 2 1073741824 (cutB b)).2 (r4 1099511627776 2 1073741824 64 (cutB b)).2 (r5 1099511627776 2 1073741824 64 1099511627776 (cutB b)).2 then some (enV 0 0 [] 0 0 0 50, [], S)
          else some (enV (r1 1099511627776 (cutB b)).2 (r2 1099511627776 2 (cutB b)).2 [] (r3 1099511627776 2 1073741824 (cutB b)).2 (r4 1099511627776 2 1073741824 64 (cutB b)).2 (r5 1099511627776 2 1073741824 64 1099511627776 (cutB b)).2 0, [], S)
      else none else none) := by kernel_rfl
    refine h.trans ?_
    have hl := cutB_len b
    rw [cond_eq (decide_eq_true h1), cond_eq (decide_eq_true (show (cutB b).length ≤ 140737488355328 by omega))]
    have ha : dA b = cutB b := rfl
    unfold pD pE pOK pGood enR
    rw [ha]
    generalize cutB b = a
    have hx : (rx 1099511627776 2 200 a).2.length ≤ 140737488355328 := by
      have : ((rx 1099511627776 2 200 a).2.length : Int) ≤ 200 := text_len' _ (by omega)
      omega
    cases crcOK b with
    | false => rfl
    | true =>
      unfold pAt pEnd entAt entEnd
      cases hk : ((r2 1099511627776 2 a).2 == 1) with
      | true =>
        simp only [cond_true, Bool.not_true, cond_false, Bool.true_and]
        rw [cond_eq (decide_eq_true hx)]
        cases (endR (rx 1099511627776 2 200 a).1 != 0) with
        | true => rfl
        | false => cases entR (r1 1099511627776 a).2 (r2 1099511627776 2 a).2 (vdV (rx 1099511627776 2 200 a).2) 0 0 0 <;> rfl
      | false =>
        simp only [cond_true, Bool.not_true, cond_false, Bool.true_and]
        cases (endR (r5 1099511627776 2 1073741824 64 1099511627776 a).1 != 0) with
        | true => rfl
        | false => cases entR (r1 1099511627776 a).2 (r2 1099511627776 2 a).2 [] (r3 1099511627776 2 1073741824 a).2 (r4 1099511627776 2 1073741824 64 a).2 (r5 1099511627776 2 1073741824 64 1099511627776 a).2 <;> rfl
  · cases hv
def edecE : Ent PR A := ⟨n_entry_Decode, _, edec_ok⟩
abbrev T62 : Int := 4611686018427387904
def edecrF : List AV → Tr AV
  | [.slice (.int .u8) b .view] => .br (decide (b.length ≤ 140737488355328)) (.yes (enVx (rD b) (rE b))) .no
  | _ => .no
end Go.Crc
