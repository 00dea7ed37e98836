/- Contracts of functions of this program. Conditions: none. -/
import Derived.Test.YtdmjiibhfgieaaaGreatWf
import Derived.Test.YtdmjiibhfgieaaaGreatVp
import Derived.Test.YtdmjiibhfgieaaaGreatVg
set_option linter.unusedVariables false
set_option linter.unusedSimpArgs false
/- Entries: which may be, how they are written, which are the same; by the program and by the document. Conditions: none. A text of this seat's numbers. -/
set_option linter.unusedVariables false
set_option linter.unusedSimpArgs false
set_option maxRecDepth 100000
namespace Go.Crc
open Go.Vm Go.Pack Go.Rec
def entA (n k : Int) (v : List Int) (t te p : Int) : AV := .agg [.int .i64 n, .int .i64 k, .slice (.int .i64) v .view, .int .i64 t, .int .i64 te, .int .i64 p]
def entOb (n k : Int) (v : List Int) (t te p : Int) : Ob := .cells [.int .i64 n, .int .i64 k, .slice (.int .i64) v .view, .int .i64 t, .int .i64 te, .int .i64 p]
def wiF : List AV → Tr AV
  | [.int .i64 a, .int .i64 b, .int .i64 c] => .yes (.bool (wiB a b c))
  | _ => .no
theorem wi_ok : Con PR A n_entry_within (pureC wiF) := by
  refine pure_con0 (cfg := cfgI) [] mixed (by kernel_rfl) (by kernel_rfl) (by kernel_rfl) fun args v hv ha S => ?_
  unfold wiF at hv
  split at hv
  · rename_i a b c
    cases hv
    have h : body PR (cfE (P := PR) (A := A) []) cfgI lf0 n_entry_within [.int .i64 a, .int .i64 b, .int .i64 c] S some = (bif decide (a ≥ b) then some (.bool (decide (a ≤ c)), [], S) else some (.bool false, [], S)) := by kernel_rfl
    rw [h]
    unfold wiB
    by_cases h0 : b ≤ a
    · rw [decide_eq_true (show a ≥ b from h0)]; rfl
    · rw [decide_eq_false (show ¬ a ≥ b from h0)]; rfl
  · cases hv
def wiE : Ent PR A := ⟨n_entry_within, _, wi_ok⟩
def erF : List AV → Tr AV
  | [.agg [.int .i64 n, .int .i64 k, .slice (.int .i64) v .view, .int .i64 t, .int .i64 te, .int .i64 p]] => .yes (.bool (entR n k v t te p))
  | _ => .no
theorem len0 {v : List Int} : ((v.length : Int) == 0) = decide (v.length = 0) := by
  by_cases h : v.length = 0
  · simp [h]
  · simp [h]
theorem er_ok : Con PR A n_entry_Right (pureC erF) := by
  refine pure_con0 (cfg := cfgI) [wiE, vrE] mixed (by kernel_rfl) (by kernel_rfl) (by kernel_rfl) fun args v hv ha S => ?_
  unfold erF at hv
  split at hv
  · rename_i n k v t te p
    cases hv
    have h : body PR (cfE [wiE, vrE]) cfgI lf0 n_entry_Right [entA n k v t te p] S some =
      (bif !wiB n 1 1099511627776 then some (AV.bool false, [], S)
      else bif k == 1 then
        bif vecR v then bif t == 0 then some (AV.bool (te == 0 && (p == 0 && true)), [], S) else some (AV.bool false, [], S) else some (AV.bool false, [], S)
      else bif k == 2 then
        bif (v.length : Int) == 0 then bif wiB t 0 1073741824 then bif wiB te 1 64 then some (AV.bool (wiB p 0 1099511627776), [], S) else some (AV.bool false, [], S)
          else some (AV.bool false, [], S) else some (AV.bool false, [], S)
      else some (AV.bool false, [], S)) := by kernel_rfl
    refine h.trans ?_
    unfold entR
    rw [len0]
    cases wiB n 1 1099511627776 with
    | false => rfl
    | true =>
      cases k == 1 with
      | true => cases vecR v <;> cases t == 0 <;> cases te == 0 <;> cases p == 0 <;> rfl
      | false => cases k == 2 <;> cases decide (v.length = 0) <;> cases wiB t 0 1073741824 <;> cases wiB te 1 64 <;> cases wiB p 0 1099511627776 <;> rfl
  · cases hv
def erE : Ent PR A := ⟨n_entry_Right, _, er_ok⟩
theorem err_ok : Con PR A n_ref05_Right (pureC erF) := by
  refine pure_con0 (cfg := cfgI) [vrrE] mixed (by kernel_rfl) (by kernel_rfl) (by kernel_rfl) fun args v hv ha S => ?_
  unfold erF at hv
  split at hv
  · rename_i n k v t te p
    cases hv
    have h : body PR (cfE [vrrE]) cfgI lf0 n_ref05_Right [entA n k v t te p] S some =
      (bif decide (n < 1) then some (AV.bool false, [], S) else bif decide (n > 1099511627776) then some (AV.bool false, [], S)
      else bif k == 1 then
        bif vecR v then bif t == 0 then bif te == 0 then some (AV.bool (p == 0), [], S) else some (AV.bool false, [], S) else some (AV.bool false, [], S) else some (AV.bool false, [], S)
      else bif k != 2 then some (AV.bool false, [], S)
      else bif decide ((v.length : Int) > 0) then some (AV.bool false, [], S)
      else bif decide (t < 0) then some (AV.bool false, [], S)
      else bif decide (t > 1073741824) then some (AV.bool false, [], S)
      else bif decide (te ≥ 1) then bif decide (te ≤ 64) then bif decide (p ≥ 0) then some (AV.bool (decide (p ≤ 1099511627776)), [], S) else some (AV.bool false, [], S)
        else some (AV.bool false, [], S) else some (AV.bool false, [], S)) := by kernel_rfl
    refine h.trans ?_
    unfold entR
    have w : ∀ {a b c : Int}, wiB a b c = (!decide (a < b) && !decide (a > c)) := by
      intro a b c
      unfold wiB
      by_cases h1 : b ≤ a
      · rw [decide_eq_true h1, decide_eq_false (show ¬ a < b by omega)]
        by_cases h2 : a ≤ c
        · rw [decide_eq_true h2, decide_eq_false (show ¬ a > c by omega)]; rfl
        · rw [decide_eq_false h2, decide_eq_true (show a > c by omega)]; rfl
      · rw [decide_eq_false h1, decide_eq_true (show a < b by omega)]; rfl
    have z : decide (v.length = 0) = !decide ((v.length : Int) > 0) := by
      by_cases h1 : v.length = 0
      · rw [decide_eq_true h1, decide_eq_false (show ¬ (v.length : Int) > 0 by omega)]; rfl
      · rw [decide_eq_false h1, decide_eq_true (show (v.length : Int) > 0 by omega)]; rfl
    rw [w (a := n), w (a := t), z]
    unfold wiB
    cases decide (n < 1) with
    | true => rfl
    | false =>
      cases decide (n > 1099511627776) with
      | true => rfl
      | false =>
        cases k == 1 with
        | true => cases vecR v <;> cases t == 0 <;> cases te == 0 <;> cases p == 0 <;> rfl
        | false =>
          rw [bne]
          cases k == 2 with
          | false => rfl
          | true =>
            cases decide ((v.length : Int) > 0) with
            | true => rfl
            | false =>
              cases decide (t < 0) with
              | true => rfl
              | false =>
                cases decide (t > 1073741824) with
                | true => rfl
                | false =>
                  show _ = some (AV.bool ((decide (te ≥ 1) && decide (te ≤ 64)) && (decide (p ≥ 0) && decide (p ≤ 1099511627776))), [], S)
                  cases decide (te ≥ 1) <;> cases decide (te ≤ 64) <;> cases decide (p ≥ 0) <;> cases decide (p ≤ 1099511627776) <;> rfl
  · cases hv
def errE : Ent PR A := ⟨n_ref05_Right, _, err_ok⟩
def eencV (n k : Int) (v : List Int) (t te p : Int) (lv : Lv) : AV := .tuple [.slice (.int .u8) (entB n k v t te p) lv, .int .i64 (entE n k v t te p)]
def eencF (lv : Lv) : List AV → Tr AV
  | [.agg [.int .i64 n, .int .i64 k, .slice (.int .i64) v .view, .int .i64 t, .int .i64 te, .int .i64 p]] => .yes (eencV n k v t te p lv)
  | _ => .no
def cfgEt : Cfg := cfgOf [(n_pack_Num, [0]), (n_pack_Text, [0])] [n_pack_Num, n_pack_Text, n_crc_New, n_crc_Table_Put, n_pack_NewReader, n_entry_Encode] []
theorem ok2 {a : Int} (h : 0 ≤ a ∧ a ≤ 1099511627776) : okN a = true := okN_iff'.2 ⟨h.1, by simp only [top]; omega⟩
theorem eenc_ok : Con PR A n_entry_Encode (pureC (eencF .own)) := by
  refine pure_con0 (cfg := cfgEt) [erE, pnumE, ptextE, vencE, newE, putE] mixed (by kernel_rfl) (by kernel_rfl) (by kernel_rfl) fun args v hv ha S => ?_
  unfold eencF at hv
  split at hv
  · rename_i n k v t te p
    cases hv
    have h : body PR (cfE [erE, pnumE, ptextE, vencE, newE, putE]) cfgEt lf0 n_entry_Encode [entA n k v t te p] S some =
      (bif !entR n k v t te p then some (AV.tuple [AV.slice (.int .u8) [] .own, AV.int .i64 50], [], S)
      else bif k == 1 then
        bif decide ((bif okAll [n, k] then [] ++ nums [n, k] else []).length ≤ 100000000) then
        bif decide ((bif decide (((bif vecR v then vecT v else []).length : Int) > 65536) then bif okAll [n, k] then [] ++ nums [n, k] else [] else (bif okAll [n, k] then [] ++ nums [n, k] else []) ++ num ((bif vecR v then vecT v else []).length : Int) ++ bif vecR v then vecT v else []).length + 4 ≤ 140737488355328) then
          some (AV.tuple [AV.slice (.int .u8) (crcPut (bif decide (((bif vecR v then vecT v else []).length : Int) > 65536) then bif okAll [n, k] then [] ++ nums [n, k] else [] else (bif okAll [n, k] then [] ++ nums [n, k] else []) ++ num ((bif vecR v then vecT v else []).length : Int) ++ bif vecR v then vecT v else [])) .own, AV.int .i64 0], [], S)
        else none else none
      else
        bif decide ((bif okAll [n, k] then [] ++ nums [n, k] else []).length + 10 * [t, te, p].length ≤ 140737488355328) then
        bif decide ((bif okAll [t, te, p] then (bif okAll [n, k] then [] ++ nums [n, k] else []) ++ nums [t, te, p] else bif okAll [n, k] then [] ++ nums [n, k] else []).length + 4 ≤ 140737488355328) then
          some (AV.tuple [AV.slice (.int .u8) (crcPut (bif okAll [t, te, p] then (bif okAll [n, k] then [] ++ nums [n, k] else []) ++ nums [t, te, p] else bif okAll [n, k] then [] ++ nums [n, k] else [])) .own, AV.int .i64 0], [], S)
        else none else none) := by kernel_rfl
    refine h.trans ?_
    unfold eencV entB entE
    cases hr : entR n k v t te p with
    | false => rfl
    | true =>
      obtain ⟨hn, hk⟩ := entR_n hr
      have k1 : okAll [n, k] = true := by
        simp only [okAll, ok2 (show 0 ≤ n ∧ n ≤ 1099511627776 by omega), ok2 (show 0 ≤ k ∧ k ≤ 1099511627776 by omega)]; rfl
      have l1 := nums_len [n, k]
      simp only [List.length_cons, List.length_nil] at l1
      have lt := entT_len hr
      by_cases h1 : k = 1
      · obtain ⟨_, hv2, _⟩ := entR_one hr h1
        have lv := vecT_len (vecR_iff.1 hv2).2.1
        have hk1 : (k == 1) = true := by simpa using h1
        have e : ([] ++ nums [n, k]) ++ num ((vecT v).length : Int) ++ vecT v = entT n k v t te p := by
          unfold entT
          rw [hk1]
          simp only [nums, List.nil_append, List.append_nil, List.append_assoc, cond_true]
        rw [k1, hv2, hk1]
        simp only [cond_true, Bool.not_true, cond_false]
        simp only [show decide (((vecT v).length : Int) > 65536) = false from decide_eq_false (by omega), cond_false]
        rw [e, cond_eq (decide_eq_true (by rw [List.length_append, List.length_nil]; omega)), cond_eq (decide_eq_true (by omega))]
      · obtain ⟨_, h2, _, h4, h5, h6⟩ := entR_two hr h1
        have hk1 : (k == 1) = false := by simpa using h1
        have k2 : okAll [t, te, p] = true := by
          simp only [okAll, ok2 (show 0 ≤ t ∧ t ≤ 1099511627776 by omega), ok2 (show 0 ≤ te ∧ te ≤ 1099511627776 by omega), ok2 (show 0 ≤ p ∧ p ≤ 1099511627776 by omega)]; rfl
        have e : ([] ++ nums [n, k]) ++ nums [t, te, p] = entT n k v t te p := by
          unfold entT
          rw [hk1]
          simp only [nums, List.nil_append, List.append_nil, List.append_assoc, cond_false]
        rw [k1, k2, hk1]
        simp only [cond_true, Bool.not_true, cond_false]
        rw [cond_eq (decide_eq_true (by simp only [List.length_append, List.length_nil, List.length_cons]; omega)), cond_eq (decide_eq_true (by rw [e]; omega)), e]
  · cases hv
def eencE : Ent PR A := ⟨n_entry_Encode, _, eenc_ok⟩
def esF : List AV → Tr AV
  | [.agg [.int .i64 n, .int .i64 k, .slice (.int .i64) v .view, .int .i64 t, .int .i64 te, .int .i64 p], .agg [.int .i64 n', .int .i64 k', .slice (.int .i64) v' .view, .int .i64 t', .int .i64 te', .int .i64 p']] => .yes (.bool (esameB n k v t te p n' k' v' t' te' p'))
  | _ => .no
theorem es_ok : Con PR A n_entry_Same (pureC esF) := by
  refine pure_con0 (cfg := cfgEt) [seE] mixed (by kernel_rfl) (by kernel_rfl) (by kernel_rfl) fun args v hv ha S => ?_
  unfold esF at hv
  split at hv
  · rename_i n k v t te p n' k' v' t' te' p'
    cases hv
    have h : body PR (cfE [seE]) cfgEt lf0 n_entry_Same [entA n k v t te p, entA n' k' v' t' te' p'] S some =
      (bif n == n' then bif k == k' then bif v == v' then bif t == t' then some (AV.bool (te == te' && (p == p' && true)), [], S) else some (AV.bool false, [], S)
        else some (AV.bool false, [], S) else some (AV.bool false, [], S) else some (AV.bool false, [], S)) := by kernel_rfl
    refine h.trans ?_
    unfold esameB
    cases n == n' <;> cases k == k' <;> cases v == v' <;> cases t == t' <;> cases te == te' <;> cases p == p' <;> rfl
  · cases hv
def esE : Ent PR A := ⟨n_entry_Same, _, es_ok⟩
theorem esr_ok : Con PR A n_ref05_Same (pureC esF) := by
  refine pure_con0 (cfg := cfgEt) [reE] mixed (by kernel_rfl) (by kernel_rfl) (by kernel_rfl) fun args v hv ha S => ?_
  unfold esF at hv
  split at hv
  · rename_i n k v t te p n' k' v' t' te' p'
    cases hv
    have h : body PR (cfE [reE]) cfgEt lf0 n_ref05_Same [entA n k v t te p, entA n' k' v' t' te' p'] S some =
      (bif n == n' then bif k == k' then bif t == t' then bif te == te' && (p == p' && true) then some (AV.bool (v == v'), [], S) else some (AV.bool false, [], S)
        else some (AV.bool false, [], S) else some (AV.bool false, [], S) else some (AV.bool false, [], S)) := by kernel_rfl
    refine h.trans ?_
    unfold esameB
    cases n == n' <;> cases k == k' <;> cases v == v' <;> cases t == t' <;> cases te == te' <;> cases p == p' <;> rfl
  · cases hv
def esrE : Ent PR A := ⟨n_ref05_Same, _, esr_ok⟩
end Go.Crc
/- Entries are read, by the program and by the document. Conditions: none. A text of this seat's numbers. -/
set_option linter.unusedVariables false
set_option linter.unusedSimpArgs false
set_option maxRecDepth 100000
namespace Go.Crc
open Go.Vm Go.Pack Go.Rec
def enV (n k : Int) (v : List Int) (t te p : Int) (e : Int) : AV := .tuple [entA n k v t te p, .int .i64 e]
def enVx (x : En) (e : Int) : AV := enV x.1 x.2.1 x.2.2.1 x.2.2.2.1 x.2.2.2.2.1 x.2.2.2.2.2 e
def edecF : List AV → Tr AV
  | [.slice (.int .u8) b .view] => .br (decide (b.length ≤ 140737488355328)) (.yes (enVx (pD b) (pE b))) .no
  | _ => .no
theorem cutB_len (b : List Int) : (cutB b).length ≤ b.length := by
  unfold cutB
  cases crcOK b with
  | true => simp only [cond_true, List.length_take]; omega
  | false => simp
theorem edec_ok : Con PR A n_entry_Decode (pureC edecF) := by
  refine pure_con0 (cfg := cfgEt) [newE, cutE, newReaderE, numE, textE, endE, erE, vdecE] mixed (by kernel_rfl) (by kernel_rfl) (by kernel_rfl) fun args v hv ha S => ?_
  unfold edecF at hv
  split at hv
  · rename_i b
    obtain ⟨h1, hv2⟩ := Tr.br_no hv
    cases hv2
    simp only [decide_eq_true_eq] at h1
    have h : body PR (cfE [newE, cutE, newReaderE, numE, textE, endE, erE, vdecE]) cfgEt lf0 n_entry_Decode [.slice (.int .u8) b .view] S some =
      (bif decide (b.length ≤ 140737488355328) then bif !crcOK b then some (enV 0 0 [] 0 0 0 51, [], S)
      else bif decide ((cutB b).length ≤ 140737488355328) then
        bif (r2 1099511627776 2 (cutB b)).2 == 1 then
          bif decide ((rx 1099511627776 2 200 (cutB b)).2.length ≤ 140737488355328) then
            bif endR (rx 1099511627776 2 200 (cutB b)).1 != 0 then some (enV 0 0 [] 0 0 0 50, [], S)
            else bif !entR (r1 1099511627776 (cutB b)).2 (r2 1099511627776 2 (cutB b)).2 (vdV (rx 1099511627776 2 200 (cutB b)).2) 0 0 0 then some (enV 0 0 [] 0 0 0 50, [], S)
            else some (enV (r1 1099511627776 (cutB b)).2 (r2 1099511627776 2 (cutB b)).2 (vdV (rx 1099511627776 2 200 (cutB b)).2) 0 0 0 0, [], S)
          else none
        else
          bif endR (r5 1099511627776 2 1073741824 64 1099511627776 (cutB b)).1 != 0 then some (enV 0 0 [] 0 0 0 50, [], S)
          else bif !entR (r1 1099511627776 (cutB b)).2 (r2 1099511627776 2 (cutB b)).2 [] (r3 1099511627776 2 1073741824 (cutB b)).2 (r4 1099511627776 2 1073741824 64 (cutB b)).2 (r5 1099511627776 2 1073741824 64 1099511627776 (cutB b)).2 then some (enV 0 0 [] 0 0 0 50, [], S)
          else some (enV (r1 1099511627776 (cutB b)).2 (r2 1099511627776 2 (cutB b)).2 [] (r3 1099511627776 2 1073741824 (cutB b)).2 (r4 1099511627776 2 1073741824 64 (cutB b)).2 (r5 1099511627776 2 1073741824 64 1099511627776 (cutB b)).2 0, [], S)
      else none else none) := by kernel_rfl
    refine h.trans ?_
    have hl := cutB_len b
    rw [cond_eq (decide_eq_true h1), cond_eq (decide_eq_true (show (cutB b).length ≤ 140737488355328 by omega))]
    have ha : dA b = cutB b := rfl
    unfold pD pE pOK pGood enR
    rw [ha]
    generalize cutB b = a
    have hx : (rx 1099511627776 2 200 a).2.length ≤ 140737488355328 := by
      have : ((rx 1099511627776 2 200 a).2.length : Int) ≤ 200 := text_len' _ (by omega)
      omega
    cases crcOK b with
    | false => rfl
    | true =>
      unfold pAt pEnd entAt entEnd
      cases hk : ((r2 1099511627776 2 a).2 == 1) with
      | true =>
        simp only [cond_true, Bool.not_true, cond_false, Bool.true_and]
        rw [cond_eq (decide_eq_true hx)]
        cases (endR (rx 1099511627776 2 200 a).1 != 0) with
        | true => rfl
        | false => cases entR (r1 1099511627776 a).2 (r2 1099511627776 2 a).2 (vdV (rx 1099511627776 2 200 a).2) 0 0 0 <;> rfl
      | false =>
        simp only [cond_true, Bool.not_true, cond_false, Bool.true_and]
        cases (endR (r5 1099511627776 2 1073741824 64 1099511627776 a).1 != 0) with
        | true => rfl
        | false => cases entR (r1 1099511627776 a).2 (r2 1099511627776 2 a).2 [] (r3 1099511627776 2 1073741824 a).2 (r4 1099511627776 2 1073741824 64 a).2 (r5 1099511627776 2 1073741824 64 1099511627776 a).2 <;> rfl
  · cases hv
def edecE : Ent PR A := ⟨n_entry_Decode, _, edec_ok⟩
end Go.Crc
/- Entries in a row: how many follow one another, their last cut; by the program and by the document. Conditions: none. A text of this seat's numbers. -/
set_option linter.unusedVariables false
set_option linter.unusedSimpArgs false
set_option maxRecDepth 100000
namespace Go.Crc
open Go.Vm Go.Pack Go.Rec
abbrev EnT : Ty := .pair (.int .i64) (.pair (.int .i64) (.pair (.slice (.int .i64)) (.pair (.int .i64) (.pair (.int .i64) (.int .i64)))))
def enOb (x : En) : Ob := entOb x.1 x.2.1 x.2.2.1 x.2.2.2.1 x.2.2.2.2.1 x.2.2.2.2.2
def cfgEn : Cfg := cfgOf [(n_pack_Num, [0]), (n_pack_Text, [0])] [n_pack_Num, n_pack_Text, n_crc_New, n_crc_Table_Put, n_pack_NewReader, n_entry_Encode, n_law_own] []
def lastA : Bool → List Int → AV
  | true, v => .slice (.int .i64) v .own
  | false, v => .slice (.int .i64) v .view
def lfCh : Nat → Option LoopSum := lfOf [(442, loopT [3, 4, 7, 8, 9] [4] fun vs H => match vs, H with
  | [.slice (.int .i64) [] .own, .int .i64 n, .slice (.pair (.int .i64) (.pair (.int .i64) (.pair (.slice (.int .i64)) (.pair (.int .i64) (.pair (.int .i64) (.int .i64)))))) l .view, .int .i64 m, .int .i64 i], [] :: S =>
    .br (decide (m = l.length) && (decide (i = 0) && decide (n = 0))) (.br (decide (chP 0 [] l = l.length)) (.yes (.exit 0, [.int .i64 ((chP 0 [] l : Nat) : Int)], [] :: S, repApp (chP 0 [] l) [(0, 0)]))
      (.yes (.exit 0, [.int .i64 ((chP 0 [] l : Nat) : Int)], [enOb (l.getD (chP 0 [] l) en0)] :: S, repApp (chP 0 [] l + 1) [(0, 0)]))) .no
  | _, _ => .no)]
abbrev ChS := (Bool × List Int) × Int × Wr
def chStep (R : ChS → En → Option Res) (i : Int) (x : En) (s : ChS) (k : ChS → Option Res) : Option Res :=
  bif !enR x then R s x else bif x.1 != IntKind.i64.wrap (i + 1) then R s x
  else bif x.2.1 == 1 then (bif decide ((s.1.2.length : Int) > 0) then (bif !coversB (eV x) s.1.2 then R s x else k ((false, eV x), IntKind.i64.wrap (s.2.1 + 1), (0, 0) :: s.2.2)) else k ((false, eV x), IntKind.i64.wrap (s.2.1 + 1), (0, 0) :: s.2.2))
  else k (s.1, IntKind.i64.wrap (s.2.1 + 1), (0, 0) :: s.2.2)
theorem ch_fold (R : Int × Wr → En → Option Res) (E : Int × Wr → Option Res) : ∀ (l : List En) (j : Nat) (b : Bool) (last : List Int) (wr : Wr), j + l.length ≤ maxInt →
    foldK (chStep fun s => R s.2) (fun s => E s.2) j l ((b, last), (j : Int), wr) =
      bif decide (chP j last l = l.length) then E (((j + chP j last l : Nat) : Int), app (repApp (chP j last l) [(0, 0)]) wr) else R (((j + chP j last l : Nat) : Int), app (repApp (chP j last l) [(0, 0)]) wr) (l.getD (chP j last l) en0)
  | [], j, b, last, wr, h => rfl
  | x :: l, j, b, last, wr, h => by
    simp only [List.length_cons] at h
    have hw : IntKind.i64.wrap ((j : Int) + 1) = ((j + 1 : Nat) : Int) := wrap_next (n := maxInt) (by omega) (Nat.le_refl _)
    have g1 := fun b' => ch_fold R E l (j + 1) b' (eV x) ((0, 0) :: wr) (by omega)
    have g2 := fun b' => ch_fold R E l (j + 1) b' last ((0, 0) :: wr) (by omega)
    rw [show foldK (chStep fun s => R s.2) (fun s => E s.2) j (x :: l) ((b, last), (j : Int), wr) = (bif !enR x then R ((j : Int), wr) x else bif x.1 != IntKind.i64.wrap ((j : Int) + 1) then R ((j : Int), wr) x
      else bif x.2.1 == 1 then (bif decide ((last.length : Int) > 0) then (bif !coversB (eV x) last then R ((j : Int), wr) x else foldK (chStep fun s => R s.2) (fun s => E s.2) (j + 1) l ((false, eV x), IntKind.i64.wrap ((j : Int) + 1), (0, 0) :: wr)) else foldK (chStep fun s => R s.2) (fun s => E s.2) (j + 1) l ((false, eV x), IntKind.i64.wrap ((j : Int) + 1), (0, 0) :: wr))
      else foldK (chStep fun s => R s.2) (fun s => E s.2) (j + 1) l ((b, last), IntKind.i64.wrap ((j : Int) + 1), (0, 0) :: wr)) from rfl]
    simp only [hw, g1, g2, chP]
    have stop : ∀ r : Option Res, r = R ((j : Int), wr) x → r = bif decide (0 = (x :: l).length) then E (((j + 0 : Nat) : Int), app (repApp 0 [(0, 0)]) wr) else R (((j + 0 : Nat) : Int), app (repApp 0 [(0, 0)]) wr) ((x :: l).getD 0 en0) := by
      intro r hr
      rw [hr, cond_ne (decide_eq_false (by simp))]
      rfl
    have go : ∀ q : Nat, (bif decide (q = l.length) then E (((j + 1 + q : Nat) : Int), app (repApp q [(0, 0)]) ((0, 0) :: wr)) else R (((j + 1 + q : Nat) : Int), app (repApp q [(0, 0)]) ((0, 0) :: wr)) (l.getD q en0)) =
        bif decide (q + 1 = (x :: l).length) then E (((j + (q + 1) : Nat) : Int), app (repApp (q + 1) [(0, 0)]) wr) else R (((j + (q + 1) : Nat) : Int), app (repApp (q + 1) [(0, 0)]) wr) ((x :: l).getD (q + 1) en0) := by
      intro q
      rw [show j + 1 + q = j + (q + 1) by omega, show app (repApp q [(0, 0)]) ((0, 0) :: wr) = app (repApp (q + 1) [(0, 0)]) wr by rw [rep_more]; rfl]
      by_cases hq : q = l.length
      · rw [decide_eq_true hq, decide_eq_true (by rw [List.length_cons, hq])]; rfl
      · rw [decide_eq_false hq, decide_eq_false (by rw [List.length_cons]; omega)]; rfl
    rcases Bool.eq_false_or_eq_true (!enR x) with h1 | h1
    · simp only [h1, cond_true]; exact stop _ rfl
    simp only [h1, cond_false]
    rcases Bool.eq_false_or_eq_true (x.1 != ((j + 1 : Nat) : Int)) with h2 | h2
    · simp only [h2, cond_true]; exact stop _ rfl
    simp only [h2, cond_false]
    rcases Bool.eq_false_or_eq_true (x.2.1 == 1) with h3 | h3
    · simp only [h3, cond_true]
      rcases Bool.eq_false_or_eq_true (decide ((last.length : Int) > 0)) with h4 | h4
      · simp only [h4, cond_true]
        rcases Bool.eq_false_or_eq_true (!coversB (eV x) last) with h5 | h5
        · simp only [h5, cond_true]; exact stop _ rfl
        · simp only [h5, cond_false]; exact go _
      · simp only [h4, cond_false]; exact go _
    · simp only [h3, cond_false]; exact go _
theorem ch_loops : ∀ x ∈ funLoops PR n_entry_Chain, ∀ L, lfCh x.1 = some L → LoopOK (ntm PR n_entry_Chain) (fun fr H wr k => code PR (cfE [erE, coE]) cfgEn lfCh (cfgEn.live n_entry_Chain) x.2 (2 * x.1) fr H wr k) L := by
  refine one_loop (p := 442) rfl (by kernel_rfl) (loopT_ok (by decide) fun vs H wr ex vs' H' w hv ha hh => ?_)
  split at hv
  · rename_i n l m i S
    obtain ⟨hc, hv2⟩ := Tr.br_no hv
    clear hv
    simp only [Bool.and_eq_true, decide_eq_true_eq] at hc
    obtain ⟨hm, rfl, rfl⟩ := hc
    have hmax : l.length ≤ maxInt := by simp only [okAVs, okAV] at ha; exact ha.2.2.1.1
    refine ⟨l.length + 1, fun k => ?_⟩
    have := fold_loop (F := fun N i (s : ChS) => LC PR (cfE [erE, coE]) cfgEn lfCh n_entry_Chain 0 442 [3, 4, 7, 8, 9] [4] N [lastA s.1.1 s.1.2, .int .i64 s.2.1, .slice EnT l .view, .int .i64 m, .int .i64 i] ([] :: S) s.2.2 k)
      (xs := l) (step := chStep fun s x => k (.exit 0) [.int .i64 s.2.1] ([enOb x] :: S) ((0, 0) :: s.2.2)) (E := fun s => k (.exit 0) [.int .i64 s.2.1] ([] :: S) s.2.2) hm hmax (fun N i s => by obtain ⟨⟨b, v⟩, n, wr⟩ := s; cases b <;> kernel_rfl) l.length 0 ((true, []), 0, wr) (by omega)
    have hf := ch_fold (fun s x => k (.exit 0) [.int .i64 s.1] ([enOb x] :: S) ((0, 0) :: s.2)) (fun s => k (.exit 0) [.int .i64 s.1] ([] :: S) s.2) l 0 true [] wr (by omega)
    rw [List.drop_zero] at this
    have this := this.trans hf
    rw [Nat.zero_add] at this
    rcases Tr.br_or hv2 with ⟨he, h4⟩ | ⟨he, h4⟩
    · cases h4; rw [he] at this; exact this
    · cases h4; rw [he] at this; exact this
  · cases hv
def chF : List AV → Tr AV
  | [.slice (.pair (.int .i64) (.pair (.int .i64) (.pair (.slice (.int .i64)) (.pair (.int .i64) (.pair (.int .i64) (.int .i64)))))) l .view] => .yes (.int .i64 ((chP 0 [] l : Nat) : Int))
  | _ => .no
theorem ch_ok : Con PR A n_entry_Chain (pureC chF) := by
  refine pure_con (cfg := cfgEn) (lf := lfCh) [erE, coE] mixed (by kernel_rfl) (by kernel_rfl) ch_loops fun args v hv ha S => ?_
  unfold chF at hv
  split at hv
  · rename_i l
    cases hv
    have h : body PR (cfE [erE, coE]) cfgEn lfCh n_entry_Chain [.slice EnT l .view] S some =
      (bif decide ((l.length : Int) = (l.length : Int)) && (true && true) then bif decide (chP 0 [] l = l.length) then some (.int .i64 ((chP 0 [] l : Nat) : Int), outer (app (repApp (chP 0 [] l) [(0, 0)]) []), S)
        else some (.int .i64 ((chP 0 [] l : Nat) : Int), outer (app (repApp (chP 0 [] l + 1) [(0, 0)]) []), S) else none) := by kernel_rfl
    rw [h, decide_eq_true rfl, outer_app0 _ _ (all0_rep rfl _), outer_app0 _ _ (all0_rep rfl _)]
    cases decide (chP 0 [] l = l.length) <;> rfl
  · cases hv
def chE : Ent PR A := ⟨n_entry_Chain, _, ch_ok⟩
def lfFo : Nat → Option LoopSum := lfOf [(58, loopT [0, 3, 5] [4] fun vs H => match vs, H with
  | [.slice (.pair (.int .i64) (.pair (.int .i64) (.pair (.slice (.int .i64)) (.pair (.int .i64) (.pair (.int .i64) (.int .i64)))))) l .view, .ptr 0 0 0, .int .i64 i], [.cells [.int .i64 n, .int .i64 kd, .slice (.int .i64) v .view, .int .i64 t, .int .i64 te, .int .i64 p]] :: S =>
    .br (decide (i = (l.length : Int) - 1)) (.br (kd == 1) (.br (lastC l).isSome (.yes (.ret, [.bool (coversB v (lastV [] l))], [entOb n kd v t te p] :: S, [])) (.yes (.exit 0, [.undef], [entOb n kd v t te p] :: S, [])))
      (.yes (.exit 0, [.undef], [entOb n kd v t te p] :: S, []))) .no
  | _, _ => .no)]
theorem fo_loops : ∀ x ∈ funLoops PR n_ref05_Follows, ∀ L, lfFo x.1 = some L → LoopOK (ntm PR n_ref05_Follows) (fun fr H wr k => code PR (cfE [errE, corE]) cfgEn lfFo (cfgEn.live n_ref05_Follows) x.2 (2 * x.1) fr H wr k) L := by
  refine one_loop (p := 58) rfl (by kernel_rfl) (loopT_ok (by decide) fun vs H wr ex vs' H' w hv ha hh => ?_)
  split at hv
  · rename_i l i n kd v t te p S
    obtain ⟨hc, hv2⟩ := Tr.br_no hv
    clear hv
    simp only [decide_eq_true_eq] at hc
    subst hc
    have hmax : l.length ≤ maxInt := by simp only [okAVs, okAV] at ha; exact ha.1.1
    refine ⟨l.length + 1, fun k => ?_⟩
    have hF : ∀ N i, LC PR (cfE [errE, corE]) cfgEn lfFo n_ref05_Follows 0 58 [0, 3, 5] [4] (N + 1) [.slice EnT l .view, .ptr 0 0 0, .int .i64 i] ([entOb n kd v t te p] :: S) wr k =
        (bif decide (i ≥ 0) then bif kd == 1 then (at? l i).bind fun x => bif x.2.1 == 1 then (at? l i).bind fun y => k .ret [.bool (coversB v (eV y))] ([entOb n kd v t te p] :: S) wr
            else LC PR (cfE [errE, corE]) cfgEn lfFo n_ref05_Follows 0 58 [0, 3, 5] [4] N [.slice EnT l .view, .ptr 0 0 0, .int .i64 (IntKind.i64.wrap (i - 1))] ([entOb n kd v t te p] :: S) wr k
          else k (.exit 0) [.undef] ([entOb n kd v t te p] :: S) wr else k (.exit 0) [.undef] ([entOb n kd v t te p] :: S) wr) := fun N i => by kernel_rfl
    rcases Tr.br_or hv2 with ⟨hk, h3⟩ | ⟨hk, h4⟩
    · have := down_loop (F := fun N i => LC PR (cfE [errE, corE]) cfgEn lfFo n_ref05_Follows 0 58 [0, 3, 5] [4] N [.slice EnT l .view, .ptr 0 0 0, .int .i64 i] ([entOb n kd v t te p] :: S) wr k)
        (xs := l) (p := isC) (R := fun x => k .ret [.bool (coversB v (eV x))] ([entOb n kd v t te p] :: S) wr) (E := k (.exit 0) [.undef] ([entOb n kd v t te p] :: S) wr) hmax (fun N i => by
          rw [hF, hk]
          cases at? l i <;> rfl) l.length (Nat.le_refl _)
      rw [List.take_length] at this
      refine Eq.trans this ?_
      rcases Tr.br_or h3 with ⟨he, h4⟩ | ⟨he, h4⟩
      · cases h4
        unfold lastV lastC
        unfold lastC at he
        cases hf : List.find? isC l.reverse with
        | none => rw [hf] at he; cases he
        | some y => rfl
      · cases h4
        unfold lastC at he
        cases hf : List.find? isC l.reverse with
        | none => rfl
        | some y => rw [hf] at he; cases he
    · cases h4
      have := hF l.length ((l.length : Int) - 1)
      rw [hk] at this
      refine Eq.trans this ?_
      cases decide ((l.length : Int) - 1 ≥ 0) <;> rfl
  · cases hv
def foF : List AV → Tr AV
  | [.slice (.pair (.int .i64) (.pair (.int .i64) (.pair (.slice (.int .i64)) (.pair (.int .i64) (.pair (.int .i64) (.int .i64)))))) l .view, .agg [.int .i64 n, .int .i64 k, .slice (.int .i64) v .view, .int .i64 t, .int .i64 te, .int .i64 p]] =>
    .yes (.bool (folB l (n, k, v, t, te, p)))
  | _ => .no
theorem fo_ok : Con PR A n_ref05_Follows (pureC foF) := by
  refine pure_con (cfg := cfgEn) (lf := lfFo) [errE, corE] mixed (by kernel_rfl) (by kernel_rfl) fo_loops fun args v hv ha S => ?_
  unfold foF at hv
  split at hv
  · rename_i l n k v t te p
    cases hv
    have h : body PR (cfE [errE, corE]) cfgEn lfFo n_ref05_Follows [.slice EnT l .view, entA n k v t te p] S some =
      (bif !entR n k v t te p then some (.bool false, [], S) else bif n != IntKind.i64.wrap ((l.length : Int) + 1) then some (.bool false, [], S)
        else bif decide (IntKind.i64.wrap ((l.length : Int) - 1) = (l.length : Int) - 1) then
          bif k == 1 then bif (lastC l).isSome then some (.bool (coversB v (lastV [] l)), [], S) else some (.bool true, [], S) else some (.bool true, [], S) else none) := by kernel_rfl
    refine h.trans ?_
    have hl : l.length ≤ maxInt := by simp only [okAVs, okAV] at ha; exact ha.1.1
    simp only [maxInt] at hl
    have w2 : IntKind.i64.wrap ((l.length : Int) - 1) = (l.length : Int) - 1 := by rw [wrap_i64 (by omega) (by omega)]
    rw [decide_eq_true w2]
    unfold folB enR
    by_cases hmx : l.length = 9223372036854775807
    · -- a number that large is no entry's
      cases hr : entR n k v t te p with
      | false => rfl
      | true =>
        obtain ⟨⟨h1, h2⟩, _⟩ := entR_n hr
        have e1 : (n != IntKind.i64.wrap ((l.length : Int) + 1)) = true := by
          rw [hmx, bne_iff_ne]
          intro e
          have : IntKind.i64.wrap (((9223372036854775807 : Nat) : Int) + 1) = -9223372036854775808 := by rfl
          rw [this] at e
          omega
        have e2 : (n == ((l.length + 1 : Nat) : Int)) = false := by rw [beq_eq_false_iff_ne, hmx]; omega
        simp only [e1, e2, Bool.not_true, cond_false, cond_true, Bool.true_and, Bool.false_and]
    · have w1 : IntKind.i64.wrap ((l.length : Int) + 1) = ((l.length + 1 : Nat) : Int) := by rw [wrap_i64 (by omega) (by omega)]; omega
      rw [w1, bne]
      cases entR n k v t te p with
      | false => rfl
      | true =>
        cases n == ((l.length + 1 : Nat) : Int) with
        | false => rfl
        | true =>
          cases k == 1 with
          | false => rfl
          | true =>
            unfold lastV
            cases lastC l <;> rfl
  · cases hv
def foE : Ent PR A := ⟨n_ref05_Follows, _, fo_ok⟩
def lfDcE : Nat → Option LoopSum := lfOf [(28, loopT [0, 3] [3] fun vs H => match vs, H with
  | [.slice (.pair (.int .i64) (.pair (.int .i64) (.pair (.slice (.int .i64)) (.pair (.int .i64) (.pair (.int .i64) (.int .i64)))))) l .view, .int .i64 i], [] :: S =>
    .br (decide (i = 0)) (.yes (.exit 0, [.int .i64 ((chP 0 [] l : Nat) : Int)], [] :: S, [])) .no
  | _, _ => .no)]
theorem steps_ch (l : List En) : ∀ (r d : List En), l = d ++ r → stepsP (fun j x => folB (l.take j) x) d.length r = chD d r
  | [], d, h => rfl
  | x :: r, d, h => by
    simp only [stepsP, chD]
    have e1 : l.take d.length = d := by rw [h, List.take_left']; rfl
    have ih := steps_ch l r (d ++ [x]) (by rw [h, List.append_assoc]; rfl)
    rw [List.length_append, List.length_singleton] at ih
    rw [e1, ih]
theorem dc_loops : ∀ x ∈ funLoops PR n_ref05_Chain, ∀ L, lfDcE x.1 = some L → LoopOK (ntm PR n_ref05_Chain) (fun fr H wr k => code PR (cfE [foE]) cfgEn lfDcE (cfgEn.live n_ref05_Chain) x.2 (2 * x.1) fr H wr k) L := by
  refine one_loop (p := 28) rfl (by kernel_rfl) (loopT_ok (by decide) fun vs H wr ex vs' H' w hv ha hh => ?_)
  split at hv
  · rename_i l i S
    obtain ⟨hc, hv2⟩ := Tr.br_no hv
    clear hv
    simp only [decide_eq_true_eq] at hc
    subst hc
    cases hv2
    have hmax : l.length ≤ maxInt := by simp only [okAVs, okAV] at ha; exact ha.1.1
    refine ⟨l.length + 1, fun k => ?_⟩
    have := while_loop (F := fun N i => LC PR (cfE [foE]) cfgEn lfDcE n_ref05_Chain 0 28 [0, 3] [3] N [.slice EnT l .view, .int .i64 i] ([] :: S) wr k)
      (xs := l) (p := fun j x => folB (l.take j) x) (E := fun n => k (.exit 0) [.int .i64 n] ([] :: S) wr) hmax (fun N i => by kernel_rfl) l.length 0 (by omega)
    rw [List.drop_zero, Nat.zero_add, show stepsP (fun j x => folB (l.take j) x) 0 l = chP 0 [] l from (steps_ch l l [] rfl).trans (ch_eq l)] at this
    exact this
  · cases hv
theorem dc_ok : Con PR A n_ref05_Chain (pureC chF) := by
  refine pure_con (cfg := cfgEn) (lf := lfDcE) [foE] mixed (by kernel_rfl) (by kernel_rfl) dc_loops fun args v hv ha S => ?_
  unfold chF at hv
  split at hv
  · rename_i l
    cases hv
    have h : body PR (cfE [foE]) cfgEn lfDcE n_ref05_Chain [.slice EnT l .view] S some = some (.int .i64 ((chP 0 [] l : Nat) : Int), [], S) := by kernel_rfl
    exact h
  · cases hv
def dcE : Ent PR A := ⟨n_ref05_Chain, _, dc_ok⟩
end Go.Crc
