/- Contracts of functions of this program. Conditions: none. -/
import Derived.Test.YtjaiihcljcnfnaaWj
set_option linter.unusedVariables false
set_option linter.unusedSimpArgs false
/- Messages are written by the program. Conditions: none. A text of this seat's numbers. -/
set_option linter.unusedVariables false
set_option linter.unusedSimpArgs false
set_option maxRecDepth 100000
namespace Go.Crc
open Go.Vm Go.Pack Go.Rec
/-! ### pack.Bool, texts -/
def pbF : List AV → Tr AV
  | [.slice (.int .u8) b .own, .bool x] => .br (decide (b.length ≤ 100000000)) (.yes (.slice (.int .u8) (b ++ boolT x) .own)) .no
  | _ => .no
theorem pb_ok : Con PR A n_pack_Bool (pureC pbF) := by
  refine pure_con0 (cfg := cfgM) [] mixed (by kernel_rfl) (by kernel_rfl) (by kernel_rfl) fun args v hv ha S => ?_
  unfold pbF at hv
  split at hv
  · rename_i b x
    obtain ⟨hc, hv2⟩ := Tr.br_no hv
    cases hv2
    simp only [decide_eq_true_eq] at hc
    have h : body PR (cfE (P := PR) (A := A) []) cfgM lf0 n_pack_Bool [.slice (.int .u8) b .own, .bool x] S some =
      (bif x then (bif decide ((b.length + [(1 : Int)].length) * 1 ≤ 140737488355328) then some (.slice (.int .u8) (b ++ [1]) .own, [], S) else none) else (bif decide ((b.length + [(0 : Int)].length) * 1 ≤ 140737488355328) then some (.slice (.int .u8) (b ++ [0]) .own, [], S) else none)) := by kernel_rfl
    rw [h]
    cases x with
    | true => rw [cond_true, cond_eq (decide_eq_true (by simp only [List.length_cons, List.length_nil]; omega))]; rfl
    | false => rw [cond_false, cond_eq (decide_eq_true (by simp only [List.length_cons, List.length_nil]; omega))]; rfl
  · cases hv
def pbE : Ent PR A := ⟨n_pack_Bool, _, pb_ok⟩
def txB (o p : List Int) : List Int := bif decide ((p.length : Int) > 65536) then o else o ++ num p.length ++ p
def mtF : List AV → Tr AV
  | [.slice (.int .u8) b .own, .slice (.slice (.int .u8)) [p] .view] => .br (decide (b.length ≤ 100000000)) (.yes (.slice (.int .u8) (txB b p) .own)) .no
  | _ => .no
theorem mt_ok : Con PR A n_message_texts (pureC mtF) := by
  refine pure_con (cfg := cfgM) (lf := lf0) [ptextE] mixed (by kernel_rfl) (by kernel_rfl) (fun x _ L hL => by cases hL) fun args v hv ha S => ?_
  unfold mtF at hv
  split at hv
  · rename_i b p
    obtain ⟨hc, hv2⟩ := Tr.br_no hv
    cases hv2
    have h : body PR (cfE [ptextE]) cfgM lf0 n_message_texts [.slice (.int .u8) b .own, .slice (.slice (.int .u8)) [p] .view] S some =
      (bif decide (b.length ≤ 100000000) then some (.slice (.int .u8) (txB b p) .own, [], S) else none) := by kernel_rfl
    rw [h, hc]; rfl
  · cases hv
def mtE : Ent PR A := ⟨n_message_texts, _, mt_ok⟩
/-! ### vote -/
def voC (b : List Int) (m : Msg) : List Int := bif m.k == 8 then aN (aN b [m.ba]) [m.ol] else aN b [m.ba]
def voB (b : List Int) (m : Msg) : List Int := bif m.k == 9 then txB (voC b m) (conEn m) else bif m.ol != 0 then txB (voC b m) (conEn m) else voC b m
def mvF : List AV → Tr AV
  | [.slice (.int .u8) b .own, .agg cs] => match msgOf cs with | some m => .br (decide (b.length ≤ 1000)) (.yes (.slice (.int .u8) (voB b m) .own)) .no | none => .no
  | _ => .no
theorem voC_len (b : List Int) (m : Msg) : (voC b m).length ≤ b.length + 18 := by
  unfold voC
  have h1 := aN_len b [m.ba]
  have h2 := aN_len (aN b [m.ba]) [m.ol]
  simp only [List.length_cons, List.length_nil] at h1 h2
  cases m.k == 8 with
  | true => simp only [cond_true]; omega
  | false => simp only [cond_false]; omega
def vo2 (o : List Int) (m : Msg) (S : Stack) : Option Res :=
  bif m.k == 9 then (bif decide (o.length ≤ 100000000) then some (.slice (.int .u8) (txB o (conEn m)) .own, [], S) else none)
  else bif m.ol != 0 then (bif decide (o.length ≤ 100000000) then some (.slice (.int .u8) (txB o (conEn m)) .own, [], S) else none) else some (.slice (.int .u8) o .own, [], S)
theorem mv_ok : Con PR A n_message_vote (pureC mvF) := by
  refine pure_con0 (cfg := cfgM) [pnumE, teE, mtE] mixed (by kernel_rfl) (by kernel_rfl) (by kernel_rfl) fun args v hv ha S => ?_
  unfold mvF at hv
  split at hv
  · rename_i b cs
    split at hv
    · rename_i m hm
      obtain ⟨hc, hv2⟩ := Tr.br_no hv
      cases hv2
      have := msgOf_some hm
      subst this
      simp only [decide_eq_true_eq] at hc
      have h : body PR (cfE [pnumE, teE, mtE]) cfgM lf0 n_message_vote [.slice (.int .u8) b .own, msgA m] S some =
        (bif decide (b.length + 10 * [m.ba].length ≤ 140737488355328) then
          bif m.k == 8 then (bif decide ((aN b [m.ba]).length + 10 * [m.ol].length ≤ 140737488355328) then vo2 (aN (aN b [m.ba]) [m.ol]) m S else none) else vo2 (aN b [m.ba]) m S
        else none) := by kernel_rfl
      refine h.trans ?_
      have k1 := aN_len b [m.ba]
      have k2 := voC_len b m
      simp only [List.length_cons, List.length_nil] at k1
      have key : ∀ o : List Int, o.length ≤ 10000 → vo2 o m S = some (.slice (.int .u8) (bif m.k == 9 then txB o (conEn m) else bif m.ol != 0 then txB o (conEn m) else o) .own, [], S) := fun o ho => by
        unfold vo2
        rw [decide_eq_true (show o.length ≤ 100000000 by omega)]
        cases m.k == 9 with
        | true => rfl
        | false => cases m.ol != 0 <;> rfl
      rw [cond_eq (decide_eq_true (by simp only [List.length_cons, List.length_nil]; omega)), cond_eq (b := decide ((aN b [m.ba]).length + 10 * [m.ol].length ≤ 140737488355328)) (decide_eq_true (by simp only [List.length_cons, List.length_nil]; omega))]
      unfold voB
      have hv : (bif m.k == 8 then vo2 (aN (aN b [m.ba]) [m.ol]) m S else vo2 (aN b [m.ba]) m S) = vo2 (voC b m) m S := by unfold voC; cases m.k == 8 <;> rfl
      rw [hv, key _ (by omega)]
    · cases hv
  · cases hv
def mvE : Ent PR A := ⟨n_message_vote, _, mv_ok⟩
/-! ### Encode -/
def meV (lv : Lv) (m : Msg) : AV := .tuple [.slice (.int .u8) (msgB m) lv, .int .i64 (msgE m)]
def meFin (lv : Lv) (o : List Int) (S : Stack) : Option Res := bif decide (o.length + 4 ≤ 140737488355328) then some (.tuple [.slice (.int .u8) (crcPut o) lv, .int .i64 0], [], S) else none
def me0 (m : Msg) : List Int := aN [] [m.k, m.f, m.t, m.te]
def meN (o l : List Int) (k : List Int → Option Res) : Option Res := bif decide (o.length + 10 * l.length ≤ 140737488355328) then k (aN o l) else none
def meX (o p : List Int) (k : List Int → Option Res) : Option Res := bif decide (o.length ≤ 100000000) then k (txB o p) else none
def meB (o : List Int) (b : Bool) (k : List Int → Option Res) : Option Res := bif decide (o.length ≤ 100000000) then k (o ++ boolT b) else none
def meVo (lv : Lv) (m : Msg) (S : Stack) : Option Res := bif decide ((me0 m).length ≤ 1000) then meFin lv (voB (me0 m) m) S else none
def me8 (lv : Lv) (m : Msg) (S : Stack) : Option Res := bif m.k == 8 then (bif m.k == 8 then meVo lv m S else meFin lv (me0 m) S) else (bif m.k == 9 then meVo lv m S else meFin lv (me0 m) S)
def me10 (lv : Lv) (m : Msg) (S : Stack) : Option Res := bif m.k == 10 then meN (me0 m) [m.ba] fun o => meB o m.is fun o => meFin lv o S else me8 lv m S
def me7 (lv : Lv) (m : Msg) (S : Stack) : Option Res := bif m.k == 7 then meN (me0 m) [m.ba] fun o => meFin lv o S else me10 lv m S
def me4 (lv : Lv) (m : Msg) (S : Stack) : Option Res := meN (me0 m) [m.nu] fun o => meB o m.is fun o => meFin lv o S
def meT (lv : Lv) (m : Msg) (S : Stack) : Option Res :=
  bif m.k == 1 then meN (me0 m) [m.sh, m.nu] fun o => meX o (recE m) fun o => meFin lv o S
  else bif m.k == 2 then meN (me0 m) [m.sh, m.nu] fun o => meFin lv o S
  else bif m.k == 3 then meX (me0 m) (entEn m.e) fun o => meFin lv o S
  else bif m.k == 4 then (bif m.k == 4 then me4 lv m S else me7 lv m S) else (bif m.k == 6 then me4 lv m S else me7 lv m S)
theorem me_body (m : Msg) (S : Stack) : body PR (cfE [mrightE, pnumE, encE', eencE, mtE, pbE, mvE, newE, putE]) cfgM lf0 n_message_Encode [msgA m] S some =
    (bif !rightM m then some (.tuple [.slice (.int .u8) [] .own, .int .i64 70], [], S) else meT .own m S) := by kernel_rfl
theorem txB_ok {o p : List Int} (h : p.length ≤ 65536) : txB o p = o ++ txt p := by
  unfold txB txt
  rw [decide_eq_false (show ¬ (p.length : Int) > 65536 by omega), cond_false, List.append_assoc]
theorem aN_ok {o l : List Int} (h : okAll l = true) : aN o l = o ++ nums l := by unfold aN; rw [h]; rfl
theorem meN_go {o l : List Int} {k : List Int → Option Res} (h : okAll l = true) (hl : o.length + 10 * l.length ≤ 100000) : meN o l k = k (o ++ nums l) := by
  unfold meN; rw [decide_eq_true (show o.length + 10 * l.length ≤ 140737488355328 by omega), cond_true, aN_ok h]
theorem meX_go {o p : List Int} {k : List Int → Option Res} (h : p.length ≤ 65536) (hl : o.length ≤ 100000) : meX o p k = k (o ++ txt p) := by
  unfold meX; rw [decide_eq_true (show o.length ≤ 100000000 by omega), cond_true, txB_ok h]
theorem meB_go {o : List Int} {b : Bool} {k : List Int → Option Res} (hl : o.length ≤ 100000) : meB o b k = k (o ++ boolT b) := by
  unfold meB; rw [decide_eq_true (show o.length ≤ 100000000 by omega), cond_true]
theorem meFin_go {lv : Lv} {o : List Int} {S : Stack} (hl : o.length ≤ 100000) : meFin lv o S = some (.tuple [.slice (.int .u8) (crcPut o) lv, .int .i64 0], [], S) := by
  unfold meFin; rw [decide_eq_true (show o.length + 4 ≤ 140737488355328 by omega), cond_true]
theorem me_res (lv : Lv) {m : Msg} (S : Stack) (hr : rightM m = true) : meT lv m S = some (.tuple [.slice (.int .u8) (crcPut (msgT m)) lv, .int .i64 0], [], S) := by
  unfold meT
  have hp := right_p hr
  have h0 : me0 m = nums [m.k, m.f, m.t, m.te] := by unfold me0; rw [aN_ok hp.head]; rfl
  have l0 : (me0 m).length ≤ 36 := by rw [h0]; have := nums_len [m.k, m.f, m.t, m.te]; simpa using this
  have lT := msgT_len m
  have fin : ∀ o, o = msgT m → meFin lv o S = some (.tuple [.slice (.int .u8) (crcPut (msgT m)) lv, .int .i64 0], [], S) := fun o ho => by
    rw [meFin_go (by rw [ho]; omega), ho]
  have r1 := recE_len m
  have r2 := entEn_len m.e
  have r3 := conEn_len m
  have n2 := nums_len [m.sh, m.nu]
  have n3 := nums_len [m.nu]
  have n4 := nums_len [m.ba]
  have n5 := nums_len [m.ol]
  simp only [List.length_cons, List.length_nil] at n2 n3 n4 n5
  have one : ∀ n : Int, nums [n] = num n := fun n => by simp only [nums, List.append_nil]
  cases e1 : m.k == 1 with
  | true =>
    rw [cond_true, meN_go hp.place (by simp only [List.length_cons, List.length_nil]; omega), meX_go (by omega) (by rw [List.length_append]; omega)]
    exact fin _ (by unfold msgT bodyT; rw [e1, h0, cond_true, List.append_assoc])
  | false =>
  cases e2 : m.k == 2 with
  | true =>
    simp only [cond_true, cond_false]
    rw [meN_go hp.place (by simp only [List.length_cons, List.length_nil]; omega)]
    exact fin _ (by unfold msgT bodyT; rw [e1, e2, h0]; rfl)
  | false =>
  cases e3 : m.k == 3 with
  | true =>
    simp only [cond_true, cond_false]
    rw [meX_go (by omega) (by omega)]
    exact fin _ (by unfold msgT bodyT; rw [e1, e2, e3, h0]; rfl)
  | false =>
  have h4 : (m.k == 4 || m.k == 6) = true → me4 lv m S = some (.tuple [.slice (.int .u8) (crcPut (msgT m)) lv, .int .i64 0], [], S) := fun h => by
    unfold me4
    rw [meN_go (okAll_one hp.nu) (by simp only [List.length_cons, List.length_nil]; omega), meB_go (by rw [List.length_append]; omega)]
    exact fin _ (by unfold msgT bodyT; rw [e1, e2, e3, h, h0, one, List.append_assoc]; rfl)
  cases e4 : m.k == 4 with
  | true => exact h4 (by rw [e4]; rfl)
  | false =>
  cases e6 : m.k == 6 with
  | true => exact h4 (by rw [e6, Bool.or_true])
  | false =>
  simp only [cond_false]
  have e46 : (m.k == 4 || m.k == 6) = false := by rw [e4, e6]; rfl
  unfold me7 me10 me8
  cases e7 : m.k == 7 with
  | true =>
    have hk := beq_iff_eq.1 e7
    have hb := hp.ba (by omega)
    rw [cond_true, meN_go (okAll_one ⟨by omega, hb.2⟩) (by simp only [List.length_cons, List.length_nil]; omega)]
    exact fin _ (by unfold msgT bodyT; rw [e1, e2, e3, e46, e7, h0, one]; rfl)
  | false =>
  cases e10 : m.k == 10 with
  | true =>
    have hk := beq_iff_eq.1 e10
    have hb := hp.ba (by omega)
    simp only [cond_true, cond_false]
    rw [meN_go (okAll_one ⟨by omega, hb.2⟩) (by simp only [List.length_cons, List.length_nil]; omega), meB_go (by rw [List.length_append]; omega)]
    exact fin _ (by unfold msgT bodyT; rw [e1, e2, e3, e46, e7, e10, h0, one, List.append_assoc]; rfl)
  | false =>
  simp only [cond_false]
  have hvo : decide ((me0 m).length ≤ 1000) = true := decide_eq_true (by omega)
  cases e8 : m.k == 8 with
  | true =>
    have hk := beq_iff_eq.1 e8
    have hb := hp.ba (by omega)
    have ho := (hp.ol hk).1
    have e9 : (m.k == 9) = false := by rw [hk]; rfl
    simp only [cond_true]
    unfold meVo
    rw [hvo, cond_true]
    refine fin _ ?_
    unfold voB voC msgT bodyT
    rw [e1, e2, e3, e46, e7, e10, e8, e9, h0, aN_ok (okAll_one ⟨by omega, hb.2⟩), aN_ok (okAll_one ho), one, one]
    simp only [cond_true, cond_false]
    cases eo : m.ol == 0 with
    | true => simp only [bne, eo, Bool.not_true, cond_false, cond_true, List.append_assoc, List.append_nil]
    | false => simp only [bne, eo, Bool.not_false, cond_false, cond_true]; rw [txB_ok (by omega)]; simp only [List.append_assoc]
  | false =>
  cases e9 : m.k == 9 with
  | true =>
    have hk := beq_iff_eq.1 e9
    have hb := hp.ba (by omega)
    simp only [cond_true, cond_false]
    unfold meVo
    rw [hvo, cond_true]
    refine fin _ ?_
    unfold voB voC msgT bodyT
    rw [e1, e2, e3, e46, e7, e10, e8, e9, h0, aN_ok (okAll_one ⟨by omega, hb.2⟩), one]
    simp only [cond_true, cond_false]
    rw [txB_ok (by omega)]
    simp only [List.append_assoc]
  | false =>
    simp only [cond_false]
    exact fin _ (by unfold msgT bodyT; rw [e1, e2, e3, e46, e7, e10, e8, e9, h0]; simp only [cond_false, List.append_nil])
theorem me_ok : Con PR A n_message_Encode (pureC (msgF0 (meV .own))) := by
  refine msg_con0 (cfg := cfgM) [mrightE, pnumE, encE', eencE, mtE, pbE, mvE, newE, putE] (by kernel_rfl) (by kernel_rfl) (by kernel_rfl) fun m S => ?_
  rw [me_body]
  unfold meV msgB msgE
  cases hr : rightM m with
  | false => rfl
  | true => rw [me_res .own S hr]; rfl
def meE : Ent PR A := ⟨n_message_Encode, _, me_ok⟩
end Go.Crc

/- Messages are written by the document. Conditions: none. A text of this seat's numbers. -/
set_option linter.unusedVariables false
set_option linter.unusedSimpArgs false
set_option maxRecDepth 100000
namespace Go.Crc
open Go.Vm Go.Pack Go.Rec
def rbF : List AV → Tr AV
  | [.bool b] => .yes (.str (boolT b))
  | _ => .no
def yS (s : List Int) (S : Stack) : Option Res := some (.str s, [], S)
def catR (a b : List Int) (k : List Int → Option Res) : Option Res := bif decide (a.length + b.length ≤ 9223372036854775807) then k (a ++ b) else none
def txR (s : List Int) (k : List Int → Option Res) : Option Res := bif decide (s.length ≤ 140737488355328) then k (txtS s) else none
theorem catR_go {a b : List Int} {k : List Int → Option Res} (h : a.length + b.length ≤ 100000) : catR a b k = k (a ++ b) := by
  unfold catR; rw [decide_eq_true (show a.length + b.length ≤ 9223372036854775807 by omega), cond_true]
theorem txR_go {s : List Int} {k : List Int → Option Res} (h : s.length ≤ 100000) : txR s k = k (txtS s) := by
  unfold txR; rw [decide_eq_true (show s.length ≤ 140737488355328 by omega), cond_true]
def pa4 (m : Msg) (S : Stack) : Option Res := catR (numS m.nu) (boolT m.is) fun s => yS s S
def pa7 (m : Msg) (S : Stack) : Option Res :=
  bif m.k == 7 then yS (numS m.ba) S
  else bif m.k == 8 then (bif m.ol == 0 then catR (numS m.ba) [0] fun s => yS s S else catR (numS m.ba) (numS m.ol) fun a => txR (conEn m) fun t => catR a t fun s => yS s S)
  else bif m.k == 9 then (txR (conEn m) fun t => catR (numS m.ba) t fun s => yS s S)
  else bif m.k == 10 then (catR (numS m.ba) (boolT m.is) fun s => yS s S)
  else yS [] S
end Go.Crc
