/- Contracts of functions of this program. Conditions: none. -/
import Derived.Test.YtgnfgckieigblaaGreatWl
import Derived.Test.YtgnfgckieigblaaGreatWh
set_option linter.unusedVariables false
set_option linter.unusedSimpArgs false
/- Segments and their frames. Conditions: none. A text of this seat's numbers. -/
set_option linter.unusedVariables false
set_option linter.unusedSimpArgs false
set_option maxRecDepth 100000
namespace Go.Crc
open Go.Vm Go.Pack Go.Rec Go.RowKit
/-! ### What is kept, whatever is called -/
structure SgInv (z : SgS) (F : List (List Int)) (y : Nat) : Prop where
  st : Inv z.b z.n F y
  l : z.l = (sgR F [] 0).1
  t : z.t = (sgR F [] 0).2.1
  br : z.br = (sgR F [] 0).2.2
  s : z.s = ((sgR (F.take y) [] 0).1.length : Int)
theorem decR_right {r : List Int} (hb : isBytes r) (h : decErr r = 0) : rightRc (decR r) = true := (enc_dec hb h).1
theorem sgR_right : ∀ (F : List (List Int)) (L : List Rc) (t : Int), smallF F → L.all rightRc = true → (sgR F L t).1.all rightRc = true
  | [], L, t, _, h => h
  | f :: r, L, t, hs, h => by
    simp only [sgR]
    cases hok : sgOK L.length t f with
    | false => exact h
    | true =>
      refine sgR_right r _ _ (fun x hx => hs x (by simp [hx])) ?_
      have hf := (hs f (by simp)).2
      cases f with
      | nil => exact h
      | cons x q =>
        simp only [sgL]
        cases hx : (x == 1 && decErr q == 0) with
        | false => exact h
        | true =>
          simp only [Bool.and_eq_true, beq_iff_eq] at hx
          simp only [cond_true, List.all_append, List.all_cons, List.all_nil, Bool.and_true, Bool.and_eq_true]
          exact ⟨h, decR_right (fun b hb => hf b (by simp [hb])) hx.2⟩
theorem SgInv.good {z : SgS} {F : List (List Int)} {y : Nat} (h : SgInv z F y) : goodS z = true := by
  have h1 := sgR_len F [] 0
  have h2 := sgR_in F (L := []) (t := 0) ⟨Int.le_refl _, Int.le_refl _⟩
  have h3 := catF_count F
  have h4 := h.st.len
  have h5 := congrArg List.length h.st.cat
  obtain ⟨b1, b2, b3⟩ := h.st.bounds
  have h6 := sgR_right F [] 0 h.st.small rfl
  refine goodS_iff.2 ⟨?_, ?_, ?_, h4, b2, b3, ?_⟩
  · rw [h.l]
    have : ([] : List Rc).length = 0 := rfl
    omega
  · rw [h.t]; exact h2.1
  · rw [h.t, h.l]; exact h2.2
  · rw [h.l]; exact h6
theorem encB_len (c n : Int) (t d : List Int) : (encB c n t d).length ≤ 1204 := by
  unfold encB
  cases hr : rightR c n t d with
  | false => simp
  | true =>
    rw [cond_true]
    have := text_len hr
    unfold crcPut
    rw [List.length_append]
    have h4 : (le4 (crcSum (textR' c n t d))).length = 4 := rfl
    omega
theorem text_bytes {c n : Int} {t d : List Int} (hd : isBytes d) : isBytes (textR' c n t d) := by
  have hn : ∀ l : List Int, isBytes (nums l) := by
    intro l
    induction l with
    | nil => exact nil_bytes
    | cons x r ih => exact app_bytes (num_bytes _) ih
  unfold textR'
  exact app_bytes (num_bytes _) (app_bytes (num_bytes _) (app_bytes (num_bytes _) (app_bytes (hn _) (app_bytes (num_bytes _) hd))))
theorem enc_bytes {c n : Int} {t d : List Int} (hd : isBytes d) : isBytes (encB c n t d) := by
  unfold encB
  cases rightR c n t d with
  | true => exact put_bytes (text_bytes hd)
  | false => exact nil_bytes
theorem cons_bytes {x : Int} {b : List Int} (hx : 0 ≤ x ∧ x ≤ 255) (hb : isBytes b) : isBytes (x :: b) := fun y hy => by
  rcases List.mem_cons.1 hy with rfl | hy
  · exact hx
  · exact hb y hy
theorem sgR_snoc {F : List (List Int)} {f : List Int} (hbr : (sgR F [] 0).2.2 = false) (hok : sgOK (sgR F [] 0).1.length (sgR F [] 0).2.1 f = true) : sgR (F ++ [f]) [] 0 = (sgL (sgR F [] 0).1 f, sgT (sgR F [] 0).1.length (sgR F [] 0).2.1 f, false) := by
  rw [sgR_app, hbr]
  simp only [cond_false, sgR, hok, cond_true]
theorem SgInv.ap {z : SgS} {F : List (List Int)} {y : Nat} (h : SgInv z F y) {lc c n : Int} {t d : List Int} (hd : isBytes d) (hg : apGo z lc c n t d = true) : SgInv (apZ z lc c n t d) (F ++ [1 :: encB c n t d]) y := by
  have hg' := hg
  unfold apGo at hg
  simp only [Bool.and_eq_true, Bool.not_eq_true'] at hg
  obtain ⟨k1, k2, k3, k4, k5, k6, k7, k8⟩ := hg
  have hbr : (sgR F [] 0).2.2 = false := by rw [← h.br]; exact k6
  have he : encB c n t d = crcPut (textR' c n t d) := by unfold encB; rw [k1]; rfl
  have hsn := sgR_snoc hbr (f := 1 :: encB c n t d) (by rw [he]; exact sg_keep k1)
  rw [he, sgL_keep k1, sgT_keep, ← he] at hsn
  unfold apZ
  rw [hg']
  refine ⟨h.st.app (cons_bytes (by omega) (enc_bytes hd)) k8, ?_, ?_, ?_, ?_⟩
  · rw [hsn]; simp only [cond_true]; rw [h.l]
  · rw [hsn]; exact h.t
  · rw [hsn]; exact k6
  · rw [List.take_append_of_le_length h.st.le]; exact h.s
theorem apZ_no {z : SgS} {lc c n : Int} {t d : List Int} (hg : apGo z lc c n t d = false) : apZ z lc c n t d = z := by
  unfold apZ; rw [hg]; rfl
theorem SgInv.tm {z : SgS} {F : List (List Int)} {y : Nat} (h : SgInv z F y) {u : Int} (hg : tmGo z u = true) : SgInv (tmZ z u) (F ++ [2 :: num u]) y := by
  obtain ⟨g1, g2, g3, g4, g5, g6, g7⟩ := goodS_iff.1 h.good
  have hg' := hg
  unfold tmGo at hg
  simp only [Bool.and_eq_true, Bool.not_eq_true', decide_eq_false_iff_not] at hg
  obtain ⟨k1, k2, k3, k4, k5⟩ := hg
  have hbr : (sgR F [] 0).2.2 = false := by rw [← h.br]; exact k4
  have tp : (100000 : Int) ≤ top := by decide
  have hu0 : 0 ≤ u := by omega
  have hu1 : u ≤ ((sgR F [] 0).1.length : Int) := by rw [← h.l]; omega
  have hut : u ≤ top := by rw [← h.l] at hu1; omega
  have hu2 : (sgR F [] 0).2.1 ≤ u := by rw [← h.t]; omega
  have hsn := sgR_snoc hbr (f := 2 :: num u) (sg_trim hu0 hu1 hut hu2)
  rw [sgL_trim, sgT_trim hu0 hu1 hut hu2] at hsn
  unfold tmZ
  rw [hg']
  refine ⟨h.st.app (cons_bytes (by omega) (num_bytes _)) k5, ?_, ?_, ?_, ?_⟩
  · rw [hsn]; exact h.l
  · rw [hsn]; rfl
  · rw [hsn]; exact k4
  · rw [List.take_append_of_le_length h.st.le]; exact h.s
theorem tmZ_no {z : SgS} {u : Int} (hg : tmGo z u = false) : tmZ z u = z := by
  unfold tmZ; rw [hg]; rfl
theorem SgInv.sy {z : SgS} {F : List (List Int)} {y : Nat} (h : SgInv z F y) : SgInv (syZ z) F (bif z.o then y else F.length) := by
  unfold syZ syN
  cases ho : z.o with
  | false =>
    simp only [cond_false, beq_self_eq_true, cond_true]
    refine ⟨h.st.sync, h.l, h.t, h.br, ?_⟩
    rw [List.take_of_length_le (Nat.le_refl _), ← h.l]
  | true =>
    simp only [cond_true]
    cases hn : (z.n == (z.b.length : Int)) with
    | false => exact ⟨h.st, h.l, h.t, h.br, h.s⟩
    | true =>
      have hy := h.st.syncedAll (by simpa using hn)
      refine ⟨h.st, h.l, h.t, h.br, ?_⟩
      simp only [cond_true]
      rw [hy, List.take_of_length_le (Nat.le_refl _), ← h.l]
theorem SgInv.of {b : List Int} {n : Int} {F : List (List Int)} {y : Nat} {o : Bool} (h : Inv b n F y) (hy : y = F.length) : SgInv (ofB b n o) F y := by
  have hf := h.frames
  unfold ofB
  refine ⟨h, by rw [hf], by rw [hf], by rw [hf], ?_⟩
  rw [hf, hy, List.take_of_length_le (Nat.le_refl _)]
theorem SgInv.cs {z : SgS} {F : List (List Int)} {y : Nat} (h : SgInv z F y) (k : Int) : SgInv (csZ z k) (F.take (dcN F (y : Int) k)) (dcN F (y : Int) k) := by
  have hc := h.st.crash k
  refine SgInv.of hc ?_
  have := hc.le
  rw [List.length_take] at this ⊢
  omega
theorem SgInv.off {z : SgS} {F : List (List Int)} {y : Nat} (h : SgInv z F y) (is : Bool) : SgInv { z with o := is } F y := ⟨h.st, h.l, h.t, h.br, h.s⟩
theorem SgInv.new {b : List Int} (hb : isBytes b) : SgInv (ofB (nwB b) (scanN (b.take 65536)) false) (scanL (b.take 65536)) (scanL (b.take 65536)).length := SgInv.of (Inv.new hb) rfl
/-- what frames are there behind a call, and how many of them are safe. -/
def dF (z : SgS) (F : List (List Int)) (y : Nat) (kd N c n : Int) (t d : List Int) : List (List Int) := bif kd == 0 && apGo z N c n t d then F ++ [1 :: encB c n t d] else bif kd == 2 && tmGo z N then F ++ [2 :: num N] else bif kd == 4 then F.take (dcN F (y : Int) N) else F
def dY (z : SgS) (F : List (List Int)) (y : Nat) (kd N : Int) : Nat := bif kd == 3 then (bif z.o then y else F.length) else bif kd == 4 then dcN F (y : Int) N else y
theorem SgInv.step {z : SgS} {F : List (List Int)} {y : Nat} (h : SgInv z F y) {kd N c n : Int} {t d : List Int} {is : Bool} (hd : isBytes d) : SgInv (dZ z kd N c n t d is) (dF z F y kd N c n t d) (dY z F y kd N) := by
  unfold dZ dF dY
  by_cases e0 : kd = 0
  · subst e0
    cases hg : apGo z N c n t d with
    | true => exact h.ap hd hg
    | false => show SgInv (apZ z N c n t d) F y; rw [apZ_no hg]; exact h
  by_cases e2 : kd = 2
  · subst e2
    cases hg : tmGo z N with
    | true => exact h.tm hg
    | false => show SgInv (tmZ z N) F y; rw [tmZ_no hg]; exact h
  by_cases e3 : kd = 3
  · subst e3; exact h.sy
  by_cases e4 : kd = 4
  · subst e4; exact h.cs N
  by_cases e5 : kd = 5
  · subst e5; exact h.off is
  rw [ne_beqI e0, ne_beqI e2, ne_beqI e3, ne_beqI e4, ne_beqI e5]
  exact h
/-! ### alive -/
def salF : List AV → Tr AV
  | [] => .yes (.bool true)
  | _ => .no
noncomputable def EAl : List (Ent PR A) := [stNwE, sOpE, sApE, sGtE, sTmE, sLenE, sTrE]
theorem sal_ok : Con PR A n_law_alive (pureC salF) := by
  refine pure_con0 (cfg := cfgS) EAl mixed (by kernel_rfl) (by kernel_rfl) (by kernel_rfl) fun args v hv ha S => ?_
  unfold salF at hv
  split at hv
  · cases hv
    kernel_rfl
  · cases hv
def salE : Ent PR A := ⟨n_law_alive, _, sal_ok⟩
end Go.Crc

/- Segments: rows appended, scripts run, as folds. Conditions: none. A text of this seat's numbers. -/
set_option linter.unusedVariables false
set_option linter.unusedSimpArgs false
set_option maxRecDepth 100000
namespace Go.Crc
open Go.Vm Go.Pack Go.Rec Go.RowKit
abbrev apErrR (z : SgS) (k : Int) (x : Rc) : Int := apErr z k x.1.1 x.1.2 x.2.1 x.2.2
abbrev apZR (z : SgS) (k : Int) (x : Rc) : SgS := apZ z k x.1.1 x.1.2 x.2.1 x.2.2
abbrev recObR (x : Rc) : Ob := .cells [.int .i64 x.1.1, .int .i64 x.1.2, .slice (.int .i64) x.2.1 .view, .str x.2.2]
def apAll : List Rc → Nat → SgS → SgS × Bool × Rc
  | [], _, z => (z, true, ((0, 0), ([], [])))
  | x :: r, j, z => bif apErrR z (j : Int) x != 0 then (apZR z (j : Int) x, false, x) else apAll r (j + 1) (apZR z (j : Int) x)
def apK : List Rc → Nat → SgS → Nat
  | [], _, _ => 0
  | x :: r, j, z => bif apErrR z (j : Int) x != 0 then 1 else apK r (j + 1) (apZR z (j : Int) x) + 1
def Keeps1 (z : SgS) : Prop := ∃ F y, SgInv z F y
theorem Keeps1.good {z : SgS} (h : Keeps1 z) : goodS z = true := by obtain ⟨F, y, h⟩ := h; exact h.good
theorem Keeps1.ap {z : SgS} (h : Keeps1 z) {lc c n : Int} {t d : List Int} (hd : isBytes d) : Keeps1 (apZ z lc c n t d) := by
  obtain ⟨F, y, h⟩ := h
  cases hg : apGo z lc c n t d with
  | true => exact ⟨_, _, h.ap hd hg⟩
  | false => rw [apZ_no hg]; exact ⟨_, _, h⟩
theorem Keeps1.tm {z : SgS} (h : Keeps1 z) (u : Int) : Keeps1 (tmZ z u) := by
  obtain ⟨F, y, h⟩ := h
  cases hg : tmGo z u with
  | true => exact ⟨_, _, h.tm hg⟩
  | false => rw [tmZ_no hg]; exact ⟨_, _, h⟩
theorem Keeps1.sy {z : SgS} (h : Keeps1 z) : Keeps1 (syZ z) := by obtain ⟨F, y, h⟩ := h; exact ⟨_, _, h.sy⟩
theorem Keeps1.cs {z : SgS} (h : Keeps1 z) (k : Int) : Keeps1 (csZ z k) := by obtain ⟨F, y, h⟩ := h; exact ⟨_, _, h.cs k⟩
theorem Keeps1.step {z : SgS} (h : Keeps1 z) {kd N c n : Int} {t d : List Int} {is : Bool} (hd : isBytes d) : Keeps1 (dZ z kd N c n t d is) := by obtain ⟨F, y, h⟩ := h; exact ⟨_, _, h.step hd⟩
theorem ap_fold {F : Nat → Int → SgS → Wr → Option Res} {l : List Rc} {m : Int} {R : SgS → Rc → Wr → Option Res} {E : SgS → Wr → Option Res} {w1 : Wr} (hm : m = (l.length : Int)) (hl : l.length ≤ maxInt) (hb : ∀ x ∈ l, isBytes x.2.2)
    (h : ∀ N i z wr, F (N + 1) i z wr = bif decide (i < m) then (at? l i).bind fun x => bif goodS z then bif apErrR z i x != 0 then R (apZR z i x) x (app w1 wr) else F N (IntKind.i64.wrap (i + 1)) (apZR z i x) (app w1 wr) else none else E z wr) :
    ∀ (q j : Nat) (z : SgS) (wr : Wr), j + q = l.length → Keeps1 z → F (q + 1) (j : Int) z wr = bif (apAll (l.drop j) j z).2.1 then E (apAll (l.drop j) j z).1 (app (repApp (apK (l.drop j) j z) w1) wr) else R (apAll (l.drop j) j z).1 (apAll (l.drop j) j z).2.2 (app (repApp (apK (l.drop j) j z) w1) wr) := by
  intro q
  induction q with
  | zero =>
    intro j z wr hj hz
    have hd : l.drop j = [] := List.drop_of_length_le (by omega)
    rw [h, cond_ne (decide_eq_false (by omega)), hd]
    rfl
  | succ q ih =>
    intro j z wr hj hz
    have hlt : j < l.length := by omega
    have hd : l.drop j = l[j] :: l.drop (j + 1) := List.drop_eq_getElem_cons hlt
    have hx : l[j]? = some l[j] := List.getElem?_eq_getElem hlt
    have hbx := hb l[j] (List.getElem_mem hlt)
    rw [h, cond_eq (decide_eq_true (by omega)), at_some hx, Option.bind_some, hz.good, cond_true, wrap_next hlt hl, hd]
    generalize l[j] = x at hbx hx
    simp only [apAll, apK]
    cases he : (apErrR z (j : Int) x != 0) with
    | true => simp only [cond_true, cond_false, repApp, app_eq, List.append_nil]
    | false =>
      have hi := ih (j + 1) (apZR z (j : Int) x) (app w1 wr) (by omega) (hz.ap hbx)
      simp only [cond_false]
      rw [rep_more]
      exact hi
/-- a segment that was opened with nothing. -/
def z0 : SgS := ⟨[], 0, 0, false, [], 0, false⟩
theorem z0_inv : SgInv z0 [] 0 := ⟨⟨rfl, (fun x hx => by cases hx), Nat.zero_le _, Nat.zero_le _, rfl⟩, rfl, rfl, rfl, rfl⟩
theorem open0 : ofB (nwB []) (scanN (([] : List Int).take 65536)) false = z0 := by
  rw [nwB_nil, scanN_nil]; rfl
structure Fresh (z : SgS) (L : List Rc) : Prop where
  inv : ∃ F, SgInv z F 0
  l : z.l = L
  t : z.t = 0
  s : z.s = 0
  br : z.br = false
  n : z.n = 0
  o : z.o = false
  len : z.b.length ≤ 1220 * L.length
theorem z0_fresh : Fresh z0 [] := ⟨⟨[], z0_inv⟩, rfl, rfl, rfl, rfl, rfl, rfl, Nat.zero_le _⟩
theorem apErr_go {z : SgS} (ht : z.t ≤ (z.l.length : Int)) {c n : Int} {t d : List Int} (h : apErr z (z.l.length : Int) c n t d = 0) : apGo z (z.l.length : Int) c n t d = true := by
  unfold apErr at h
  unfold apGo
  rw [decide_eq_false (show ¬ (z.l.length : Int) < 0 by omega), decide_eq_false (show ¬ (z.l.length : Int) < z.t by omega), decide_eq_false (show ¬ (z.l.length : Int) < (z.l.length : Int) by omega)] at h ⊢
  cases hr : rightR c n t d with
  | false => rw [hr] at h; cases h
  | true =>
    rw [hr] at h
    cases hbr : z.br with
    | true => rw [hbr] at h; cases h
    | false =>
      rw [hbr] at h
      cases h5 : decide ((z.l.length : Int) ≥ 512) with
      | true => rw [h5] at h; cases h
      | false =>
        rw [h5] at h
        cases ha : appOK z.b (1 :: encB c n t d) z.o with
        | true => rfl
        | false => rw [ha] at h; cases ho : z.o <;> rw [ho] at h <;> cases h
theorem apGo_len {z : SgS} {lc c n : Int} {t d : List Int} (h : apGo z lc c n t d = true) : lc = (z.l.length : Int) := by
  unfold apGo at h
  simp only [Bool.and_eq_true, Bool.not_eq_true', decide_eq_false_iff_not] at h
  obtain ⟨_, _, _, h1, h2, _⟩ := h
  omega
theorem Fresh.ap {z : SgS} {L : List Rc} (h : Fresh z L) {x : Rc} (hd : isBytes x.2.2) (he : apErrR z (L.length : Int) x = 0) : Fresh (apZR z (L.length : Int) x) (L ++ [x]) := by
  obtain ⟨F, hI⟩ := h.inv
  have hl := h.l
  subst hl
  have hg := apErr_go (by rw [h.t]; omega) he
  have hlen := h.len
  have he1 := encB_len x.1.1 x.1.2 x.2.1 x.2.2
  have hf := frB_le (x := 1 :: encB x.1.1 x.1.2 x.2.1 x.2.2) (by simp only [List.length_cons]; omega)
  refine ⟨⟨_, hI.ap hd hg⟩, ?_, h.t, h.s, h.br, h.n, h.o, ?_⟩
  · show (bif apGo z _ _ _ _ _ then _ else _) = _
    rw [hg]; rfl
  · show (bif apGo z (z.l.length : Int) x.1.1 x.1.2 x.2.1 x.2.2 then z.b ++ frB (1 :: encB x.1.1 x.1.2 x.2.1 x.2.2) else z.b).length ≤ _
    rw [hg]
    simp only [cond_true, List.length_append, List.length_cons, List.length_nil] at hf ⊢
    omega
theorem apAll_fresh : ∀ (r : List Rc) (L : List Rc) (z : SgS), Fresh z L → (∀ x ∈ r, isBytes x.2.2) → (apAll r L.length z).2.1 = true → Fresh (apAll r L.length z).1 (L ++ r)
  | [], L, z, h, _, _ => by rw [List.append_nil]; exact h
  | x :: r, L, z, h, hb, ha => by
    simp only [apAll] at ha ⊢
    cases he : (apErrR z (L.length : Int) x != 0) with
    | true => rw [he] at ha; cases ha
    | false =>
      rw [he] at ha
      simp only [cond_false] at ha ⊢
      have h1 := h.ap (hb x (by simp)) (by simpa using he)
      have h2 := apAll_fresh r (L ++ [x]) (apZR z (L.length : Int) x) h1 (fun y hy => hb y (by simp [hy])) (by rw [List.length_append]; exact ha)
      rw [List.length_append, List.append_assoc] at h2
      exact h2
/-- a segment as it was opened with nothing, told by what is looked at. -/
def isZ0 (z : SgS) : Bool := decide (z.l.length = 0) && (decide (z.t = 0) && (decide (z.s = 0) && (decide (z.b.length = 0) && decide (z.n = 0))))
theorem isZ0_eq {z : SgS} (h : isZ0 z = true) (hbr : z.br = false) (ho : z.o = false) : z = z0 := by
  unfold isZ0 at h
  simp only [Bool.and_eq_true, decide_eq_true_eq] at h
  obtain ⟨h1, h2, h3, h4, h5⟩ := h
  obtain ⟨l, t, s, br, b, n, o⟩ := z
  simp only at h1 h2 h3 h4 h5 hbr ho
  rw [List.eq_nil_of_length_eq_zero h1, h2, h3, List.eq_nil_of_length_eq_zero h4, h5, hbr, ho]
  rfl
theorem z0_chk : isZ0 ⟨(sgR (scanL (nwB [])) [] 0).1, (sgR (scanL (nwB [])) [] 0).2.1, ((sgR (scanL (nwB [])) [] 0).1.length : Int), false, nwB [], scanN (([] : List Int).take 65536), false⟩ = true := by
  rw [nwB_nil, scanN_nil]; rfl
theorem chk0 (m : Int) : (decide (m = m) && (decide ((0 : Int) = 0) && isZ0 ⟨(sgR (scanL (nwB [])) [] 0).1, (sgR (scanL (nwB [])) [] 0).2.1, ((sgR (scanL (nwB [])) [] 0).1.length : Int), false, nwB [], scanN (([] : List Int).take 65536), false⟩)) = true := by
  rw [z0_chk]; simp
abbrev seatOb (j i : Nat) : Ob := .cells [.ptr 0 j 0, .ptr 0 i 0]
abbrev H4 (z : SgS) : List Ob := [seatOb 1 2, sgD z, sgO 1 z, seatOb 1 2]
abbrev H5 (x : Rc) (z : SgS) : List Ob := [recObR x, seatOb 2 3, sgD z, sgO 2 z, seatOb 2 3]
theorem all0_outer {l : Wr} (h : all0 l = true) (n : Nat) (w : Wr) : outer (app (repApp n l) w) = outer w := outer_app0 _ _ (all0_rep h n)
theorem sz_rec {l : List Rc} (h : Sz (.slice RecT) l) : ∀ x ∈ l, isBytes x.2.2 := fun x hx y hy => (h.2 x hx).2.2.2 y hy
theorem ok_rec {l : List Rc} (h : okAV (.slice RecT l .view)) : l.length ≤ maxInt ∧ ∀ x ∈ l, isBytes x.2.2 := by
  simp only [okAV] at h
  exact ⟨h.1, fun x hx => (h.2 x hx).2.2.2⟩
end Go.Crc
