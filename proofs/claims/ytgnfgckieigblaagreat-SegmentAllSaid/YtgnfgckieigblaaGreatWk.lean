/- Contracts of functions of this program. Conditions: none. -/
import Derived.Test.YtgnfgckieigblaaGreatWh
import Derived.Test.YtgnfgckieigblaaGreatWf
import Derived.Test.YtgnfgckieigblaaGreatVp
set_option linter.unusedVariables false
set_option linter.unusedSimpArgs false
/- Segments: records of their own, how many, one frame. Conditions: none. A text of this seat's numbers. -/
set_option linter.unusedVariables false
set_option linter.unusedSimpArgs false
set_option maxRecDepth 100000
namespace Go.Crc
open Go.Vm Go.Pack Go.Rec Go.RowKit
def cfgS : Cfg := cfgOf [(n_pack_Num, [0]), (n_pack_Text, [0])] [n_pack_Num, n_pack_Text, n_crc_New, n_crc_Table_Put, n_record_Encode, n_pack_NewReader, n_slices_Clone_byte_byte] []
def recA (x : Rc) : AV := rec4 x.1.1 x.1.2 x.2.1 x.2.2
def subW : Wr → Wr → Bool
  | [], _ => true
  | (l, i) :: r, w => memWr l i w && subW r w
theorem subW_le : ∀ {a b : Wr}, subW a b = true → WLe a b
  | [], b, _, l, i, _ => rfl
  | (x, y) :: r, b, h, l, i, hm => by
    simp only [subW, Bool.and_eq_true] at h
    have := subW_le h.2 l i hm
    simp only [memWr, this, Bool.or_false]
    cases hx : (Nat.beq l x && Nat.beq i y) with
    | false => rfl
    | true =>
      simp only [Bool.and_eq_true, beq_iff] at hx
      obtain ⟨rfl, rfl⟩ := hx
      rw [h.1] at hm; cases hm
/-! ### own -/
def ownRF : List AV → Tr AV
  | [.agg [.int .i64 c, .int .i64 n, .slice (.int .i64) t .view, .str d]] => .br (decide (t.length * 8 ≤ 140737488355328)) (.yes (rec4 c n t d)) .no
  | _ => .no
theorem ownR_ok : Con PR A n_segment_own (pureC ownRF) := by
  refine pure_con0 (cfg := cfgS) [cliE] mixed (by kernel_rfl) (by kernel_rfl) (by kernel_rfl) fun args v hv ha S => ?_
  unfold ownRF at hv
  split at hv
  · rename_i c n t d
    obtain ⟨hc, hv2⟩ := Tr.br_no hv
    cases hv2
    have h : body PR (cfE (P := PR) (A := A) [cliE]) cfgS lf0 n_segment_own [rec4 c n t d] S some = (bif decide (t.length * 8 ≤ 140737488355328) then some (rec4 c n t d, [], S) else none) := by kernel_rfl
    refine h.trans ?_
    rw [hc]; rfl
  · cases hv
def ownRE : Ent PR A := ⟨n_segment_own, _, ownR_ok⟩
/-! ### The two objects -/
structure SgS where
  l : List Rc
  t : Int
  s : Int
  br : Bool
  b : List Int
  n : Int
  o : Bool
abbrev sgC (L : List Rc) (t s : Int) (br : Bool) : List AV := [.ptr 0 1 0, .slice RecT L .own, .int .i64 t, .int .i64 s, .bool br]
abbrev stC (b : List Int) (n : Int) (o : Bool) : List AV := [.slice (.int .u8) b .own, .int .i64 n, .bool o]
abbrev sgH (z : SgS) : Stack := [[], [.cells (sgC z.l z.t z.s z.br), .cells (stC z.b z.n z.o)]]
def mapT {α β : Type} (g : α → β) : Tr α → Tr β
  | .no => .no
  | .yes a => .yes (g a)
  | .br c t e => .br c (mapT g t) (mapT g e)
theorem mapT_val {α β : Type} (g : α → β) : ∀ {t : Tr α} {b : β}, (mapT g t).val = some b → ∃ a, t.val = some a ∧ b = g a
  | .no, b, h => by cases h
  | .yes a, b, h => by cases h; exact ⟨a, rfl, rfl⟩
  | .br c t e, b, h => by
    cases c with
    | true => exact mapT_val g (t := t) h
    | false => exact mapT_val g (t := e) h
def sgF (w0 w1 : Bool) (f : List AV → SgS → Tr (AV × SgS)) : F2 := fun rest cs ds => match cs, ds with
  | [.ptr 0 1 0, .slice (.pair (.pair (.int .i64) (.int .i64)) (.pair (.slice (.int .i64)) .str)) L .own, .int .i64 t, .int .i64 s, .bool br], [.slice (.int .u8) b .own, .int .i64 n, .bool o] =>
    mapT (fun y => (y.1, w0, w1, sgC y.2.l y.2.t y.2.s y.2.br, stC y.2.b y.2.n y.2.o)) (f rest ⟨L, t, s, br, b, n, o⟩)
  | _, _ => .no
theorem sg_two {g : Nat} {hd : Nat → Nat → Nat → Nat → AV} {w0 w1 : Bool} {f : List AV → SgS → Tr (AV × SgS)}
    (h : ∀ rest z v z', (f rest z).val = some (v, z') → noPtr.noPtrs rest = true ∧ noPtr v = true ∧ (w0 = false → z'.l = z.l ∧ z'.t = z.t ∧ z'.s = z.s ∧ z'.br = z.br) ∧ (w1 = false → z'.b = z.b ∧ z'.n = z.n ∧ z'.o = z.o) ∧
      (okAVs rest → okH (sgH z) → SimCall PR A g (hd 1 0 1 1 :: rest) (sgH z) (v, wr2 1 0 1 1 w0 w1, sgH z'))) : Two PR A g hd (sgF w0 w1 f) := by
  intro rest cs ds v w0' w1' cs' ds' hv
  unfold sgF at hv
  split at hv
  · obtain ⟨⟨v1, z'⟩, h1, h2⟩ := mapT_val _ hv
    cases h2
    obtain ⟨g1, g2, g3, g4, g5⟩ := h _ _ _ _ h1
    refine ⟨g1, rfl, ptrsIn_noPtr _ _ g2, rfl, rfl, fun hw => ?_, fun hw => ?_, g5⟩
    · obtain ⟨q1, q2, q3, q4⟩ := g3 hw
      simp only [sgC, q1, q2, q3, q4]
    · obtain ⟨q1, q2, q3⟩ := g4 hw
      simp only [stC, q1, q2, q3]
  · cases hv
/-! ### How many -/
def sLenF : List AV → SgS → Tr (AV × SgS)
  | [], z => .yes (.int .i64 z.l.length, z)
  | _, _ => .no
theorem sLen_ok : Con PR A n_segment_Segment_Len (obj2C (sgF false false sLenF)) := by
  refine obj2C_ok (sg_two fun rest z v z' hv => ?_)
  unfold sLenF at hv
  split at hv
  · cases hv
    refine ⟨rfl, rfl, by simp, by simp, fun _ _ => ?_⟩
    have h : body PR (cfE (P := PR) (A := A) []) cfgS lf0 n_segment_Segment_Len [.ptr 1 0 0] (sgH z) some = some (.int .i64 z.l.length, [], sgH z) := by kernel_rfl
    exact fun_call _ mixed (by kernel_rfl) (by kernel_rfl) (no_loops (by kernel_rfl)) h
  · cases hv
def sLenE : Ent PR A := ⟨n_segment_Segment_Len, _, sLen_ok⟩
def sTrF : List AV → SgS → Tr (AV × SgS)
  | [], z => .yes (.int .i64 z.t, z)
  | _, _ => .no
theorem sTr_ok : Con PR A n_segment_Segment_Trimmed (obj2C (sgF false false sTrF)) := by
  refine obj2C_ok (sg_two fun rest z v z' hv => ?_)
  unfold sTrF at hv
  split at hv
  · cases hv
    refine ⟨rfl, rfl, by simp, by simp, fun _ _ => ?_⟩
    have h : body PR (cfE (P := PR) (A := A) []) cfgS lf0 n_segment_Segment_Trimmed [.ptr 1 0 0] (sgH z) some = some (.int .i64 z.t, [], sgH z) := by kernel_rfl
    exact fun_call _ mixed (by kernel_rfl) (by kernel_rfl) (no_loops (by kernel_rfl)) h
  · cases hv
def sTrE : Ent PR A := ⟨n_segment_Segment_Trimmed, _, sTr_ok⟩
def sSaF : List AV → SgS → Tr (AV × SgS)
  | [], z => .yes (.int .i64 z.s, z)
  | _, _ => .no
theorem sSa_ok : Con PR A n_segment_Segment_Safe (obj2C (sgF false false sSaF)) := by
  refine obj2C_ok (sg_two fun rest z v z' hv => ?_)
  unfold sSaF at hv
  split at hv
  · cases hv
    refine ⟨rfl, rfl, by simp, by simp, fun _ _ => ?_⟩
    have h : body PR (cfE (P := PR) (A := A) []) cfgS lf0 n_segment_Segment_Safe [.ptr 1 0 0] (sgH z) some = some (.int .i64 z.s, [], sgH z) := by kernel_rfl
    exact fun_call _ mixed (by kernel_rfl) (by kernel_rfl) (no_loops (by kernel_rfl)) h
  · cases hv
def sSaE : Ent PR A := ⟨n_segment_Segment_Safe, _, sSa_ok⟩
/-! ### One frame -/
def sFrF : List AV → SgS → Tr (AV × SgS)
  | [.slice (.int .u8) f .view], z => .br (decide (z.l.length ≤ 100000) && decide (f.length ≤ 100000)) (.yes (.bool (sgOK z.l.length z.t f), { z with l := sgL z.l f, t := sgT z.l.length z.t f })) .no
  | _, _ => .no
noncomputable abbrev EFr : List (Ent PR A) := [decE, newReaderE, numE, endE]
theorem sFr_eq (f : List Int) (L : List Rc) (t s : Int) (br : Bool) (b : List Int) (n : Int) (o : Bool) : body PR (cfE EFr) cfgS lf0 n_segment_Segment_frame [.ptr 1 0 0, .slice (.int .u8) f .view] (sgH ⟨L, t, s, br, b, n, o⟩) some =
    (bif (f.length : Int) == 0 then some (.bool false, [], sgH ⟨L, t, s, br, b, n, o⟩)
    else (at? f 0).bind fun x => bif x == 1 then
        bif true && decide ((1 : Int) ≤ (f.length : Int)) then bif decide (((f.take f.length).drop 1).length ≤ 140737488355328) then
          bif decErr ((f.take f.length).drop 1) != 0 then some (.bool false, [], sgH ⟨L, t, s, br, b, n, o⟩)
          else bif decide ((L.length + 1) * 56 ≤ 140737488355328) then some (.bool true, [(1, 0)], sgH ⟨L ++ [decR ((f.take f.length).drop 1)], t, s, br, b, n, o⟩) else none
        else none else none
      else bif x == 2 then
        bif true && decide ((1 : Int) ≤ (f.length : Int)) then bif decide (((f.take f.length).drop 1).length ≤ 140737488355328) then
          bif endR (sgN L.length ((f.take f.length).drop 1)).1 != 0 then some (.bool false, [], sgH ⟨L, t, s, br, b, n, o⟩)
          else bif decide ((sgN L.length ((f.take f.length).drop 1)).2 < t) then some (.bool false, [], sgH ⟨L, t, s, br, b, n, o⟩)
          else some (.bool true, [(1, 0)], sgH ⟨L, (sgN L.length ((f.take f.length).drop 1)).2, s, br, b, n, o⟩)
        else none else none
      else some (.bool false, [], sgH ⟨L, t, s, br, b, n, o⟩)) := by kernel_rfl
theorem sFr_ok : Con PR A n_segment_Segment_frame (obj2C (sgF true false sFrF)) := by
  refine obj2C_ok (sg_two fun rest z v z' hv => ?_)
  unfold sFrF at hv
  split at hv
  · rename_i f
    obtain ⟨hc, hv2⟩ := Tr.br_no hv
    cases hv2
    simp only [Bool.and_eq_true, decide_eq_true_eq] at hc
    refine ⟨rfl, rfl, by simp, by simp, fun _ _ => ?_⟩
    obtain ⟨L, t, s, br, b, n, o⟩ := z
    have hcall : ∀ v wr S', body PR (cfE EFr) cfgS lf0 n_segment_Segment_frame [.ptr 1 0 0, .slice (.int .u8) f .view] (sgH ⟨L, t, s, br, b, n, o⟩) some = some (v, wr, S') → subW wr [(1, 0)] = true → SimCall PR A n_segment_Segment_frame [.ptr 1 0 0, .slice (.int .u8) f .view] (sgH ⟨L, t, s, br, b, n, o⟩) (v, [(1, 0)], S') := fun v wr S' h hs =>
      SimCall.wr (fun_call _ mixed (by kernel_rfl) (by kernel_rfl) (no_loops (by kernel_rfl)) h) (subW_le hs)
    have hE := sFr_eq f L t s br b n o
    cases f with
    | nil => exact hcall _ _ _ hE rfl
    | cons x r =>
      obtain ⟨h1, h2⟩ := hc
      simp only at h1
      simp only [List.length_cons] at h2
      have e0 : (((x :: r).length : Int) == 0) = false := by simp; omega
      have e1 : ((x :: r).take (x :: r).length).drop 1 = r := by rw [List.take_of_length_le (Nat.le_refl _)]; rfl
      have e2 : at? (x :: r) 0 = some x := rfl
      rw [e0, e1, e2, decide_eq_true (show (1 : Int) ≤ ((x :: r).length : Int) by simp only [List.length_cons]; omega), decide_eq_true (show r.length ≤ 140737488355328 by omega), decide_eq_true (show (L.length + 1) * 56 ≤ 140737488355328 by omega)] at hE
      simp only [cond_false, Option.bind_some, Bool.and_self, cond_true] at hE
      simp only [sgOK, sgL, sgT]
      by_cases hx : x = 1
      · subst hx
        rw [show ((1 : Int) == 1) = true from rfl, cond_true] at hE
        rw [show ((1 : Int) == 1) = true from rfl, show ((1 : Int) == 2) = false from rfl]
        simp only [cond_true, cond_false, Bool.true_and, Bool.false_and]
        cases hd : (decErr r == 0) with
        | true =>
          rw [bne, hd] at hE
          exact hcall _ _ _ hE rfl
        | false =>
          rw [bne, hd] at hE
          exact hcall _ _ _ hE rfl
      · have n1 : (x == 1) = false := by simpa using hx
        rw [n1, cond_false] at hE
        rw [n1]
        simp only [cond_false, Bool.false_and]
        by_cases hx2 : x = 2
        · subst hx2
          rw [show ((2 : Int) == 2) = true from rfl, cond_true] at hE
          rw [show ((2 : Int) == 2) = true from rfl]
          simp only [cond_true, Bool.true_and]
          cases hd : (endR (sgN L.length r).1 == 0) with
          | false =>
            rw [bne, hd] at hE
            exact hcall _ _ _ hE rfl
          | true =>
            rw [bne, hd] at hE
            cases hd2 : decide ((sgN L.length r).2 < t) with
            | true => rw [hd2] at hE; exact hcall _ _ _ hE rfl
            | false => rw [hd2] at hE; exact hcall _ _ _ hE rfl
        · have n2 : (x == 2) = false := by simpa using hx2
          rw [n2] at hE
          rw [n2]
          exact hcall _ _ _ hE rfl
  · cases hv
def sFrE : Ent PR A := ⟨n_segment_Segment_frame, _, sFr_ok⟩
end Go.Crc

/- Segments: all frames read, all records told. Conditions: none. A text of this seat's numbers. -/
set_option linter.unusedVariables false
set_option linter.unusedSimpArgs false
set_option maxRecDepth 100000
namespace Go.Crc
open Go.Vm Go.Pack Go.Rec Go.RowKit
def rightRc (x : Rc) : Bool := rightR x.1.1 x.1.2 x.2.1 x.2.2
def goodS (z : SgS) : Bool := decide (z.l.length ≤ 100000) && (decide (0 ≤ z.t) && (decide (z.t ≤ (z.l.length : Int)) && (decide (z.b.length ≤ 65536) && (decide (0 ≤ z.n) && (decide (z.n ≤ (z.b.length : Int)) && z.l.all rightRc)))))
theorem goodS_iff {z : SgS} : goodS z = true ↔ z.l.length ≤ 100000 ∧ 0 ≤ z.t ∧ z.t ≤ (z.l.length : Int) ∧ z.b.length ≤ 65536 ∧ 0 ≤ z.n ∧ z.n ≤ (z.b.length : Int) ∧ z.l.all rightRc = true := by
  unfold goodS
  simp only [Bool.and_eq_true, decide_eq_true_eq]
theorem rightRc_tags {x : Rc} (h : rightRc x = true) : x.2.1.length ≤ 8 := (rightR_iff.1 h).2.2.1
theorem all_get {L : List Rc} (h : L.all rightRc = true) {i : Nat} {x : Rc} (hx : L[i]? = some x) : rightRc x = true := List.all_eq_true.1 h x (List.mem_of_getElem? hx)
/-! ### reread -/
def sgK : List (List Int) → Nat → Int → List Rc → Nat
  | [], _, _, _ => 0
  | f :: r, m, t, L => bif sgOK L.length t f then sgK r m (sgT L.length t f) (sgL L f) + 1 else 2
def smF (fl : List (List Int)) : Bool := decide (fl.length ≤ 20000) && fl.all fun f => decide (f.length ≤ 100000)
def rrLF (vs : List AV) (H : Stack) : Tr (Ex × List AV × Stack × Wr) := match vs, H with
  | [.ptr 2 0 0, .slice (.slice (.int .u8)) fl .view, .int .i64 m, .int .i64 i], [[], [], [.cells [.ptr 0 1 0, .slice (.pair (.pair (.int .i64) (.int .i64)) (.pair (.slice (.int .i64)) .str)) L .own, .int .i64 t, .int .i64 s, .bool false], .cells [.slice (.int .u8) b .own, .int .i64 n, .bool o]]] =>
    .br (decide (m = fl.length) && (decide (i = 0) && (decide (L.length ≤ 1000) && smF fl))) (.yes (.exit 0, [.ptr 2 0 0], [[], [], [.cells (sgC (sgR fl L t).1 (sgR fl L t).2.1 s (sgR fl L t).2.2), .cells (stC b n o)]], repApp (sgK fl 0 t L) [(2, 0)])) .no
  | _, _ => .no
def lfSgR : Nat → Option LoopSum := lfOf [(26, loopT [0, 17, 18, 19] [0] rrLF)]
noncomputable abbrev ERr : List (Ent PR A) := [stFrE, sFrE]
noncomputable abbrev LSgR (N : Nat) := LC PR (cfE ERr) cfgS lfSgR n_segment_Segment_reread 0 26 [0, 17, 18, 19] [0] N
theorem sgr_round (fl : List (List Int)) (L : List Rc) (t s m i : Int) (br : Bool) (b : List Int) (n : Int) (o : Bool) (wr : Wr) (N : Nat) (k : Ex → List AV → Stack → Wr → Option Res) :
    LSgR (N + 1) [.ptr 2 0 0, .slice TRow fl .view, .int .i64 m, .int .i64 i] [[], [], [.cells (sgC L t s br), .cells (stC b n o)]] wr k =
      (bif decide (i < m) then (at? fl i).bind fun f => bif decide (L.length ≤ 100000) && decide (f.length ≤ 100000) then
        bif !sgOK L.length t f then k (.exit 0) [.ptr 2 0 0] [[], [], [.cells (sgC (sgL L f) (sgT L.length t f) s true), .cells (stC b n o)]] ((2, 0) :: (2, 0) :: wr)
        else LSgR N [.ptr 2 0 0, .slice TRow fl .view, .int .i64 m, .int .i64 (IntKind.i64.wrap (i + 1))] [[], [], [.cells (sgC (sgL L f) (sgT L.length t f) s br), .cells (stC b n o)]] ((2, 0) :: wr) k
      else none else k (.exit 0) [.ptr 2 0 0] [[], [], [.cells (sgC L t s br), .cells (stC b n o)]] wr) := by kernel_rfl
theorem sg_bad {L : List Rc} {t : Int} {f : List Int} (h : sgOK L.length t f = false) : sgL L f = L ∧ sgT L.length t f = t := by
  cases f with
  | nil => exact ⟨rfl, rfl⟩
  | cons x r =>
    simp only [sgL, sgT]
    rw [h, Bool.and_false]
    refine ⟨?_, rfl⟩
    simp only [sgOK] at h
    by_cases hx : x = 1
    · subst hx
      rw [show ((1 : Int) == 1) = true from rfl, cond_true] at h
      rw [h]; rfl
    · rw [show (x == 1) = false by simpa using hx]; rfl
theorem sgr_loop (fl : List (List Int)) (m : Int) (hm : m = (fl.length : Int)) (hl : smF fl = true) (s : Int) (b : List Int) (n : Int) (o : Bool) (k : Ex → List AV → Stack → Wr → Option Res) : ∀ (q j : Nat) (L : List Rc) (t : Int) (wr : Wr), j + q = fl.length → L.length ≤ 1000 + j →
    LSgR (q + 1) [.ptr 2 0 0, .slice TRow fl .view, .int .i64 m, .int .i64 (j : Int)] [[], [], [.cells (sgC L t s false), .cells (stC b n o)]] wr k =
      k (.exit 0) [.ptr 2 0 0] [[], [], [.cells (sgC (sgR (fl.drop j) L t).1 (sgR (fl.drop j) L t).2.1 s (sgR (fl.drop j) L t).2.2), .cells (stC b n o)]] (app (repApp (sgK (fl.drop j) 0 t L) [(2, 0)]) wr) := by
  unfold smF at hl
  simp only [Bool.and_eq_true, decide_eq_true_eq, List.all_eq_true] at hl
  obtain ⟨hl, hf⟩ := hl
  intro q
  induction q with
  | zero =>
    intro j L t wr hj hL
    have hd : fl.drop j = [] := List.drop_of_length_le (by omega)
    rw [sgr_round, cond_ne (decide_eq_false (by omega)), hd]
    rfl
  | succ q ih =>
    intro j L t wr hj hL
    have hlt : j < fl.length := by omega
    have hw := wrap_next hlt (show fl.length ≤ maxInt by simp only [maxInt]; omega)
    have hd : fl.drop j = fl[j] :: fl.drop (j + 1) := List.drop_eq_getElem_cons hlt
    have hx : fl[j]? = some fl[j] := List.getElem?_eq_getElem hlt
    have hfx := hf fl[j] (List.getElem_mem hlt)
    rw [sgr_round, cond_eq (decide_eq_true (by omega)), at_some hx, Option.bind_some, hw, hd]
    generalize fl[j] = f at hfx hx
    rw [decide_eq_true hfx, decide_eq_true (show L.length ≤ 100000 by omega)]
    simp only [Bool.and_self, cond_true, sgR, sgK]
    cases hok : sgOK L.length t f with
    | true =>
      have hll := sgL_len L f
      have hi := ih (j + 1) (sgL L f) (sgT L.length t f) ((2, 0) :: wr) (by omega) (by omega)
      simp only [Bool.not_true, cond_false, cond_true]
      rw [rep_more]
      exact hi
    | false =>
      obtain ⟨e1, e2⟩ := sg_bad hok
      simp only [Bool.not_false, cond_true, cond_false]
      rw [e1, e2]
      rfl
theorem sgr_loops : ∀ x ∈ funLoops PR n_segment_Segment_reread, ∀ L, lfSgR x.1 = some L → LoopOK (ntm PR n_segment_Segment_reread) (fun fr H wr k => code PR (cfE ERr) cfgS lfSgR (cfgS.live n_segment_Segment_reread) x.2 (2 * x.1) fr H wr k) L := by
  refine one_loop (p := 26) rfl (by kernel_rfl) (loopT_ok (by decide) fun vs H wr ex vs' H' w hv ha hh => ?_)
  unfold rrLF at hv
  split at hv
  · rename_i fl m i L t s b n o
    obtain ⟨hc, hv2⟩ := Tr.br_no hv
    cases hv2
    simp only [Bool.and_eq_true, decide_eq_true_eq] at hc
    obtain ⟨h1, h2, h3, h4⟩ := hc
    subst h2
    refine ⟨fl.length + 1, fun k => ?_⟩
    have := sgr_loop fl m h1 h4 s b n o k fl.length 0 L t wr (by omega) (by omega)
    rw [List.drop_zero] at this
    exact this
  · cases hv
def sReF : List AV → SgS → Tr (AV × SgS)
  | [], z => .br (decide (z.b.length ≤ 65536)) (.yes (.tuple [], { z with l := (sgR (scanL z.b) [] 0).1, t := (sgR (scanL z.b) [] 0).2.1, s := ((sgR (scanL z.b) [] 0).1.length : Int), br := (sgR (scanL z.b) [] 0).2.2 })) .no
  | _, _ => .no
theorem scan_lens {b : List Int} (hb : isBytes b) (h : b.length ≤ 65536) : smF (scanL b) = true := by
  have h1 := scan_count hb
  have h2 := scan_small b.length b (Nat.le_refl _) hb
  unfold smF
  rw [decide_eq_true (show (scanL b).length ≤ 20000 by omega)]
  simp only [Bool.true_and, List.all_eq_true, decide_eq_true_eq]
  intro x hx
  have := (h2 x hx).1
  omega
theorem outer_rep2 (l i : Nat) (hm : memWr l i [(1, 0)] = false) : ∀ (n : Nat) (wr : Wr), memWr l i (outer wr) = false → memWr l i (outer (app (repApp n [(2, 0)]) wr)) = false
  | 0, wr, h => h
  | n + 1, wr, h => by
    have ih := outer_rep2 l i hm n wr h
    simp only [memWr, Bool.or_false] at hm
    simp only [repApp, app, outer, memWr, hm, Bool.false_or]
    exact ih
theorem okH_bytes {z : SgS} (hh : okH (sgH z)) : isBytes z.b := by
  have := hh 1 1 _ rfl
  simp only [okAVs, okAV] at this
  exact this.1.2
theorem sRe_ok : Con PR A n_segment_Segment_reread (obj2C (sgF true false sReF)) := by
  refine obj2C_ok (sg_two fun rest z v z' hv => ?_)
  unfold sReF at hv
  split at hv
  · obtain ⟨hc, hv2⟩ := Tr.br_no hv
    cases hv2
    simp only [decide_eq_true_eq] at hc
    refine ⟨rfl, rfl, by simp, by simp, fun _ hh => ?_⟩
    obtain ⟨L, t, s, br, b, n, o⟩ := z
    have hb := okH_bytes hh
    simp only at hc hb
    have h : body PR (cfE ERr) cfgS lfSgR n_segment_Segment_reread [.ptr 1 0 0] (sgH ⟨L, t, s, br, b, n, o⟩) some =
      (bif decide (b.length ≤ 1000000) then bif decide (((scanL b).length : Int) = (scanL b).length) && (decide ((0 : Int) = 0) && (true && smF (scanL b))) then
        some (.tuple [], outer ((2, 0) :: app (repApp (sgK (scanL b) 0 0 []) [(2, 0)]) [(2, 0), (2, 0), (2, 0)]), sgH ⟨(sgR (scanL b) [] 0).1, (sgR (scanL b) [] 0).2.1, ((sgR (scanL b) [] 0).1.length : Int), (sgR (scanL b) [] 0).2.2, b, n, o⟩)
      else none else none) := by kernel_rfl
    rw [decide_eq_true (show b.length ≤ 1000000 by omega), scan_lens hb hc, decide_eq_true rfl, decide_eq_true rfl] at h
    refine SimCall.wr (fun_call _ mixed (by kernel_rfl) (by kernel_rfl) sgr_loops h) fun l i hm => ?_
    have hm' : memWr l i [(1, 0)] = false := hm
    have h2 := outer_rep2 l i hm' (sgK (scanL b) 0 0 []) [(2, 0), (2, 0), (2, 0)] (by
      simp only [memWr, Bool.or_false] at hm'
      simp [outer, memWr, hm'])
    simp only [memWr, Bool.or_false] at hm'
    simp only [outer, memWr, hm', Bool.false_or]
    exact h2
  · cases hv
def sReE : Ent PR A := ⟨n_segment_Segment_reread, _, sRe_ok⟩
/-! ### All -/
def alLF (vs : List AV) (H : Stack) : Tr (Ex × List AV × Stack × Wr) := match vs, H with
  | [.slice (.pair (.pair (.int .i64) (.int .i64)) (.pair (.slice (.int .i64)) .str)) out .own, .slice (.pair (.pair (.int .i64) (.int .i64)) (.pair (.slice (.int .i64)) .str)) l .full, .int .i64 m, .int .i64 i], [] :: S =>
    .br (decide (m = l.length) && (decide (i = 0) && (decide (out.length = 0) && (decide (l.length ≤ 100000) && l.all rightRc)))) (.yes (.exit 0, [.slice RecT (out ++ l) .own], [] :: S, repApp l.length [(0, 0)])) .no
  | _, _ => .no
def lfAl : Nat → Option LoopSum := lfOf [(58, loopT [3, 24, 25, 26] [3] alLF)]
noncomputable abbrev LAl (N : Nat) := LC PR (cfE (P := PR) (A := A) [ownRE]) cfgS lfAl n_segment_Segment_All 0 58 [3, 24, 25, 26] [3] N
theorem al_round (out l : List Rc) (m i : Int) (S : Stack) (wr : Wr) (N : Nat) (k : Ex → List AV → Stack → Wr → Option Res) :
    LAl (N + 1) [.slice RecT out .own, .slice RecT l .full, .int .i64 m, .int .i64 i] ([] :: S) wr k =
      (bif decide (i < m) then (at? l i).bind fun x => bif decide (x.2.1.length * 8 ≤ 140737488355328) then bif decide ((out.length + 1) * 56 ≤ 140737488355328) then
        LAl N [.slice RecT (out ++ [x]) .own, .slice RecT l .full, .int .i64 m, .int .i64 (IntKind.i64.wrap (i + 1))] ([] :: S) ((0, 0) :: wr) k
      else none else none else k (.exit 0) [.slice RecT out .own] ([] :: S) wr) := by kernel_rfl
theorem al_loop (l : List Rc) (m : Int) (hm : m = (l.length : Int)) (hl : l.length ≤ 100000) (hr : l.all rightRc = true) (S : Stack) (k : Ex → List AV → Stack → Wr → Option Res) : ∀ (q j : Nat) (out : List Rc) (wr : Wr), j + q = l.length → out.length = j →
    LAl (q + 1) [.slice RecT out .own, .slice RecT l .full, .int .i64 m, .int .i64 (j : Int)] ([] :: S) wr k = k (.exit 0) [.slice RecT (out ++ l.drop j) .own] ([] :: S) (app (repApp q [(0, 0)]) wr) := by
  intro q
  induction q with
  | zero =>
    intro j out wr hj ho
    have hd : l.drop j = [] := List.drop_of_length_le (by omega)
    rw [al_round, cond_ne (decide_eq_false (by omega)), hd, List.append_nil]
    rfl
  | succ q ih =>
    intro j out wr hj ho
    have hlt : j < l.length := by omega
    have hw := wrap_next hlt (show l.length ≤ maxInt by simp only [maxInt]; omega)
    have hd : l.drop j = l[j] :: l.drop (j + 1) := List.drop_eq_getElem_cons hlt
    have hx : l[j]? = some l[j] := List.getElem?_eq_getElem hlt
    have ht := rightRc_tags (all_get hr hx)
    rw [al_round, cond_eq (decide_eq_true (by omega)), at_some hx, Option.bind_some, hw, hd]
    generalize l[j] = x at ht hx
    have hi := ih (j + 1) (out ++ [x]) ((0, 0) :: wr) (by omega) (by simp [ho])
    rw [List.append_assoc, List.singleton_append] at hi
    rw [decide_eq_true (show x.2.1.length * 8 ≤ 140737488355328 by omega), decide_eq_true (show (out.length + 1) * 56 ≤ 140737488355328 by omega), rep_more]
    exact hi
theorem al_loops : ∀ x ∈ funLoops PR n_segment_Segment_All, ∀ L, lfAl x.1 = some L → LoopOK (ntm PR n_segment_Segment_All) (fun fr H wr k => code PR (cfE (P := PR) (A := A) [ownRE]) cfgS lfAl (cfgS.live n_segment_Segment_All) x.2 (2 * x.1) fr H wr k) L := by
  refine one_loop (p := 58) rfl (by kernel_rfl) (loopT_ok (by decide) fun vs H wr ex vs' H' w hv ha hh => ?_)
  unfold alLF at hv
  split at hv
  · rename_i out l m i S
    obtain ⟨hc, hv2⟩ := Tr.br_no hv
    cases hv2
    simp only [Bool.and_eq_true, decide_eq_true_eq] at hc
    obtain ⟨h1, h2, h3, h4, h5⟩ := hc
    subst h2
    refine ⟨l.length + 1, fun k => ?_⟩
    have := al_loop l m h1 h4 h5 S k l.length 0 out wr (by omega) h3
    rw [List.drop_zero] at this
    exact this
  · cases hv
def sAlF : List AV → SgS → Tr (AV × SgS)
  | [], z => .br (goodS z) (.yes (.slice RecT (z.l.drop z.t.toNat) .view, z)) .no
  | _, _ => .no
theorem sAl_ok : Con PR A n_segment_Segment_All (obj2C (sgF false false sAlF)) := by
  refine obj2C_ok (sg_two fun rest z v z' hv => ?_)
  unfold sAlF at hv
  split at hv
  · obtain ⟨hc, hv2⟩ := Tr.br_no hv
    cases hv2
    obtain ⟨g1, g2, g3, g4, g5, g6, g7⟩ := goodS_iff.1 hc
    refine ⟨rfl, rfl, by simp, by simp, fun _ hh => ?_⟩
    obtain ⟨L, t, s, br, b, n, o⟩ := z
    simp only at g1 g2 g3 g7
    have h : body PR (cfE (P := PR) (A := A) [ownRE]) cfgS lfAl n_segment_Segment_All [.ptr 1 0 0] (sgH ⟨L, t, s, br, b, n, o⟩) some =
      (bif (decide (0 ≤ t) && decide (t ≤ (L.length : Int)) && decide ((L.length : Int) ≤ (L.length : Int))) && decide ((L.length : Int) = (L.length : Int)) then
        bif decide ((((L.take (L.length : Int).toNat).drop t.toNat).length : Int) = ((L.take (L.length : Int).toNat).drop t.toNat).length) && (decide ((0 : Int) = 0) && (true && (decide (((L.take (L.length : Int).toNat).drop t.toNat).length ≤ 100000) && ((L.take (L.length : Int).toNat).drop t.toNat).all rightRc))) then
          some (.slice RecT ([] ++ ((L.take (L.length : Int).toNat).drop t.toNat)) .view, outer (app (repApp ((L.take (L.length : Int).toNat).drop t.toNat).length [(0, 0)]) []), sgH ⟨L, t, s, br, b, n, o⟩)
        else none else none) := by kernel_rfl
    have e : L.take (L.length : Int).toNat = L := by rw [Int.toNat_natCast, List.take_of_length_le (Nat.le_refl _)]
    have hall : (L.drop t.toNat).all rightRc = true := List.all_eq_true.2 fun x hx => List.all_eq_true.1 g7 x (List.mem_of_mem_drop hx)
    rw [e, hall, decide_eq_true (show (L.drop t.toNat).length ≤ 100000 by rw [List.length_drop]; omega), decide_eq_true g2, decide_eq_true g3, decide_eq_true (Int.le_refl _), decide_eq_true rfl, decide_eq_true rfl, decide_eq_true rfl, outer_app0 _ _ (all0_rep rfl _)] at h
    exact fun_call _ mixed (by kernel_rfl) (by kernel_rfl) al_loops h
  · cases hv
def sAlE : Ent PR A := ⟨n_segment_Segment_All, _, sAl_ok⟩
end Go.Crc
