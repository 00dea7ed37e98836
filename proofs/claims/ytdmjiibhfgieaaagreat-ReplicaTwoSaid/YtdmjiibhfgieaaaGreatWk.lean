/- Contracts of functions of this program. Conditions: none. -/
import Derived.Test.YtdmjiibhfgieaaaGreatWj
import Derived.Test.YtdmjiibhfgieaaaGreatWg
import Derived.Test.YtdmjiibhfgieaaaGreatWi
import Derived.Test.YtdmjiibhfgieaaaGreatWf
set_option linter.unusedVariables false
set_option linter.unusedSimpArgs false
/- Replicas: how many, whether sealed, the store, whether an entry follows. Conditions: none. A text of this seat's numbers. -/
set_option linter.unusedVariables false
set_option linter.unusedSimpArgs false
set_option maxRecDepth 100000
namespace Go.Crc
open Go.Vm Go.Pack Go.Rec Go.RowKit
def cfgRp : Cfg := cfgOf [(n_pack_Num, [0]), (n_pack_Text, [0])] [n_pack_Num, n_pack_Text, n_crc_New, n_crc_Table_Put, n_pack_NewReader, n_slices_Clone_entry_Entry_entry_Entry] []
def subW : Wr → Wr → Bool
  | [], _ => true
  | (l, i) :: r, w => memWr l i w && subW r w
theorem subW_le : ∀ {a b : Wr}, subW a b = true → WLe a b
  | [], b, _, l, i, _ => rfl
  | (x, y) :: r, b, h, l, i, hm => by
    simp only [subW, Bool.and_eq_true] at h
    have := subW_le h.2 l i hm
    simp only [memWr, this, Bool.or_false]
    cases hx : (Nat.beq l x && Nat.beq i y) with
    | false => rfl
    | true =>
      simp only [Bool.and_eq_true, beq_iff] at hx
      obtain ⟨rfl, rfl⟩ := hx
      rw [h.1] at hm; cases hm
abbrev rpC (i t : Int) (L : List En) (se : Bool) : List AV := [.int .i64 i, .int .i64 t, .ptr 0 1 0, .slice EnT L .own, .bool se]
abbrev stC (b : List Int) (n : Int) (o : Bool) : List AV := [.slice (.int .u8) b .own, .int .i64 n, .bool o]
abbrev rpH (z : RpS) : Stack := [[], [.cells (rpC z.id z.te z.l z.se), .cells (stC z.b z.n z.o)]]
def mapT {α β : Type} (g : α → β) : Tr α → Tr β
  | .no => .no
  | .yes a => .yes (g a)
  | .br c t e => .br c (mapT g t) (mapT g e)
theorem mapT_val {α β : Type} (g : α → β) : ∀ {t : Tr α} {b : β}, (mapT g t).val = some b → ∃ a, t.val = some a ∧ b = g a
  | .no, b, h => by cases h
  | .yes a, b, h => by cases h; exact ⟨a, rfl, rfl⟩
  | .br c t e, b, h => by
    cases c with
    | true => exact mapT_val g (t := t) h
    | false => exact mapT_val g (t := e) h
def rpF (w0 w1 : Bool) (f : List AV → RpS → Tr (AV × RpS)) : F2 := fun rest cs ds => match cs, ds with
  | [.int .i64 i, .int .i64 t, .ptr 0 1 0, .slice (.pair (.int .i64) (.pair (.int .i64) (.pair (.slice (.int .i64)) (.pair (.int .i64) (.pair (.int .i64) (.int .i64)))))) L .own, .bool se], [.slice (.int .u8) b .own, .int .i64 n, .bool o] =>
    mapT (fun y => (y.1, w0, w1, rpC i t y.2.l y.2.se, stC y.2.b y.2.n y.2.o)) (f rest ⟨i, t, L, se, b, n, o⟩)
  | _, _ => .no
theorem rp_two {g : Nat} {hd : Nat → Nat → Nat → Nat → AV} {w0 w1 : Bool} {f : List AV → RpS → Tr (AV × RpS)}
    (h : ∀ rest z v z', (f rest z).val = some (v, z') → noPtr.noPtrs rest = true ∧ ptrsIn (pV 2) v = true ∧ (w0 = false → z'.l = z.l ∧ z'.se = z.se) ∧ (w1 = false → z'.b = z.b ∧ z'.n = z.n ∧ z'.o = z.o) ∧
      (okAVs rest → okH (rpH z) → SimCall PR A g (hd 1 0 1 1 :: rest) (rpH z) (v, wr2 1 0 1 1 w0 w1, rpH { z' with id := z.id, te := z.te }))) : Two PR A g hd (rpF w0 w1 f) := by
  intro rest cs ds v w0' w1' cs' ds' hv
  unfold rpF at hv
  split at hv
  · obtain ⟨⟨v1, z'⟩, h1, h2⟩ := mapT_val _ hv
    cases h2
    obtain ⟨g1, g2, g3, g4, g5⟩ := h _ _ _ _ h1
    refine ⟨g1, rfl, g2, rfl, rfl, fun hw => ?_, fun hw => ?_, g5⟩
    · obtain ⟨q1, q2⟩ := g3 hw
      simp only [rpC, q1, q2]
    · obtain ⟨q1, q2, q3⟩ := g4 hw
      simp only [stC, q1, q2, q3]
  · cases hv
def rLenF : List AV → RpS → Tr (AV × RpS)
  | [], z => .yes (.int .i64 z.l.length, z)
  | _, _ => .no
theorem rLen_ok : Con PR A n_replica_Replica_Len (obj2C (rpF false false rLenF)) := by
  refine obj2C_ok (rp_two fun rest z v z' hv => ?_)
  unfold rLenF at hv
  split at hv
  · cases hv
    refine ⟨rfl, rfl, by simp, by simp, fun _ _ => ?_⟩
    have h : body PR (cfE (P := PR) (A := A) []) cfgRp lf0 n_replica_Replica_Len [.ptr 1 0 0] (rpH z) some = some (.int .i64 z.l.length, [], rpH z) := by kernel_rfl
    exact fun_call _ mixed (by kernel_rfl) (by kernel_rfl) (no_loops (by kernel_rfl)) h
  · cases hv
def rLenE : Ent PR A := ⟨n_replica_Replica_Len, _, rLen_ok⟩
def rSeF : List AV → RpS → Tr (AV × RpS)
  | [], z => .yes (.bool z.se, z)
  | _, _ => .no
theorem rSe_ok : Con PR A n_replica_Replica_Sealed (obj2C (rpF false false rSeF)) := by
  refine obj2C_ok (rp_two fun rest z v z' hv => ?_)
  unfold rSeF at hv
  split at hv
  · cases hv
    refine ⟨rfl, rfl, by simp, by simp, fun _ _ => ?_⟩
    have h : body PR (cfE (P := PR) (A := A) []) cfgRp lf0 n_replica_Replica_Sealed [.ptr 1 0 0] (rpH z) some = some (.bool z.se, [], rpH z) := by kernel_rfl
    exact fun_call _ mixed (by kernel_rfl) (by kernel_rfl) (no_loops (by kernel_rfl)) h
  · cases hv
def rSeE : Ent PR A := ⟨n_replica_Replica_Sealed, _, rSe_ok⟩
def clnF : List AV → Tr AV
  | [.slice (.pair (.int .i64) (.pair (.int .i64) (.pair (.slice (.int .i64)) (.pair (.int .i64) (.pair (.int .i64) (.int .i64)))))) b .view] => .br (decide (b.length * 64 ≤ 140737488355328)) (.yes (.slice EnT b .own)) .no
  | _ => .no
theorem cln_ok : Con PR A n_slices_Clone_entry_Entry_entry_Entry (pureC clnF) := by
  refine pureC_ok fun args v hv ha S => ?_
  unfold clnF at hv
  split at hv
  · rename_i b
    obtain ⟨hc, hv2⟩ := Tr.br_no hv
    cases hv2
    simp only [decide_eq_true_eq] at hc
    refine SimCall.nilsplit ?_ ?_
    · have h : body PR (cfE (P := PR) (A := A) []) cfgRp lf0 n_slices_Clone_entry_Entry_entry_Entry [.slice EnT b .nn] S some = (bif decide ((0 + b.length) * 64 ≤ 140737488355328) then some (.slice EnT ([] ++ b) .own, [], S) else none) := by kernel_rfl
      rw [cond_eq (by simp; omega)] at h
      exact fun_call _ mixed (by kernel_rfl) (by kernel_rfl) (no_loops (by kernel_rfl)) h
    · intro hb
      subst hb
      have h : body PR (cfE (P := PR) (A := A) []) cfgRp lf0 n_slices_Clone_entry_Entry_entry_Entry [.slice EnT [] .nilv] S some = some (.slice EnT [] .own, [], S) := by kernel_rfl
      exact fun_call _ mixed (by kernel_rfl) (by kernel_rfl) (no_loops (by kernel_rfl)) h
  · cases hv
def clnE : Ent PR A := ⟨n_slices_Clone_entry_Entry_entry_Entry, _, cln_ok⟩
def rFoF : List AV → RpS → Tr (AV × RpS)
  | [.agg [.int .i64 n, .int .i64 k, .slice (.int .i64) v .view, .int .i64 t, .int .i64 te, .int .i64 p]], z => .br (decide (z.l.length ≤ 100000)) (.yes (.bool (((chP 0 [] (z.l ++ [(n, k, v, t, te, p)]) : Nat) : Int) == ((z.l.length + 1 : Nat) : Int)), z)) .no
  | _, _ => .no
theorem rFo_ok : Con PR A n_replica_Replica_follows (obj2C (rpF false false rFoF)) := by
  refine obj2C_ok (rp_two fun rest z v z' hv => ?_)
  unfold rFoF at hv
  split at hv
  · rename_i n k v t te p
    obtain ⟨hc, hv2⟩ := Tr.br_no hv
    cases hv2
    simp only [decide_eq_true_eq] at hc
    refine ⟨rfl, rfl, by simp, by simp, fun _ _ => ?_⟩
    have h : body PR (cfE (P := PR) (A := A) [clnE, chE]) cfgRp lf0 n_replica_Replica_follows [.ptr 1 0 0, entA n k v t te p] (rpH z) some =
      (bif decide (z.l.length * 64 ≤ 140737488355328) then bif decide ((z.l.length + 1) * 64 ≤ 140737488355328) then some (.bool (((chP 0 [] (z.l ++ [(n, k, v, t, te, p)]) : Nat) : Int) == ((z.l ++ [(n, k, v, t, te, p)]).length : Int)), [], rpH z) else none else none) := by kernel_rfl
    rw [decide_eq_true (show z.l.length * 64 ≤ 140737488355328 by omega), decide_eq_true (show (z.l.length + 1) * 64 ≤ 140737488355328 by omega), List.length_append] at h
    exact fun_call _ mixed (by kernel_rfl) (by kernel_rfl) (no_loops (by kernel_rfl)) h
  · cases hv
def rFoE : Ent PR A := ⟨n_replica_Replica_follows, _, rFo_ok⟩
def slF : List AV → Tr AV
  | [] => .yes (.slice (.int .u8) [0] .view)
  | _ => .no
theorem sl_ok : Con PR A n_replica_seal (pureC slF) := by
  refine pure_con0 (cfg := cfgRp) [] mixed (by kernel_rfl) (by kernel_rfl) (by kernel_rfl) fun args v hv ha S => ?_
  unfold slF at hv
  split at hv
  · cases hv
    have h : body PR (cfE (P := PR) (A := A) []) cfgRp lf0 n_replica_seal [] S some = some (.slice (.int .u8) [0] .view, [], S) := by kernel_rfl
    exact h
  · cases hv
def slE : Ent PR A := ⟨n_replica_seal, _, sl_ok⟩
def rClF : List AV → RpS → Tr (AV × RpS)
  | [], z => .br (decide (z.b.length ≤ 1000000)) (.yes (.int .i64 (clE z), clZ z)) .no
  | _, _ => .no
end Go.Crc
/- Replicas: all frames read, sealed, an entry ordered. Conditions: none. A text of this seat's numbers. -/
set_option linter.unusedVariables false
set_option linter.unusedSimpArgs false
set_option maxRecDepth 100000
namespace Go.Crc
open Go.Vm Go.Pack Go.Rec Go.RowKit
abbrev rpO (id te : Int) (L : List En) (se : Bool) : Ob := .cells (rpC id te L se)
abbrev stO (b : List Int) (n : Int) (o : Bool) : Ob := .cells (stC b n o)
def smR (fl : List (List Int)) : Bool := decide (fl.length ≤ 20000) && fl.all fun f => decide (f.length ≤ 100000)
abbrev rqW : Wr := [(2, 0), (0, 0)]
def rqLF (vs : List AV) (H : Stack) : Tr (Ex × List AV × Stack × Wr) := match vs, H with
  | [.ptr 2 0 0, .bool g, .slice (.slice (.int .u8)) fl .view, .int .i64 m, .int .i64 i], [[], [], [.cells [.int .i64 id, .int .i64 te, .ptr 0 1 0, .slice (.pair (.int .i64) (.pair (.int .i64) (.pair (.slice (.int .i64)) (.pair (.int .i64) (.pair (.int .i64) (.int .i64)))))) [] .own, .bool false], .cells [.slice (.int .u8) b .own, .int .i64 n, .bool o]]] =>
    .br (decide (m = fl.length) && (decide (i = 0) && smR fl)) (.br (rpR fl [] false).2.2
      (.yes (.exit 0, [.bool g], [[], [], [rpO id te (rpR fl [] false).1 (rpR fl [] false).2.1, stO b n o]], repApp (rpK fl [] false) rqW))
      (.yes (.exit 0, [.bool false], [[enOb (pD (rpX fl [] false))], [], [rpO id te (rpR fl [] false).1 (rpR fl [] false).2.1, stO b n o]], (0, 0) :: repApp (rpK fl [] false) rqW))) .no
  | _, _ => .no
def lfRq : Nat → Option LoopSum := lfOf [(442, loopT [0, 3, 18, 19, 20] [3] rqLF)]
noncomputable abbrev ERq : List (Ent PR A) := [stFrE, edecE, slE, equalE, rFoE]
noncomputable abbrev LRq (N : Nat) := LC PR (cfE ERq) cfgRp lfRq n_replica_Replica_reread 0 442 [0, 3, 18, 19, 20] [3] N
theorem rq_round (fl : List (List Int)) (id te : Int) (L : List En) (se g : Bool) (m i : Int) (b : List Int) (n : Int) (o : Bool) (wr : Wr) (N : Nat) (k : Ex → List AV → Stack → Wr → Option Res) :
    LRq (N + 1) [.ptr 2 0 0, .bool g, .slice TRow fl .view, .int .i64 m, .int .i64 i] [[], [], [rpO id te L se, stO b n o]] wr k =
      (bif decide (i < m) then (at? fl i).bind fun f => bif decide (f.length ≤ 140737488355328) then
        bif !se then bif f == [0] then LRq N [.ptr 2 0 0, .bool g, .slice TRow fl .view, .int .i64 m, .int .i64 (IntKind.i64.wrap (i + 1))] [[], [], [rpO id te L true, stO b n o]] (app rqW wr) k
          else bif !se then bif pE f == 0 then bif decide (L.length ≤ 100000) then
              bif (((chP 0 [] (L ++ [pD f]) : Nat) : Int) == ((L.length + 1 : Nat) : Int)) then bif decide ((L.length + 1) * 64 ≤ 140737488355328) then LRq N [.ptr 2 0 0, .bool g, .slice TRow fl .view, .int .i64 m, .int .i64 (IntKind.i64.wrap (i + 1))] [[], [], [rpO id te (L ++ [pD f]) se, stO b n o]] (app rqW wr) k else none
              else k (.exit 0) [.bool false] [[enOb (pD f)], [], [rpO id te L se, stO b n o]] ((0, 0) :: wr)
            else none else k (.exit 0) [.bool false] [[enOb (pD f)], [], [rpO id te L se, stO b n o]] ((0, 0) :: wr) else k (.exit 0) [.bool false] [[enOb (pD f)], [], [rpO id te L se, stO b n o]] ((0, 0) :: wr)
        else bif !se then bif pE f == 0 then bif decide (L.length ≤ 100000) then
              bif (((chP 0 [] (L ++ [pD f]) : Nat) : Int) == ((L.length + 1 : Nat) : Int)) then bif decide ((L.length + 1) * 64 ≤ 140737488355328) then LRq N [.ptr 2 0 0, .bool g, .slice TRow fl .view, .int .i64 m, .int .i64 (IntKind.i64.wrap (i + 1))] [[], [], [rpO id te (L ++ [pD f]) se, stO b n o]] (app rqW wr) k else none
              else k (.exit 0) [.bool false] [[enOb (pD f)], [], [rpO id te L se, stO b n o]] ((0, 0) :: wr)
            else none else k (.exit 0) [.bool false] [[enOb (pD f)], [], [rpO id te L se, stO b n o]] ((0, 0) :: wr) else k (.exit 0) [.bool false] [[enOb (pD f)], [], [rpO id te L se, stO b n o]] ((0, 0) :: wr)
      else none else k (.exit 0) [.bool g] [[], [], [rpO id te L se, stO b n o]] wr) := by kernel_rfl
def rqRes (k : Ex → List AV → Stack → Wr → Option Res) (g : Bool) (id te : Int) (b : List Int) (n : Int) (o : Bool) (l : List (List Int)) (L : List En) (s : Bool) (wr : Wr) : Option Res :=
  bif (rpR l L s).2.2 then k (.exit 0) [.bool g] [[], [], [rpO id te (rpR l L s).1 (rpR l L s).2.1, stO b n o]] (app (repApp (rpK l L s) rqW) wr)
  else k (.exit 0) [.bool false] [[enOb (pD (rpX l L s))], [], [rpO id te (rpR l L s).1 (rpR l L s).2.1, stO b n o]] ((0, 0) :: app (repApp (rpK l L s) rqW) wr)
theorem rq_loop (fl : List (List Int)) (m : Int) (hm : m = (fl.length : Int)) (hl : smR fl = true) (g : Bool) (id te : Int) (b : List Int) (n : Int) (o : Bool) (k : Ex → List AV → Stack → Wr → Option Res) : ∀ (q j : Nat) (L : List En) (s : Bool) (wr : Wr), j + q = fl.length → L.length ≤ j → Chn L →
    LRq (q + 1) [.ptr 2 0 0, .bool g, .slice TRow fl .view, .int .i64 m, .int .i64 (j : Int)] [[], [], [rpO id te L s, stO b n o]] wr k = rqRes k g id te b n o (fl.drop j) L s wr := by
  unfold smR at hl
  simp only [Bool.and_eq_true, decide_eq_true_eq, List.all_eq_true] at hl
  obtain ⟨hl, hf⟩ := hl
  intro q
  induction q with
  | zero =>
    intro j L s wr hj hL hC
    have hd : fl.drop j = [] := List.drop_of_length_le (by omega)
    rw [rq_round, cond_ne (decide_eq_false (by omega)), hd]
    rfl
  | succ q ih =>
    intro j L s wr hj hL hC
    have hlt : j < fl.length := by omega
    have hw := wrap_next hlt (show fl.length ≤ maxInt by simp only [maxInt]; omega)
    have hd : fl.drop j = fl[j] :: fl.drop (j + 1) := List.drop_eq_getElem_cons hlt
    have hx : fl[j]? = some fl[j] := List.getElem?_eq_getElem hlt
    have hfx := hf fl[j] (List.getElem_mem hlt)
    rw [rq_round, cond_eq (decide_eq_true (by omega)), at_some hx, Option.bind_some, hw, hd]
    generalize fl[j] = f at hfx hx
    rw [ch_next (x := pD f) hC, decide_eq_true (show f.length ≤ 140737488355328 by omega), decide_eq_true (show L.length ≤ 100000 by omega), decide_eq_true (show (L.length + 1) * 64 ≤ 140737488355328 by omega)]
    simp only [cond_true]
    unfold rqRes
    simp only [rpR, rpK, rpX]
    cases s with
    | true => rfl
    | false =>
      simp only [Bool.not_false, cond_true, cond_false]
      cases h0 : f == [0] with
      | true =>
        have hi := ih (j + 1) L true (app rqW wr) (by omega) (by omega) hC
        simp only [cond_true]
        rw [rep_more]
        exact hi
      | false =>
        simp only [cond_false]
        cases h1 : pE f == 0 with
        | false => rfl
        | true =>
          cases h2 : folB L (pD f) with
          | false => rfl
          | true =>
            have hi := ih (j + 1) (L ++ [pD f]) false (app rqW wr) (by omega) (by rw [List.length_append]; simp only [List.length_cons, List.length_nil]; omega) ((chn_snoc hC).2 h2)
            simp only [cond_true, Bool.and_self]
            rw [rep_more]
            exact hi
theorem rq_loops : ∀ x ∈ funLoops PR n_replica_Replica_reread, ∀ L, lfRq x.1 = some L → LoopOK (ntm PR n_replica_Replica_reread) (fun fr H wr k => code PR (cfE ERq) cfgRp lfRq (cfgRp.live n_replica_Replica_reread) x.2 (2 * x.1) fr H wr k) L := by
  refine one_loop (p := 442) rfl (by kernel_rfl) (loopT_ok (by decide) fun vs H wr ex vs' H' w hv ha hh => ?_)
  unfold rqLF at hv
  split at hv
  · rename_i g fl m i id te b n o
    obtain ⟨hc, hv2⟩ := Tr.br_no hv
    clear hv
    simp only [Bool.and_eq_true, decide_eq_true_eq] at hc
    obtain ⟨h1, h2, h3⟩ := hc
    subst h2
    refine ⟨fl.length + 1, fun k => ?_⟩
    have := rq_loop fl m h1 h3 g id te b n o k fl.length 0 [] false wr (by omega) (Nat.zero_le _) chn_nil
    rw [List.drop_zero] at this
    unfold rqRes at this
    rcases Tr.br_or hv2 with ⟨he, h4⟩ | ⟨he, h4⟩
    · cases h4
      rw [he] at this
      exact this
    · cases h4
      rw [he] at this
      exact this
  · cases hv
def rReZ (z : RpS) : RpS := { z with l := (rpR (scanL z.b) [] false).1, se := (rpR (scanL z.b) [] false).2.1 }
def rReF : List AV → RpS → Tr (AV × RpS)
  | [], z => .br (decide (z.b.length ≤ 65536)) (.yes (.bool (rpR (scanL z.b) [] false).2.2, rReZ z)) .no
  | _, _ => .no
end Go.Crc
/- Replicas: reread, sealed, crashed. Conditions: none. A text of this seat's numbers. -/
set_option linter.unusedVariables false
set_option linter.unusedSimpArgs false
set_option maxRecDepth 100000
namespace Go.Crc
open Go.Vm Go.Pack Go.Rec Go.RowKit
theorem rq_outer (l i : Nat) (hm : memWr l i [(1, 0)] = false) : ∀ (n : Nat) (wr : Wr), memWr l i (outer wr) = false → memWr l i (outer (app (repApp n rqW) wr)) = false
  | 0, wr, h => h
  | n + 1, wr, h => by
    have ih := rq_outer l i hm n wr h
    simp only [memWr, Bool.or_false] at hm
    simp only [rqW, repApp, app, outer, memWr, hm, Bool.false_or]
    exact ih
theorem scan_smR {b : List Int} (hb : isBytes b) (h : b.length ≤ 65536) : smR (scanL b) = true := by
  have h1 := scan_count hb
  have h2 := scan_small b.length b (Nat.le_refl _) hb
  unfold smR
  rw [decide_eq_true (show (scanL b).length ≤ 20000 by omega)]
  simp only [Bool.true_and, List.all_eq_true, decide_eq_true_eq]
  intro x hx
  have := (h2 x hx).1
  omega
theorem okR_bytes {z : RpS} (hh : okH (rpH z)) : isBytes z.b := by
  have := hh 1 1 _ rfl
  simp only [okAVs, okAV] at this
  exact this.1.2
theorem rRe_ok : Con PR A n_replica_Replica_reread (obj2C (rpF true false rReF)) := by
  refine obj2C_ok (rp_two fun rest z v z' hv => ?_)
  unfold rReF at hv
  split at hv
  · obtain ⟨hc, hv2⟩ := Tr.br_no hv
    cases hv2
    simp only [decide_eq_true_eq] at hc
    refine ⟨rfl, rfl, by simp, fun _ => ⟨rfl, rfl, rfl⟩, fun _ hh => ?_⟩
    have hb := okR_bytes hh
    have h : body PR (cfE ERq) cfgRp lfRq n_replica_Replica_reread [.ptr 1 0 0] (rpH z) some =
      (bif decide (z.b.length ≤ 1000000) then bif decide (((scanL z.b).length : Int) = ((scanL z.b).length : Int)) && (decide ((0 : Int) = 0) && smR (scanL z.b)) then
        bif (rpR (scanL z.b) [] false).2.2 then some (.bool true, outer (app (repApp (rpK (scanL z.b) [] false) rqW) [(2, 0), (2, 0)]), rpH (rReZ z))
        else some (.bool false, outer ((0, 0) :: app (repApp (rpK (scanL z.b) [] false) rqW) [(2, 0), (2, 0)]), rpH (rReZ z))
      else none else none) := by kernel_rfl
    rw [decide_eq_true (show z.b.length ≤ 1000000 by omega), scan_smR hb hc, decide_eq_true rfl, decide_eq_true rfl] at h
    have hw : ∀ l i, memWr l i [(1, 0)] = false → memWr l i (outer (app (repApp (rpK (scanL z.b) [] false) rqW) [(2, 0), (2, 0)])) = false := fun l i hm => by
      refine rq_outer l i hm _ _ ?_
      simp only [memWr, Bool.or_false] at hm
      simp [outer, memWr, hm]
    cases hg : (rpR (scanL z.b) [] false).2.2 with
    | true =>
      rw [hg] at h
      refine SimCall.wr (fun_call _ mixed (by kernel_rfl) (by kernel_rfl) rq_loops h) fun l i hm => hw l i hm
    | false =>
      rw [hg] at h
      refine SimCall.wr (fun_call _ mixed (by kernel_rfl) (by kernel_rfl) rq_loops h) fun l i hm => hw l i hm
  · cases hv
def rReE : Ent PR A := ⟨n_replica_Replica_reread, _, rRe_ok⟩
theorem rCl_eq (z : RpS) : body PR (cfE [slE, stApE]) cfgRp lf0 n_replica_Replica_close [.ptr 1 0 0] (rpH z) some =
    (bif z.se then some (.int .i64 0, [], rpH z) else bif decide (z.b.length ≤ 1000000) then
      bif appOK z.b [0] z.o then some (.int .i64 0, [(1, 0), (1, 1)], rpH { z with b := z.b ++ frB [0], se := true })
      else some (.int .i64 (bif z.o then 81 else 80), [(1, 0)], rpH { z with se := (bif z.o then 81 else 80 : Int) == 0 })
    else none) := by kernel_rfl
theorem rCl_ok : Con PR A n_replica_Replica_close (obj2C (rpF true true rClF)) := by
  refine obj2C_ok (rp_two fun rest z v z' hv => ?_)
  unfold rClF at hv
  split at hv
  · obtain ⟨hc, hv2⟩ := Tr.br_no hv
    cases hv2
    simp only [decide_eq_true_eq] at hc
    refine ⟨rfl, rfl, by simp, by simp, fun _ hh => ?_⟩
    have h := rCl_eq z
    rw [decide_eq_true hc] at h
    have key : ∀ v wr z2, body PR (cfE [slE, stApE]) cfgRp lf0 n_replica_Replica_close [.ptr 1 0 0] (rpH z) some = some (v, wr, rpH z2) → subW wr [(1, 0), (1, 1)] = true → SimCall PR A n_replica_Replica_close [.ptr 1 0 0] (rpH z) (v, [(1, 0), (1, 1)], rpH z2) := fun v wr z2 h1 h2 =>
      SimCall.wr (fun_call _ mixed (by kernel_rfl) (by kernel_rfl) (no_loops (by kernel_rfl)) h1) (subW_le h2)
    obtain ⟨id, te, L, se, b, n, o⟩ := z
    unfold clE clZ clGo
    cases se with
    | true => exact key _ _ _ h rfl
    | false =>
      cases ha : appOK b [0] o with
      | true =>
        simp only [ha] at h ⊢
        exact key _ _ _ h rfl
      | false =>
        simp only [ha] at h ⊢
        have e : ((bif o then 81 else 80 : Int) == 0) = false := by cases o <;> rfl
        rw [e] at h
        exact key _ _ _ h rfl
  · cases hv
def rClE : Ent PR A := ⟨n_replica_Replica_close, _, rCl_ok⟩
end Go.Crc
