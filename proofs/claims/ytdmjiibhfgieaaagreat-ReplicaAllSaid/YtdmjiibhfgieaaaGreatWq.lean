/- Contracts of functions of this program. Conditions: none. -/
import Derived.Test.YtdmjiibhfgieaaaGreatWn
import Derived.Test.YtdmjiibhfgieaaaGreatWp
import Derived.Test.YtdmjiibhfgieaaaGreatWh
set_option linter.unusedVariables false
set_option linter.unusedSimpArgs false
/- The document's replicas: what frames say; reopened; a frame more. Conditions: none. A text of this seat's numbers. -/
set_option linter.unusedVariables false
set_option linter.unusedSimpArgs false
set_option maxRecDepth 100000
namespace Go.Crc
open Go.Vm Go.Pack Go.Rec Go.RowKit
abbrev whE (L : List En) (lv : Lv) (se : Bool) : Ob := .cells [.slice EnT L lv, .bool se]
abbrev rdW1 : Wr := [(0, 1), (0, 2)]
abbrev rdW0 : Wr := [(0, 0), (0, 2)]
def r11F (vs : List AV) (H : Stack) : Tr (Ex × List AV × Stack × Wr) := match vs, H with
  | [.slice .str l .view, .ptr 0 0 0, .ptr 0 1 0, .int .i64 i], [.cells [.slice (.pair (.int .i64) (.pair (.int .i64) (.pair (.slice (.int .i64)) (.pair (.int .i64) (.pair (.int .i64) (.int .i64)))))) [] .own, .bool false], .cells [.slice (.pair (.int .i64) (.pair (.int .i64) (.pair (.slice (.int .i64)) (.pair (.int .i64) (.pair (.int .i64) (.int .i64)))))) [] .own, .bool false]] :: S =>
    .br (decide (i = 0) && smR l) (.br (rpR l [] false).2.2 (.yes (.exit 0, [.ptr 0 0 0, .undef, .ptr 0 1 0], [whE [] .own false, whE (rpR l [] false).1 .own (rpR l [] false).2.1] :: S, repApp (rpK l [] false) rdW1))
      (.yes (.ret, [.ptr 0 0 0, .bool false, .ptr 0 1 0], [whE (rpR l [] false).1 .view (rpR l [] false).2.1, whE (rpR l [] false).1 .own (rpR l [] false).2.1, enOb (rD (rpX l [] false))] :: S, app rdW0 (repApp (rpK l [] false) rdW1)))) .no
  | _, _ => .no
def lfR11 : Nat → Option LoopSum := lfOf [(58, loopT [0, 2, 4, 5] [2, 3, 4] r11F)]
noncomputable abbrev ER11 : List (Ent PR A) := [edecrE, foE]
noncomputable abbrev LR11 (N : Nat) := LC PR (cfE ER11) cfgRp lfR11 n_ref11_Read 0 58 [0, 2, 4, 5] [2, 3, 4] N
theorem r11_round (l : List (List Int)) (i : Int) (L : List En) (se : Bool) (S : Stack) (wr : Wr) (N : Nat) (k : Ex → List AV → Stack → Wr → Option Res) :
    LR11 (N + 1) [.slice .str l .view, .ptr 0 0 0, .ptr 0 1 0, .int .i64 i] ([whE [] .own false, whE L .own se] :: S) wr k =
      (bif decide (i < (l.length : Int)) then (at? l i).bind fun f => bif decide (f.length ≤ 140737488355328) then
        bif se then k .ret [.ptr 0 0 0, .bool false, .ptr 0 1 0] ([whE L .view se, whE L .own se, enOb (rD f)] :: S) (app rdW0 wr)
        else (at? l i).bind fun f2 => bif f2 == [0] then LR11 N [.slice .str l .view, .ptr 0 0 0, .ptr 0 1 0, .int .i64 (IntKind.i64.wrap (i + 1))] ([whE [] .own false, whE L .own true] :: S) (app rdW1 wr) k
        else bif rE f != 0 then k .ret [.ptr 0 0 0, .bool false, .ptr 0 1 0] ([whE L .view se, whE L .own se, enOb (rD f)] :: S) (app rdW0 wr)
        else bif !folB L (rD f) then k .ret [.ptr 0 0 0, .bool false, .ptr 0 1 0] ([whE L .view se, whE L .own se, enOb (rD f)] :: S) (app rdW0 wr)
        else bif decide ((L.length + 1) * 64 ≤ 140737488355328) then LR11 N [.slice .str l .view, .ptr 0 0 0, .ptr 0 1 0, .int .i64 (IntKind.i64.wrap (i + 1))] ([whE [] .own false, whE (L ++ [rD f]) .own se] :: S) (app rdW1 wr) k else none
      else none else k (.exit 0) [.ptr 0 0 0, .undef, .ptr 0 1 0] ([whE [] .own false, whE L .own se] :: S) wr) := by kernel_rfl
def r11Res (k : Ex → List AV → Stack → Wr → Option Res) (l : List (List Int)) (L : List En) (s : Bool) (S : Stack) (wr : Wr) : Option Res :=
  bif (rpR l L s).2.2 then k (.exit 0) [.ptr 0 0 0, .undef, .ptr 0 1 0] ([whE [] .own false, whE (rpR l L s).1 .own (rpR l L s).2.1] :: S) (app (repApp (rpK l L s) rdW1) wr)
  else k .ret [.ptr 0 0 0, .bool false, .ptr 0 1 0] ([whE (rpR l L s).1 .view (rpR l L s).2.1, whE (rpR l L s).1 .own (rpR l L s).2.1, enOb (rD (rpX l L s))] :: S) (app rdW0 (app (repApp (rpK l L s) rdW1) wr))
theorem r11_loop (l : List (List Int)) (hl : smR l = true) (hb : ∀ f ∈ l, isBytes f) (S : Stack) (k : Ex → List AV → Stack → Wr → Option Res) : ∀ (q j : Nat) (L : List En) (s : Bool) (wr : Wr), j + q = l.length → L.length ≤ j →
    LR11 (q + 1) [.slice .str l .view, .ptr 0 0 0, .ptr 0 1 0, .int .i64 (j : Int)] ([whE [] .own false, whE L .own s] :: S) wr k = r11Res k (l.drop j) L s S wr := by
  unfold smR at hl
  simp only [Bool.and_eq_true, decide_eq_true_eq, List.all_eq_true] at hl
  obtain ⟨hl, hf⟩ := hl
  intro q
  induction q with
  | zero =>
    intro j L s wr hj hL
    have hd : l.drop j = [] := List.drop_of_length_le (by omega)
    rw [r11_round, cond_ne (decide_eq_false (by omega)), hd]
    rfl
  | succ q ih =>
    intro j L s wr hj hL
    have hlt : j < l.length := by omega
    have hw := wrap_next hlt (show l.length ≤ maxInt by simp only [maxInt]; omega)
    have hd : l.drop j = l[j] :: l.drop (j + 1) := List.drop_eq_getElem_cons hlt
    have hx : l[j]? = some l[j] := List.getElem?_eq_getElem hlt
    have hfx := hf l[j] (List.getElem_mem hlt)
    have hbx := hb l[j] (List.getElem_mem hlt)
    rw [r11_round, cond_eq (decide_eq_true (by omega)), hw, hd]
    simp only [at_some hx, Option.bind_some]
    generalize l[j] = f at hfx hbx hx
    obtain ⟨d1, d2⟩ := same_dec hbx
    rw [← d1, ← d2, decide_eq_true (show f.length ≤ 140737488355328 by omega), decide_eq_true (show (L.length + 1) * 64 ≤ 140737488355328 by omega)]
    simp only [cond_true]
    unfold r11Res
    simp only [rpR, rpK, rpX]
    cases s with
    | true => simp only [cond_true, cond_false, ← d1]; rfl
    | false =>
      simp only [cond_true, cond_false]
      cases h0 : f == [0] with
      | true =>
        have hi := ih (j + 1) L true (app rdW1 wr) (by omega) (by omega)
        simp only [cond_true]
        rw [rep_more]
        exact hi
      | false =>
        simp only [cond_false, bne]
        cases h1 : pE f == 0 with
        | false => simp only [Bool.not_false, cond_true, Bool.false_and, cond_false, ← d1]; rfl
        | true =>
          simp only [Bool.not_true, cond_false, Bool.true_and]
          cases h2 : folB L (pD f) with
          | false => simp only [Bool.not_false, cond_true, cond_false, ← d1]; rfl
          | true =>
            have hi := ih (j + 1) (L ++ [pD f]) false (app rdW1 wr) (by omega) (by rw [List.length_append]; simp only [List.length_cons, List.length_nil]; omega)
            simp only [Bool.not_true, cond_true, cond_false]
            rw [rep_more]
            exact hi
theorem r11_loops : ∀ x ∈ funLoops PR n_ref11_Read, ∀ L, lfR11 x.1 = some L → LoopOK (ntm PR n_ref11_Read) (fun fr H wr k => code PR (cfE ER11) cfgRp lfR11 (cfgRp.live n_ref11_Read) x.2 (2 * x.1) fr H wr k) L := by
  refine one_loop (p := 58) rfl (by kernel_rfl) (loopT_ok (by decide) fun vs H wr ex vs' H' w hv ha hh => ?_)
  unfold r11F at hv
  split at hv
  · rename_i l i S
    obtain ⟨hc, hv2⟩ := Tr.br_no hv
    clear hv
    simp only [Bool.and_eq_true, decide_eq_true_eq] at hc
    obtain ⟨rfl, h2⟩ := hc
    simp only [okAVs, okAV] at ha
    refine ⟨l.length + 1, fun k => ?_⟩
    have := r11_loop l h2 (fun f hf => (ha.1.2 f hf).2) S k l.length 0 [] false wr (by omega) (Nat.zero_le _)
    rw [List.drop_zero] at this
    unfold r11Res at this
    rcases Tr.br_or hv2 with ⟨he, h4⟩ | ⟨he, h4⟩
    · cases h4
      rw [he] at this
      exact this
    · cases h4
      rw [he] at this
      exact this
  · cases hv
abbrev whV11 (l : List (List Int)) : AV := .agg [.slice EnT (rpR l [] false).1 .view, .bool (rpR l [] false).2.1]
def r11C : List AV → Tr AV
  | [.slice .str l .view] => .br (smR l) (.yes (.tuple [whV11 l, .bool (rpR l [] false).2.2])) .no
  | _ => .no
theorem r11_ok : Con PR A n_ref11_Read (pureC r11C) := by
  refine pureC_ok fun args v hv ha S => ?_
  unfold r11C at hv
  split at hv
  · rename_i l
    obtain ⟨hc, hv2⟩ := Tr.br_no hv
    cases hv2
    have h : body PR (cfE ER11) cfgRp lfR11 n_ref11_Read [.slice .str l .view] S some =
      (bif decide ((0 : Int) = 0) && smR l then bif (rpR l [] false).2.2 then some (.tuple [whV11 l, .bool true], outer ((0, 0) :: app (repApp (rpK l [] false) rdW1) []), S)
        else some (.tuple [whV11 l, .bool false], outer (app rdW0 (app (repApp (rpK l [] false) rdW1) [])), S)
      else none) := by kernel_rfl
    have e1 : outer ((0, 0) :: app (repApp (rpK l [] false) rdW1) []) = [] := by
      show outer (app (repApp (rpK l [] false) rdW1) []) = []
      rw [outer_app0 _ _ (all0_rep rfl _)]; rfl
    have e2 : outer (app rdW0 (app (repApp (rpK l [] false) rdW1) [])) = [] := by
      show outer (app (repApp (rpK l [] false) rdW1) []) = []
      rw [outer_app0 _ _ (all0_rep rfl _)]; rfl
    refine fun_call _ mixed (by kernel_rfl) (by kernel_rfl) r11_loops (h.trans ?_)
    rw [hc, e1, e2]
    cases (rpR l [] false).2.2 <;> rfl
  · cases hv
def r11E : Ent PR A := ⟨n_ref11_Read, _, r11_ok⟩
abbrev dRp (id te : Int) (F : List (List Int)) (y : Int) (f : Bool) : AV := .agg [.int .i64 id, .int .i64 te, .slice .str F .view, .int .i64 y, .bool f]
def of11C : List AV → Tr AV
  | [.agg [.int .i64 id, .int .i64 te, .slice .str F .view, .int .i64 y, .bool f]] => .br (smR F) (.yes (whV11 F)) .no
  | _ => .no
theorem of11_ok : Con PR A n_ref11_Of (pureC of11C) := by
  refine pure_con0 (cfg := cfgRp) [r11E] mixed (by kernel_rfl) (by kernel_rfl) (by kernel_rfl) fun args v hv ha S => ?_
  unfold of11C at hv
  split at hv
  · rename_i id te F y f
    obtain ⟨hc, hv2⟩ := Tr.br_no hv
    cases hv2
    have h : body PR (cfE (P := PR) (A := A) [r11E]) cfgRp lf0 n_ref11_Of [dRp id te F y f] S some = (bif smR F then some (whV11 F, [], S) else none) := by kernel_rfl
    refine h.trans ?_
    rw [hc]; rfl
  · cases hv
def of11E : Ent PR A := ⟨n_ref11_Of, _, of11_ok⟩
theorem conOK6 (t : Int) (s : List Int) (sh : List (List Int)) (id : Int) : conOK t s sh id = (termR t s sh && inB6 s id) := by
  unfold conOK inB6
  have : (fun y : Int => id == y) = fun y => y == id := by funext y; exact Bool.beq_comm
  rw [this]
def ro11C : List AV → Tr AV
  | [.int .i64 id, .agg [.int .i64 t, .slice (.int .i64) s .view, .slice (.slice (.int .i64)) sh .view], .agg [.slice .str F .view, .int .i64 y, .bool f]] =>
    .br (smR F) (.br (conOK t s sh id && (rpR F [] false).2.2) (.yes (.tuple [dRp id t F y f, .bool true])) (.yes (.tuple [dRp 0 0 [] 0 false, .bool false]))) .no
  | _ => .no
theorem ro11_ok : Con PR A n_ref11_Reopen (pureC ro11C) := by
  refine pure_con0 (cfg := cfgRp) [r11E, t6E, hrE] mixed (by kernel_rfl) (by kernel_rfl) (by kernel_rfl) fun args v hv ha S => ?_
  unfold ro11C at hv
  split at hv
  · rename_i id t s sh F y f
    obtain ⟨hc, hv2⟩ := Tr.br_no hv
    clear hv
    have h : body PR (cfE [r11E, t6E, hrE]) cfgRp lf0 n_ref11_Reopen [.int .i64 id, conA t s sh, dSt F y f] S some =
      (bif smR F then bif !termR t s sh then some (.tuple [dRp 0 0 [] 0 false, .bool false], [], S) else bif !inB6 s id then some (.tuple [dRp 0 0 [] 0 false, .bool false], [], S)
        else bif !(rpR F [] false).2.2 then some (.tuple [dRp 0 0 [] 0 false, .bool false], [], S) else some (.tuple [dRp id t F y f, .bool true], [], S) else none) := by kernel_rfl
    refine h.trans ?_
    rw [hc]
    rw [conOK6] at hv2
    revert hv2
    cases termR t s sh <;> cases inB6 s id <;> cases (rpR F [] false).2.2 <;> (intro hv2; cases hv2; rfl)
  · cases hv
def ro11E : Ent PR A := ⟨n_ref11_Reopen, _, ro11_ok⟩
def ad11F (F : List (List Int)) (x : List Int) (f : Bool) : List (List Int) := bif appOK (catF F) x f then F ++ [x] else F
def ad11V (F : List (List Int)) (x : List Int) (f : Bool) : Int := bif appOK (catF F) x f then 0 else bif f then 81 else 80
def ad11C : List AV → Tr AV
  | [.agg [.int .i64 id, .int .i64 te, .slice .str F .view, .int .i64 y, .bool f], .str x] => .br (smallL F && decide (x.length ≤ 100000000)) (.yes (.tuple [dRp id te (ad11F F x f) y f, .int .i64 (ad11V F x f)])) .no
  | _ => .no
theorem ad11_ok : Con PR A n_ref11_add (pureC ad11C) := by
  refine pure_con0 (cfg := cfgRp) [dapE] mixed (by kernel_rfl) (by kernel_rfl) (by kernel_rfl) fun args v hv ha S => ?_
  unfold ad11C at hv
  split at hv
  · rename_i id te F y f x
    obtain ⟨hc, hv2⟩ := Tr.br_no hv
    cases hv2
    have h : body PR (cfE (P := PR) (A := A) [dapE]) cfgRp lf0 n_ref11_add [dRp id te F y f, .str x] S some = (bif smallL F && decide (x.length ≤ 100000000) then
        bif appOK (catF F) x f then some (.tuple [dRp id te (F ++ [x]) y f, .int .i64 0], [], S) else some (.tuple [dRp id te F y f, .int .i64 (bif f then 81 else 80)], [], S) else none) := by kernel_rfl
    refine h.trans ?_
    rw [hc]
    unfold ad11F ad11V
    cases appOK (catF F) x f <;> rfl
  · cases hv
def ad11E : Ent PR A := ⟨n_ref11_add, _, ad11_ok⟩
end Go.Crc
/- The document's replicas: calls. Conditions: none. A text of this seat's numbers. -/
set_option linter.unusedVariables false
set_option linter.unusedSimpArgs false
set_option maxRecDepth 100000
namespace Go.Crc
open Go.Vm Go.Pack Go.Rec Go.RowKit
def docR (id te : Int) (F : List (List Int)) (y : Int) (f : Bool) : RpS := ⟨id, te, (rpR F [] false).1, (rpR F [] false).2.1, catF F, ((catF (F.take y.toNat)).length : Int), f⟩
theorem smallL_smR {F : List (List Int)} (h : smallL F = true) : smR F = true := by
  unfold smallL at h
  simp only [Bool.and_eq_true, decide_eq_true_eq] at h
  unfold smR
  rw [decide_eq_true h.2]
  simp only [Bool.true_and, List.all_eq_true, decide_eq_true_eq]
  intro x hx
  have := smB_mem h.1 x hx
  omega
def orF (z : RpS) (F : List (List Int)) (x : En) : List (List Int) := bif orGo z x then F ++ [entEn x] else F
noncomputable abbrev EO11 : List (Ent PR A) := [of11E, esrE, foE, eencrE, ad11E]
def do11R (id te : Int) (F : List (List Int)) (y : Int) (f : Bool) (x : En) (S : Stack) : Option Res :=
  bif smR F then
    bif decide (x.1 ≤ ((rpR F [] false).1.length : Int)) then (at? (rpR F [] false).1 (IntKind.i64.wrap (x.1 - 1))).bind fun w => bif entBq w x then some (.tuple [dRp id te F y f, .int .i64 0], [], S) else some (.tuple [dRp id te F y f, .int .i64 112], [], S)
    else bif (rpR F [] false).2.1 then some (.tuple [dRp id te F y f, .int .i64 110], [], S) else bif decide (x.1 > IntKind.i64.wrap (((rpR F [] false).1.length : Int) + 1)) then some (.tuple [dRp id te F y f, .int .i64 111], [], S)
    else bif !folB (rpR F [] false).1 x then some (.tuple [dRp id te F y f, .int .i64 112], [], S)
    else bif smallL F && decide ((entEn x).length ≤ 100000000) then some (.tuple [dRp id te (ad11F F (entEn x) f) y f, .int .i64 (ad11V F (entEn x) f)], [], S) else none
  else none
theorem do11_eq (id te : Int) (F : List (List Int)) (y : Int) (f : Bool) (x : En) (S : Stack) : body PR (cfE EO11) cfgRp lf0 n_ref11_order [dRp id te F y f, enA x] S some = do11R id te F y f x S := by kernel_rfl
theorem do11_res {id te : Int} {F : List (List Int)} {y : Int} {f : Bool} {x : En} (S : Stack) (h1 : smallL F = true) (hx : enR x = true) : do11R id te F y f x S = some (.tuple [dRp id te (orF (docR id te F y f) F x) y f, .int .i64 (orE (docR id te F y f) x)], [], S) := by
  obtain ⟨n1, n2⟩ := en_num hx
  have hl := entEn_len x
  have hlen := rpR_len F [] false
  have hF : F.length ≤ 20000 := by have := h1; unfold smallL at this; simp only [Bool.and_eq_true, decide_eq_true_eq] at this; exact this.2
  simp only [List.length_nil] at hlen
  have w1 : IntKind.i64.wrap (((rpR F [] false).1.length : Int) + 1) = ((rpR F [] false).1.length : Int) + 1 := by rw [wrap_i64 (by omega) (by omega)]
  have w2 : IntKind.i64.wrap (x.1 - 1) = x.1 - 1 := by rw [wrap_i64 (by omega) (by omega)]
  unfold do11R orF orE orGo ad11F ad11V
  show _ = (some (AV.tuple [dRp id te (bif (!decide (x.1 ≤ ((rpR F [] false).1.length : Int)) && (!(rpR F [] false).2.1 && (x.1 == ((rpR F [] false).1.length : Int) + 1 && (folB (rpR F [] false).1 x && appOK (catF F) (entEn x) f)))) then F ++ [entEn x] else F) y f,
    .int .i64 (bif decide (x.1 ≤ ((rpR F [] false).1.length : Int)) then (bif entBq (enAt (rpR F [] false).1 (x.1 - 1)) x then 0 else 112) else bif (rpR F [] false).2.1 then 110 else bif x.1 != ((rpR F [] false).1.length : Int) + 1 then 111
      else bif !folB (rpR F [] false).1 x then 112 else bif appOK (catF F) (entEn x) f then 0 else bif f then 81 else 80)], [], S) : Option Res)
  rw [smallL_smR h1, h1, w1, w2, decide_eq_true (show (entEn x).length ≤ 100000000 by omega)]
  by_cases hc : x.1 ≤ ((rpR F [] false).1.length : Int)
  · obtain ⟨w, hw, _⟩ := at_lt (L := (rpR F [] false).1) (k := x.1 - 1) (by omega) (by omega)
    rw [decide_eq_true hc, hw, enAt_some hw]
    simp only [cond_true, Option.bind_some, Bool.not_true, Bool.false_and, cond_false]
    cases entBq w x <;> rfl
  rw [decide_eq_false hc]
  simp only [cond_false, cond_true, Bool.not_false, Bool.true_and]
  cases (rpR F [] false).2.1 with
  | true => rfl
  | false =>
  simp only [cond_false, Bool.not_false, Bool.true_and]
  by_cases h3 : x.1 > ((rpR F [] false).1.length : Int) + 1
  · have : (x.1 == ((rpR F [] false).1.length : Int) + 1) = false := by simp; omega
    rw [decide_eq_true h3, bne, this]; rfl
  · have : (x.1 == ((rpR F [] false).1.length : Int) + 1) = true := by simp; omega
    rw [decide_eq_false h3, bne, this]
    simp only [cond_false, Bool.not_true, Bool.true_and]
    cases folB (rpR F [] false).1 x with
    | false => rfl
    | true =>
      simp only [cond_false, cond_true, Bool.not_true, Bool.true_and]
def do11C : List AV → Tr AV
  | [.agg [.int .i64 id, .int .i64 te, .slice .str F .view, .int .i64 y, .bool f], .agg [.int .i64 n, .int .i64 k, .slice (.int .i64) v .view, .int .i64 t, .int .i64 e, .int .i64 p]] =>
    .br (smallL F && enR (n, k, v, t, e, p)) (.yes (.tuple [dRp id te (orF (docR id te F y f) F (n, k, v, t, e, p)) y f, .int .i64 (orE (docR id te F y f) (n, k, v, t, e, p))])) .no
  | _ => .no
theorem do11_ok : Con PR A n_ref11_order (pureC do11C) := by
  refine pure_con0 (cfg := cfgRp) EO11 mixed (by kernel_rfl) (by kernel_rfl) (by kernel_rfl) fun args v hv ha S => ?_
  unfold do11C at hv
  split at hv
  · rename_i id te F y f n k v t e p
    obtain ⟨hc, hv2⟩ := Tr.br_no hv
    cases hv2
    rw [Bool.and_eq_true] at hc
    exact (do11_eq id te F y f (n, k, v, t, e, p) S).trans (do11_res S hc.1 hc.2)
  · cases hv
def do11E : Ent PR A := ⟨n_ref11_order, _, do11_ok⟩
def gR (F : List (List Int)) (y : Int) : Bool := decide (0 ≤ y) && (decide (y ≤ (F.length : Int)) && (smallL F && (decide ((catF F).length ≤ 65536) && (rpR F [] false).2.2)))
theorem gR_iff {F : List (List Int)} {y : Int} : gR F y = true ↔ 0 ≤ y ∧ y ≤ (F.length : Int) ∧ smallL F = true ∧ (catF F).length ≤ 65536 ∧ (rpR F [] false).2.2 = true := by
  unfold gR
  simp only [Bool.and_eq_true, decide_eq_true_eq]
theorem gR_inv {F : List (List Int)} {y : Int} (h : gR F y = true) (hb : ∀ x ∈ F, isBytes x) (id te : Int) (f : Bool) : RpInv (docR id te F y f) F y.toNat := by
  obtain ⟨h1, h2, h3, h4, h5⟩ := gR_iff.1 h
  unfold smallL at h3
  simp only [Bool.and_eq_true, decide_eq_true_eq] at h3
  exact ⟨⟨rfl, fun x hx => ⟨smB_mem h3.1 x hx, hb x hx⟩, h4, by omega, rfl⟩, Prod.ext rfl (Prod.ext rfl h5)⟩
theorem smB_all' : ∀ {l : List (List Int)}, (∀ x ∈ l, x.length ≤ 65536) → smB l = true
  | [], _ => rfl
  | x :: r, h => by
    simp only [smB, Bool.and_eq_true, decide_eq_true_eq]
    exact ⟨h x (by simp), smB_all' fun y hy => h y (by simp [hy])⟩
theorem inv_smallL' {b : List Int} {n : Int} {l : List (List Int)} {y : Nat} (h : Inv b n l y) : smallL l = true := by
  unfold Crc.smallL
  have h1 := catF_count l
  have h2 := h.len
  rw [h.cat] at h2
  rw [smB_all' fun x hx => (h.small x hx).1, decide_eq_true (show l.length ≤ 20000 by omega)]
  rfl
noncomputable abbrev ET11 : List (Ent PR A) := [mrrE, do11E, of11E, ad11E]
def tk11M (id te kd f : Int) (F : List (List Int)) : Msg := { msg0 with k := kd, f := id, t := f, te := te, nu := ((rpR F [] false).1.length : Int), is := (rpR F [] false).2.1 }
def tk11End (id te : Int) (F : List (List Int)) (y : Int) (f : Bool) (kd mf : Int) (S : Stack) : Option Res := bif smR F then some (.tuple [dRp id te F y f, msgA (tk11M id te kd mf F), .int .i64 0], [], S) else none
def tk11G3 (id te : Int) (F : List (List Int)) (y : Int) (f : Bool) (e kd mf : Int) (S : Stack) : Option Res :=
  bif e != 0 then some (.tuple [dRp id te F y f, msgA msg0, .int .i64 e], [], S) else bif !f then tk11End id te F (F.length : Int) f kd mf S else tk11End id te F y f kd mf S
def tk11G2 (id te : Int) (F : List (List Int)) (y : Int) (f : Bool) (e kd : Int) (m : Msg) (S : Stack) : Option Res :=
  bif m.k == 5 then bif smR F then bif !(rpR F [] false).2.1 then bif smallL F && decide (1 ≤ 100000000) then tk11G3 id te (ad11F F [0] f) y f (ad11V F [0] f) kd m.f S else none else tk11G3 id te F y f e kd m.f S else none else tk11G3 id te F y f e kd m.f S
def tk11Go (id te : Int) (F : List (List Int)) (y : Int) (f : Bool) (m : Msg) (S : Stack) : Option Res :=
  bif m.k == 3 then bif smallL F && enR m.e then tk11G2 id te (orF (docR id te F y f) F m.e) y f (orE (docR id te F y f) m.e) 4 m S else none else tk11G2 id te F y f 0 6 m S
def tk11No (id te : Int) (F : List (List Int)) (y : Int) (f : Bool) (S : Stack) : Option Res := some (.tuple [dRp id te F y f, msgA msg0, .int .i64 1], [], S)
theorem tk11_eq (id te : Int) (F : List (List Int)) (y : Int) (f : Bool) (m : Msg) (S : Stack) : body PR (cfE ET11) cfgRp lf0 n_ref11_Take [dRp id te F y f, msgA m] S some =
    (bif !rightM m then tk11No id te F y f S else bif m.t != id then tk11No id te F y f S else bif m.te != te then tk11No id te F y f S
    else bif m.k != 3 then (bif m.k != 5 then tk11No id te F y f S else tk11Go id te F y f m S) else tk11Go id te F y f m S) := by kernel_rfl
def tk11V (id te : Int) (F : List (List Int)) (Y : Nat) (f : Bool) (m : Msg) : AV :=
  .tuple [dRp id te (tkF (docR id te F (Y : Int) f) F m) ((tkY (docR id te F (Y : Int) f) F Y m : Nat) : Int) f, msgA (tkM (docR id te F (Y : Int) f) m), .int .i64 (tkE (docR id te F (Y : Int) f) m)]
theorem tk11_no {id te : Int} {F : List (List Int)} {Y : Nat} {f : Bool} {m : Msg} (S : Stack) (h : (mineM (docR id te F (Y : Int) f) m && (m.k == 5 || m.k == 3)) = false) : tk11No id te F (Y : Int) f S = some (tk11V id te F Y f m, [], S) := by
  unfold tk11No tk11V tkY
  unfold tkF tkM tkE
  revert h
  cases mineM (docR id te F (Y : Int) f) m <;> cases m.k == 5 <;> cases m.k == 3 <;> intro h <;> first | (cases h; done) | rfl
theorem tk11_end {id te : Int} {F : List (List Int)} {Y : Nat} {f : Bool} {m : Msg} (S : Stack) (hI : RpInv (docR id te F (Y : Int) f) F Y) (h : (mineM (docR id te F (Y : Int) f) m && (m.k == 5 || m.k == 3)) = true) {kd : Int}
    (hM : tkM (docR id te F (Y : Int) f) m = bif tkE (docR id te F (Y : Int) f) m == 0 then { msg0 with k := kd, f := id, t := m.f, te := te, nu := ((tkZ (docR id te F (Y : Int) f) m).l.length : Int), is := (tkZ (docR id te F (Y : Int) f) m).se } else msg0) :
    tk11G3 id te (tkF (docR id te F (Y : Int) f) F m) (Y : Int) f (tkE (docR id te F (Y : Int) f) m) kd m.f S = some (tk11V id te F Y f m, [], S) := by
  have hT := hI.tk m
  have hs := smallL_smR (inv_smallL' hT.st)
  have hrd := hT.rd
  unfold tk11V
  rw [hM]
  unfold tkY tk11G3 tk11End tk11M
  rw [h, hs, hrd, bne]
  have ho : (docR id te F (Y : Int) f).o = f := rfl
  rw [ho]
  cases he : (tkE (docR id te F (Y : Int) f) m == 0) with
  | true =>
    rw [beq_iff_eq] at he
    rw [he]
    cases f <;> rfl
  | false => rfl
theorem tk11_res {id te : Int} {F : List (List Int)} {Y : Nat} {f : Bool} {m : Msg} (S : Stack) (hI : RpInv (docR id te F (Y : Int) f) F Y) : body PR (cfE ET11) cfgRp lf0 n_ref11_Take [dRp id te F (Y : Int) f, msgA m] S some = some (tk11V id te F Y f m, [], S) := by
  rw [tk11_eq]
  have hsF := inv_smallL' hI.st
  have hmi : mineM (docR id te F (Y : Int) f) m = (rightM m && (m.t == id && m.te == te)) := rfl
  cases hr : rightM m with
  | false => exact tk11_no S (by rw [hmi, hr]; rfl)
  | true =>
  rw [bne, bne]
  cases h1 : m.t == id with
  | false => exact tk11_no S (by rw [hmi, hr, h1]; rfl)
  | true =>
  cases h2 : m.te == te with
  | false => exact tk11_no S (by rw [hmi, hr, h1, h2]; rfl)
  | true =>
  have hm : mineM (docR id te F (Y : Int) f) m = true := by rw [hmi, hr, h1, h2]; rfl
  simp only [Bool.not_true, cond_false]
  rw [bne, bne]
  cases h3 : m.k == 3 with
  | true =>
    have h5 : (m.k == 5) = false := by rw [beq_iff_eq] at h3; rw [h3]; rfl
    have hF : tkF (docR id te F (Y : Int) f) F m = orF (docR id te F (Y : Int) f) F m.e := by unfold tkF orF; rw [hm, h5, h3]; rfl
    have hE : tkE (docR id te F (Y : Int) f) m = orE (docR id te F (Y : Int) f) m.e := by unfold tkE; rw [hm, h5, h3]; rfl
    have hl : (tkZ (docR id te F (Y : Int) f) m).l = (orZ (docR id te F (Y : Int) f) m.e).l ∧ (tkZ (docR id te F (Y : Int) f) m).se = (orZ (docR id te F (Y : Int) f) m.e).se := by unfold tkZ; rw [hm, h5, h3]; exact tlZ_l _ _
    have hid : (orZ (docR id te F (Y : Int) f) m.e).id = id ∧ (orZ (docR id te F (Y : Int) f) m.e).te = te := by unfold orZ; cases orGo (docR id te F (Y : Int) f) m.e <;> exact ⟨rfl, rfl⟩
    have := tk11_end (kd := 4) S hI (m := m) (by rw [hm, h3, Bool.or_true]; rfl) (by
      rw [hl.1, hl.2]
      unfold tkM tkE tlV tlM
      rw [hm, h5, h3]
      simp only [cond_true, cond_false]
      rw [hid.1, hid.2])
    rw [hF, hE] at this
    simp only [Bool.not_true, cond_false]
    unfold tk11Go tk11G2
    rw [h3, h5, hsF, fits_ent hr (beq_iff_eq.1 h3)]
    exact this
  | false =>
  cases h5 : m.k == 5 with
  | false => exact tk11_no S (by rw [h3, h5, Bool.or_self, Bool.and_false])
  | true =>
    have hF : tkF (docR id te F (Y : Int) f) F m = bif clGo (docR id te F (Y : Int) f) then F ++ [[0]] else F := by unfold tkF; rw [hm, h5, h3]; rfl
    have hE : tkE (docR id te F (Y : Int) f) m = clE (docR id te F (Y : Int) f) := by unfold tkE; rw [hm, h5]; rfl
    have hl : (tkZ (docR id te F (Y : Int) f) m).l = (clZ (docR id te F (Y : Int) f)).l ∧ (tkZ (docR id te F (Y : Int) f) m).se = (clZ (docR id te F (Y : Int) f)).se := by unfold tkZ; rw [hm, h5]; exact tlZ_l _ _
    have hid : (clZ (docR id te F (Y : Int) f)).id = id ∧ (clZ (docR id te F (Y : Int) f)).te = te := by unfold clZ; cases clGo (docR id te F (Y : Int) f) <;> exact ⟨rfl, rfl⟩
    have := tk11_end (kd := 6) S hI (m := m) (by rw [hm, h5]; rfl) (by
      rw [hl.1, hl.2]
      unfold tkM tkE tlV tlM
      rw [hm, h5]
      simp only [cond_true]
      rw [hid.1, hid.2])
    rw [hF, hE] at this
    simp only [Bool.not_true, Bool.not_false, cond_true, cond_false]
    unfold tk11Go tk11G2
    rw [h3, h5, hsF, smallL_smR hsF]
    simp only [cond_true, cond_false, Bool.true_and]
    unfold clGo clE at this
    have hse : (docR id te F (Y : Int) f).se = (rpR F [] false).2.1 := rfl
    have hb : (docR id te F (Y : Int) f).b = catF F := rfl
    have ho : (docR id te F (Y : Int) f).o = f := rfl
    rw [hse, hb, ho] at this
    unfold ad11F ad11V
    revert this
    cases (rpR F [] false).2.1 with
    | true => exact fun h => h
    | false =>
      cases appOK (catF F) [0] f with
      | true => exact fun h => h
      | false => exact fun h => h
def tk11C : List AV → Tr AV
  | [.agg [.int .i64 id, .int .i64 te, .slice .str F .view, .int .i64 y, .bool f], .agg cs] => match msgOf cs with
    | some m => .br (gR F y) (.yes (tk11V id te F y.toNat f m)) .no
    | none => .no
  | _ => .no
theorem tk11_ok : Con PR A n_ref11_Take (pureC tk11C) := by
  refine pure_con0 (cfg := cfgRp) ET11 mixed (by kernel_rfl) (by kernel_rfl) (by kernel_rfl) fun args v hv ha S => ?_
  unfold tk11C at hv
  split at hv
  · rename_i id te F y f cs
    split at hv
    · rename_i m hmm
      have := msgOf_some hmm
      subst this
      obtain ⟨hc, hv2⟩ := Tr.br_no hv
      cases hv2
      simp only [okAVs, okAV] at ha
      have hI := gR_inv hc (fun x hx => (ha.1.2.2.1.2 x hx).2) id te f
      have hy : ((y.toNat : Nat) : Int) = y := by have := (gR_iff.1 hc).1; omega
      have h := tk11_res (m := m) S (Y := y.toNat) (by rw [hy]; exact hI)
      rw [hy] at h
      exact h
    · cases hv
  · cases hv
def tk11E : Ent PR A := ⟨n_ref11_Take, _, tk11_ok⟩
def cs11C : List AV → Tr AV
  | [.agg [.int .i64 id, .int .i64 te, .slice .str F .view, .int .i64 y, .bool f], .int .i64 k] => .br (decide (0 ≤ y) && (decide (y ≤ (F.length : Int)) && smallL F)) (.yes (dRp id te (F.take (dcN F y k)) ((dcN F y k : Nat) : Int) false)) .no
  | _ => .no
theorem cs11_ok : Con PR A n_ref11_Crash (pureC cs11C) := by
  refine pure_con0 (cfg := cfgRp) [dcrE] mixed (by kernel_rfl) (by kernel_rfl) (by kernel_rfl) fun args v hv ha S => ?_
  unfold cs11C at hv
  split at hv
  · rename_i id te F y f k
    obtain ⟨hc, hv2⟩ := Tr.br_no hv
    cases hv2
    have h : body PR (cfE (P := PR) (A := A) [dcrE]) cfgRp lf0 n_ref11_Crash [dRp id te F y f, .int .i64 k] S some = (bif decide (0 ≤ y) && (decide (y ≤ (F.length : Int)) && smallL F) then some (dRp id te (F.take (dcN F y k)) ((dcN F y k : Nat) : Int) false, [], S) else none) := by kernel_rfl
    refine h.trans ?_
    rw [hc]; rfl
  · cases hv
def cs11E : Ent PR A := ⟨n_ref11_Crash, _, cs11_ok⟩
end Go.Crc
/- Calls of scripts on both sides. Conditions: none. A text of this seat's numbers. -/
set_option linter.unusedVariables false
set_option linter.unusedSimpArgs false
set_option maxRecDepth 100000
namespace Go.Crc
open Go.Vm Go.Pack Go.Rec Go.RowKit
def dsF (z : RpS) (F : List (List Int)) (Y : Nat) (x : Op11) : List (List Int) := bif x.kd == 0 then tkF z F x.m else bif x.kd == 1 then F.take (dcN F (Y : Int) x.N) else bif x.kd == 3 then F.take Y else F
def dsY (z : RpS) (F : List (List Int)) (Y : Nat) (x : Op11) : Nat := bif x.kd == 0 then tkY z F Y x.m else bif x.kd == 1 then dcN F (Y : Int) x.N else Y
def dsO (f : Bool) (x : Op11) : Bool := bif x.kd == 1 then false else bif x.kd == 2 then x.w else bif x.kd == 3 then false else f
def opZ (z : RpS) (x : Op11) : RpS := bif x.kd == 3 then rsZ z else dsZ z x
theorem RpInv.op {z : RpS} {F : List (List Int)} {Y : Nat} (h : RpInv z F Y) (x : Op11) : RpInv (opZ z x) (dsF z F Y x) (dsY z F Y x) := by
  unfold opZ dsF dsY dsZ
  by_cases e3 : x.kd = 3
  · rw [e3]; exact h.rs
  have n3 : (x.kd == 3) = false := by simpa using e3
  rw [n3]
  cases x.kd == 0 with
  | true => exact h.tk x.m
  | false =>
  cases x.kd == 1 with
  | true => exact h.cs x.N
  | false =>
  cases x.kd == 2 with
  | true => exact h.off x.w
  | false => exact h
theorem opZ_o (z : RpS) (x : Op11) : (opZ z x).o = dsO z.o x := by
  unfold opZ dsO dsZ
  by_cases e3 : x.kd = 3
  · rw [e3]; rfl
  have n3 : (x.kd == 3) = false := by simpa using e3
  rw [n3]
  by_cases e0 : x.kd = 0
  · rw [e0]; exact tkZ_o z x.m
  have n0 : (x.kd == 0) = false := by simpa using e0
  rw [n0]
  cases x.kd == 1 with
  | true => rfl
  | false => cases x.kd == 2 <;> rfl
theorem opZ_ids (z : RpS) (x : Op11) : (opZ z x).id = z.id ∧ (opZ z x).te = z.te := by
  unfold opZ
  cases x.kd == 3 with
  | true => exact ⟨rfl, rfl⟩
  | false => exact dsZ_ids z x
theorem RpInv.doc {z : RpS} {F : List (List Int)} {Y : Nat} (h : RpInv z F Y) : z = docR z.id z.te F (Y : Int) z.o := by
  obtain ⟨id, te, l, se, b, n, o⟩ := z
  have h1 := h.rd
  have h4 := h.st.cat
  have h5 := h.st.syn
  simp only at h1 h4 h5
  unfold docR
  rw [h1, Int.toNat_natCast]
  simp only
  rw [h4, h5]
theorem RpInv.gR {z : RpS} {F : List (List Int)} {Y : Nat} (h : RpInv z F Y) : gR F (Y : Int) = true := by
  have h1 := h.st.le
  have h2 := h.st.len
  rw [h.st.cat] at h2
  exact gR_iff.2 ⟨by omega, by omega, inv_smallL' h.st, h2, by rw [h.rd]⟩
abbrev EDo11 : List (Ent PR A) := [tk11E, cs11E]
def dd11V (id te : Int) (F : List (List Int)) (Y : Nat) (f : Bool) (x : Op11) : AV :=
  .tuple [dRp id te (dsF (docR id te F (Y : Int) f) F Y x) ((dsY (docR id te F (Y : Int) f) F Y x : Nat) : Int) (dsO f x), msgA (dsM (docR id te F (Y : Int) f) x), .int .i64 (dsE (docR id te F (Y : Int) f) x)]
def dd11R (id te : Int) (F : List (List Int)) (y : Int) (f : Bool) (x : Op11) (S : Stack) : Option Res :=
  bif x.kd == 0 then bif gR F y then some (tk11V id te F y.toNat f x.m, [], S) else none
  else bif x.kd == 1 then bif decide (0 ≤ y) && (decide (y ≤ (F.length : Int)) && smallL F) then some (.tuple [dRp id te (F.take (dcN F y x.N)) ((dcN F y x.N : Nat) : Int) false, msgA msg0, .int .i64 0], [], S) else none
  else bif x.kd == 2 then some (.tuple [dRp id te F y x.w, msgA msg0, .int .i64 0], [], S)
  else bif x.kd == 3 then bif decide (0 ≤ y) && decide (y ≤ (F.length : Int)) then some (.tuple [dRp id te ((F.take y.toNat).drop 0) y false, msgA msg0, .int .i64 0], [], S) else none
  else some (.tuple [dRp id te F y f, msgA msg0, .int .i64 0], [], S)
theorem dd11_eq (id te : Int) (F : List (List Int)) (y : Int) (f : Bool) (x : Op11) (S : Stack) : body PR (cfE EDo11) cfgRp lf0 n_ref11_Do [dRp id te F y f, .agg (op11C x)] S some = dd11R id te F y f x S := by kernel_rfl
theorem dd11_res {id te : Int} {F : List (List Int)} {Y : Nat} {f : Bool} (h : gR F (Y : Int) = true) (x : Op11) (S : Stack) : dd11R id te F (Y : Int) f x S = some (dd11V id te F Y f x, [], S) := by
  obtain ⟨h1, h2, h3, h4, h5⟩ := gR_iff.1 h
  unfold dd11R dd11V tk11V dsF dsY dsO dsM dsE
  rw [h, h3, decide_eq_true h1, decide_eq_true h2, Int.toNat_natCast, List.drop_zero]
  by_cases e0 : x.kd = 0
  · rw [e0]; rfl
  have n0 : (x.kd == 0) = false := by simpa using e0
  rw [n0]
  by_cases e1 : x.kd = 1
  · rw [e1]; rfl
  have n1 : (x.kd == 1) = false := by simpa using e1
  rw [n1]
  by_cases e2 : x.kd = 2
  · rw [e2]; rfl
  have n2 : (x.kd == 2) = false := by simpa using e2
  rw [n2]
  cases x.kd == 3 <;> rfl
def dd11C : List AV → Tr AV
  | [.agg [.int .i64 id, .int .i64 te, .slice .str F .view, .int .i64 y, .bool f], .agg oc] => match op11Of oc with
    | some x => .br (gR F y) (.yes (dd11V id te F y.toNat f x)) .no
    | none => .no
  | _ => .no
theorem dd11_ok : Con PR A n_ref11_Do (pureC dd11C) := by
  refine pure_con0 (cfg := cfgRp) EDo11 mixed (by kernel_rfl) (by kernel_rfl) (by kernel_rfl) fun args v hv ha S => ?_
  unfold dd11C at hv
  split at hv
  · rename_i id te F y f oc
    split at hv
    · rename_i x hm
      have := op11Of_some hm
      subst this
      obtain ⟨hc, hv2⟩ := Tr.br_no hv
      cases hv2
      have hy : ((y.toNat : Nat) : Int) = y := by have := (gR_iff.1 hc).1; omega
      have h := dd11_res (id := id) (te := te) (F := F) (Y := y.toNat) (f := f) (by rw [hy]; exact hc) x S
      rw [hy] at h
      exact (dd11_eq id te F y f x S).trans h
    · cases hv
  · cases hv
def dd11E : Ent PR A := ⟨n_ref11_Do, _, dd11_ok⟩
end Go.Crc
