/- Contracts of functions of this program. Conditions: none. -/
import Derived.Test.YtdnghpfmobnjlaaGreatWm
set_option linter.unusedVariables false
set_option linter.unusedSimpArgs false
/- The world of three acceptors and three proposers; how it begins. Conditions: none. A text of this seat's numbers. -/
set_option linter.unusedVariables false
set_option linter.unusedSimpArgs false
set_option maxRecDepth 100000
namespace Go.Crc
open Go.Vm Go.Pack Go.Rec Go.RowKit
abbrev Cf := Int × List Int × List (List Int)
structure WS where
  a0 : AcS
  a1 : AcS
  a2 : AcS
  p0 : PrS
  p1 : PrS
  p2 : PrS
  u0 : Cf
  u1 : Cf
  u2 : Cf
abbrev wHd (w : List MsI) (lv : Lv) : Ob := .cells [.row [.ptr 0 2 0, .ptr 0 8 0, .ptr 0 14 0] .own, .row [.ptr 0 6 0, .ptr 0 12 0, .ptr 0 18 0] .own, .slice MsT w lv]
abbrev wOb (j : Nat) (a : AcS) (p : PrS) (u : Cf) : List Ob := [astO a.b a.n a.o, acOj j a.id a.sl a.v, coOb u.1 u.2.1 u.2.2, .map p.pm, .map p.am, .cells (prCj (j + 3) (j + 4) p)]
abbrev wObs (w : List MsI) (lv : Lv) (x : WS) : List Ob := wHd w lv :: app (wOb 1 x.a0 x.p0 x.u0) (app (wOb 7 x.a1 x.p1 x.u1) (wOb 13 x.a2 x.p2 x.u2))
noncomputable def EBg : List (Ent PR A) := [stNwE, napE, lcfE, npE]
noncomputable abbrev LBg (lf : Nat → Option LoopSum) (N : Nat) := LC PR (cfE EBg) cfgPx lf n_law_begun 0 58 [2, 10] [0, 1, 2] N
def ac0 (i : Int) : AcS := ⟨i, 2, av0, [], 0, false⟩
def pr0 (i : Int) : PrS := newP (3 + i) 2 [0, 1, 2] 2 [0] [[i]]
def ws0 : WS := ⟨ac0 0, ac0 1, ac0 2, pr0 0, pr0 1, pr0 2, (2, [0], [[0]]), (2, [0], [[1]]), (2, [0], [[2]])⟩
abbrev bgS0 : List Ob := [.cells [.row [] .own, .row [] .own, .slice MsT [] .own]]
theorem bg_rounds (lf : Nat → Option LoopSum) (S : Stack) (wr : Wr) (N : Nat) (k : Ex → List AV → Stack → Wr → Option Res) : LBg lf (N + 4) [.ptr 0 0 0, .int .i64 0] (bgS0 :: S) wr k =
    k (.exit 0) [.undef, .undef, .ptr 0 0 0] (wObs [] .own ws0 :: S) (app [(0, 0), (0, 0), (0, 0), (0, 0), (0, 0), (0, 0)] wr) := by kernel_rfl
def lfBg : Nat → Option LoopSum := lfOf [(58, loopT [2, 10] [0, 1, 2] fun vs H => match vs, H with
  | [.ptr 0 0 0, .int .i64 i], [.cells [.row [] .own, .row [] .own, .slice (.pair (.int .i64) (.pair (.int .i64) (.pair (.int .i64) (.pair (.int .i64) (.pair (.int .i64) (.pair (.int .i64) (.pair .bool (.pair (.pair (.pair (.int .i64) (.int .i64)) (.pair (.slice (.int .i64)) .str)) (.pair (.pair (.int .i64) (.pair (.int .i64) (.pair (.slice (.int .i64)) (.pair (.int .i64) (.pair (.int .i64) (.int .i64)))))) (.pair (.int .i64) (.pair (.int .i64) (.pair (.int .i64) (.pair (.slice (.int .i64)) (.slice (.slice (.int .i64)))))))))))))))) [] .own]] :: S => .br (decide (i = 0)) (.yes (.exit 0, [.undef, .undef, .ptr 0 0 0], wObs [] .own ws0 :: S, [(0, 0), (0, 0), (0, 0), (0, 0), (0, 0), (0, 0)])) .no
  | _, _ => .no)]
theorem bg_loops : ∀ x ∈ funLoops PR n_law_begun, ∀ L, lfBg x.1 = some L → LoopOK (ntm PR n_law_begun) (fun fr H wr k => code PR (cfE EBg) cfgPx lfBg (cfgPx.live n_law_begun) x.2 (2 * x.1) fr H wr k) L := by
  refine one_loop (p := 58) rfl (by kernel_rfl) (loopT_ok (by decide) fun vs H wr ex vs' H' w hv ha hh => ?_)
  split at hv
  · rename_i i S
    obtain ⟨hc, hv2⟩ := Tr.br_no hv
    cases of_decide_eq_true hc
    cases hv2
    exact ⟨4, fun k => bg_rounds lfBg S wr 0 k⟩
  · cases hv
def bgF : List AV → Stack → Tr Res
  | [], [] :: S => .yes (.tuple [.ptr 0 0 0, .bool true], [], wObs [] .own ws0 :: S)
  | _, _ => .no
theorem bg_ok : Con PR A n_law_begun (shapeC bgF) := by
  refine shapeC_ok fun args S res hv => ?_
  unfold bgF at hv
  split at hv
  · rename_i S
    cases hv
    have h : body PR (cfE EBg) cfgPx lfBg n_law_begun [] ([] :: S) some = some (.tuple [.ptr 0 0 0, .bool true], [], wObs [] .own ws0 :: S) := by kernel_rfl
    exact ⟨fun _ _ => fun_call _ mixed (by kernel_rfl) (by kernel_rfl) bg_loops h, app_keeps [] (wObs [] .own ws0) S⟩
  · cases hv
def bgE : Ent PR A := ⟨n_law_begun, _, bg_ok⟩
def stR : List AV → Option (List Int × Int × Bool)
  | [.slice (.int .u8) b .own, .int .i64 n, .bool o] => some (b, n, o)
  | _ => none
theorem stR_some {cs : List AV} {x : List Int × Int × Bool} (h : stR cs = some x) : Ob.cells cs = astO x.1 x.2.1 x.2.2 := by
  unfold stR at h
  split at h
  · cases h; rfl
  · cases h
def acR : List AV → Option (Nat × Int × Int × AcV)
  | [.int .i64 i, .int .i64 s, .ptr 0 j 0, .int .i64 pr, .int .i64 ac, .int .i64 ct, .slice (.int .i64) c .view, .slice (.slice (.int .i64)) ch .view] => some (j, i, s, ⟨pr, ac, ct, c, ch⟩)
  | _ => none
theorem acR_some {cs : List AV} {x : Nat × Int × Int × AcV} (h : acR cs = some x) : Ob.cells cs = acOj x.1 x.2.1 x.2.2.1 x.2.2.2 := by
  unfold acR at h
  split at h
  · cases h; rfl
  · cases h
def coR : List AV → Option Cf
  | [.int .i64 t, .slice (.int .i64) s .view, .slice (.slice (.int .i64)) sh .view] => some (t, s, sh)
  | _ => none
theorem coR_some {cs : List AV} {x : Cf} (h : coR cs = some x) : Ob.cells cs = coOb x.1 x.2.1 x.2.2 := by
  unfold coR at h
  split at h
  · cases h; rfl
  · cases h
def prR (a b : List Int) : List AV → Option (Nat × Nat × PrS × Bool)
  | [.int .i64 id, .int .i64 sl, .int .i64 ba, .slice (.int .i64) nodes .view, .int .i64 ct, .slice (.int .i64) cs .view, .slice (.slice (.int .i64)) ch .view, .int .i64 st, .slice (.int .i64) ss .view, .slice (.slice (.int .i64)) sh .view, .int .i64 old, .ptr 0 j1 o1, .ptr 0 j2 o2, .bool asked, .bool done] =>
    some (j1, j2, ⟨id, sl, ba, nodes, ct, cs, ch, st, ss, sh, old, a, b, asked, done⟩, Nat.beq o1 mapO && Nat.beq o2 mapO)
  | _ => none
theorem prR_some {a b : List Int} {cs : List AV} {x : Nat × Nat × PrS} (h : prR a b cs = some (x.1, x.2.1, x.2.2, true)) : Ob.cells cs = .cells (prCj x.1 x.2.1 x.2.2) ∧ x.2.2.pm = a ∧ x.2.2.am = b := by
  unfold prR at h
  split at h
  · simp only [Option.some.injEq, Prod.mk.injEq, Bool.and_eq_true, beq_iff] at h
    obtain ⟨rfl, rfl, h3, rfl, rfl⟩ := h
    rw [← h3]
    exact ⟨rfl, rfl, rfl⟩
  · cases h
def hdR : List AV → Option (List MsI)
  | [.row [.ptr 0 2 0, .ptr 0 8 0, .ptr 0 14 0] .own, .row [.ptr 0 6 0, .ptr 0 12 0, .ptr 0 18 0] .own, .slice (.pair (.int .i64) (.pair (.int .i64) (.pair (.int .i64) (.pair (.int .i64) (.pair (.int .i64) (.pair (.int .i64) (.pair .bool (.pair (.pair (.pair (.int .i64) (.int .i64)) (.pair (.slice (.int .i64)) .str)) (.pair (.pair (.int .i64) (.pair (.int .i64) (.pair (.slice (.int .i64)) (.pair (.int .i64) (.pair (.int .i64) (.int .i64)))))) (.pair (.int .i64) (.pair (.int .i64) (.pair (.int .i64) (.pair (.slice (.int .i64)) (.slice (.slice (.int .i64)))))))))))))))) w .own] => some w
  | _ => none
theorem hdR_some {cs : List AV} {w : List MsI} (h : hdR cs = some w) : Ob.cells cs = wHd w .own := by
  unfold hdR at h
  split at h
  · cases h; rfl
  · cases h
def seatR (j : Nat) : List Ob → Option ((AcS × PrS × Cf) × Bool)
  | [.cells s, .cells a, .cells c, .map pm, .map am, .cells p] => match stR s, acR a, coR c, prR pm am p with
    | some s, some a, some c, some p => some ((⟨a.2.1, a.2.2.1, a.2.2.2, s.1, s.2.1, s.2.2⟩, p.2.2.1, c), Nat.beq a.1 j && (Nat.beq p.1 (j + 3) && (Nat.beq p.2.1 (j + 4) && p.2.2.2)))
    | _, _, _, _ => none
  | _ => none
theorem seatR_some {j : Nat} {l : List Ob} {x : AcS × PrS × Cf} (h : seatR j l = some (x, true)) : l = wOb j x.1 x.2.1 x.2.2 := by
  unfold seatR at h
  split at h
  · split at h
    · rename_i s a c pm am p _ _ _ _ s' a' c' p' h1 h2 h3 h4
      simp only [Option.some.injEq, Prod.mk.injEq, Bool.and_eq_true, beq_iff] at h
      obtain ⟨rfl, h5, h6, h7, h8⟩ := h
      obtain ⟨j1, j2, q, o⟩ := p'
      simp only at h6 h7 h8
      subst h6 h7 h8
      obtain ⟨e1, e2, e3⟩ := prR_some (x := (j + 3, j + 4, q)) h4
      rw [stR_some h1, acR_some h2, coR_some h3, e1, h5, ← e2, ← e3]
    · cases h
  · cases h
def wOf : List Ob → Option ((List MsI × WS) × Bool)
  | [.cells hd, o1, o2, o3, o4, o5, o6, o7, o8, o9, o10, o11, o12, o13, o14, o15, o16, o17, o18] => match hdR hd, seatR 1 [o1, o2, o3, o4, o5, o6], seatR 7 [o7, o8, o9, o10, o11, o12], seatR 13 [o13, o14, o15, o16, o17, o18] with
    | some w, some x, some y, some z => some ((w, ⟨x.1.1, y.1.1, z.1.1, x.1.2.1, y.1.2.1, z.1.2.1, x.1.2.2, y.1.2.2, z.1.2.2⟩), x.2 && (y.2 && z.2))
    | _, _, _, _ => none
  | _ => none
theorem wOf_some {l : List Ob} {x : List MsI × WS} (h : wOf l = some (x, true)) : l = wObs x.1 .own x.2 := by
  unfold wOf at h
  split at h
  · split at h
    · rename_i w x y z h1 h2 h3 h4
      simp only [Option.some.injEq, Prod.mk.injEq, Bool.and_eq_true] at h
      obtain ⟨rfl, h5, h6, h7⟩ := h
      obtain ⟨x, xb⟩ := x
      obtain ⟨y, yb⟩ := y
      obtain ⟨z, zb⟩ := z
      simp only at h5 h6 h7
      subst h5 h6 h7
      have e1 := seatR_some h2
      have e2 := seatR_some h3
      have e3 := seatR_some h4
      simp only [List.cons.injEq, and_true] at e1 e2 e3
      obtain ⟨rfl, rfl, rfl, rfl, rfl, rfl⟩ := e1
      obtain ⟨rfl, rfl, rfl, rfl, rfl, rfl⟩ := e2
      obtain ⟨rfl, rfl, rfl, rfl, rfl, rfl⟩ := e3
      rw [hdR_some h1]
      rfl
    · cases h
  · cases h
end Go.Crc
/- The law PaxosSolo: its rounds. Conditions: none. A text of this seat's numbers. -/
set_option linter.unusedVariables false
set_option linter.unusedSimpArgs false
set_option maxRecDepth 100000
namespace Go.Crc
open Go.Vm Go.Pack Go.Rec Go.RowKit
noncomputable def ESo : List (Ent PR A) := [bgE, palvE, staE, aptE, heE, choE, tsE, lcfE]
abbrev idP (p y : PrS) : PrS := { y with id := p.id, sl := p.sl, nodes := p.nodes, ct := p.ct, cs := p.cs, ch := p.ch }
abbrev soV (f s i : Int) (nx : List MsI) (fs : List Int) (tw i51 c70 : Int) (l : List MsI) (m j : Int) : List AV :=
  [.int .i64 f, .int .i64 s, .ptr 0 0 0, .int .i64 i, .slice MsT nx .own, .slice (.int .i64) fs .mine, .int .i64 tw, .int .i64 i51, .int .i64 c70, .slice MsT l .view, .int .i64 m, .int .i64 j]
abbrev soO (f s i : Int) (nx : List MsI) (fs : List Int) (tw i51 c70 : Int) : List AV :=
  [.int .i64 f, .int .i64 s, .ptr 0 0 0, .int .i64 i, .slice MsT nx .own, .slice (.int .i64) fs .mine, .int .i64 tw, .int .i64 i51, .int .i64 c70]
noncomputable abbrev LSoI (lf : Nat → Option LoopSum) (N : Nat) := LC PR (cfE ESo) cfgPx lf n_law_PaxosSolo 2 64175306 [0, 1, 5, 7, 11, 49, 50, 51, 70, 72, 73, 74] [0, 1, 5, 7, 11, 49, 50, 51, 70] N
def soH (a : AcS) (x : MsI) : Bool := ptkE a (toM x) == 0
def soA (a : AcS) (x : MsI) : AcS := idA a (ptkZ a (toM x))
def soP (a : AcS) (p : PrS) (x : MsI) : PrS := bif soH a x then idP p (heZ p (ptkM a (toM x))) else p
def soN (a : AcS) (p : PrS) (x : MsI) (nx : List MsI) : List MsI := bif soH a x then nx ++ ofMs (heL p (ptkM a (toM x))) else nx
def soC (p : PrS) : Bool := decide (p.nodes.length ≤ 100000) && (smC p.ss p.sh && (decide (p.pm.length ≤ 1000000) && decide (p.am.length ≤ 1000000)))
def soK (a : AcS) (p : PrS) (x : MsI) (nx : List MsI) : Bool := goodA a && (!soH a x || (soC p && decide ((nx.length + (ofMs (heL p (ptkM a (toM x)))).length) * 248 ≤ 140737488355328)))
def soT (a : AcS) (p : PrS) (x : MsI) (nx : List MsI) (no : AcS → Option Res) (ok : AcS → PrS → List MsI → Option Res) : Option Res :=
  bif goodA a then bif ptkE a (toM x) == 0 then
    bif (decide (p.nodes.length ≤ 100000) && (smC p.ss p.sh && (decide (p.pm.length ≤ 1000000) && decide (p.am.length ≤ 1000000)))) then
      bif decide ((nx.length + (ofMs (heL p (ptkM a (toM x)))).length) * 248 ≤ 140737488355328) then ok (idA a (ptkZ a (toM x))) (idP p (heZ p (ptkM a (toM x)))) (nx ++ ofMs (heL p (ptkM a (toM x)))) else none
    else none
  else no (idA a (ptkZ a (toM x))) else none
theorem soT_ok {a : AcS} {p : PrS} {x : MsI} {nx : List MsI} (h : soK a p x nx = true) (no : AcS → Option Res) (ok : AcS → PrS → List MsI → Option Res) : soT a p x nx no ok = bif soH a x then ok (soA a x) (soP a p x) (soN a p x nx) else no (soA a x) := by
  unfold soK soC at h
  rw [Bool.and_eq_true] at h
  unfold soT soA soP soN
  rw [h.1]
  cases hh : soH a x with
  | false =>
    have e : (ptkE a (toM x) == 0) = false := hh
    rw [e]; rfl
  | true =>
    have e : (ptkE a (toM x) == 0) = true := hh
    have h2 := h.2
    rw [hh] at h2
    simp only [Bool.not_true, Bool.false_or] at h2
    rw [Bool.and_eq_true] at h2
    rw [e, h2.1, h2.2]; rfl
structure SS where
  a0 : AcS
  a1 : AcS
  a2 : AcS
  p : PrS
  nx : List MsI
def soGo (x : MsI) (z : SS) : SS :=
  bif decide ((toM x).t = 0) then ⟨soA z.a0 x, z.a1, z.a2, soP z.a0 z.p x, soN z.a0 z.p x z.nx⟩
  else bif decide ((toM x).t = 1) then ⟨z.a0, soA z.a1 x, z.a2, soP z.a1 z.p x, soN z.a1 z.p x z.nx⟩
  else ⟨z.a0, z.a1, soA z.a2 x, soP z.a2 z.p x, soN z.a2 z.p x z.nx⟩
def soOk (x : MsI) (z : SS) : Bool :=
  bif decide ((toM x).t = 0) then soK z.a0 z.p x z.nx else bif decide ((toM x).t = 1) then soK z.a1 z.p x z.nx else decide ((toM x).t = 2) && soK z.a2 z.p x z.nx
def soW (b : Wr) (x : MsI) (z : SS) : Wr :=
  bif decide ((toM x).t = 0) then app (bif soH z.a0 x then b else []) [(0, 20), (0, 2), (0, 1), (0, 19)] else bif decide ((toM x).t = 1) then app (bif soH z.a1 x then b else []) [(0, 20), (0, 8), (0, 7), (0, 19)] else app (bif soH z.a2 x then b else []) [(0, 20), (0, 14), (0, 13), (0, 19)]
def soL : List MsI → SS → SS
  | [], z => z
  | x :: r, z => soL r (soGo x z)
def soLok : List MsI → SS → Bool
  | [], _ => true
  | x :: r, z => soOk x z && soLok r (soGo x z)
def soLw (b : Wr) : List MsI → SS → Wr
  | [], _ => []
  | x :: r, z => app (soLw b r (soGo x z)) (soW b x z)
theorem soW_all0 {b : Wr} (hb : all0 b = true) (x : MsI) (z : SS) : all0 (soW b x z) = true := by
  unfold soW
  cases decide ((toM x).t = 0) <;> cases decide ((toM x).t = 1) <;> cases soH z.a0 x <;> cases soH z.a1 x <;> cases soH z.a2 x <;> first | rfl | exact all0_app hb rfl
theorem soLw_all0 {b : Wr} (hb : all0 b = true) : ∀ (l : List MsI) (z : SS), all0 (soLw b l z) = true
  | [], _ => rfl
  | x :: r, z => all0_app (soLw_all0 hb r _) (soW_all0 hb x z)
theorem so_fold {F : Nat → Int → SS → Wr → Option Res} {E : SS → Wr → Option Res} {b : Wr} {l : List MsI} {m : Int} (hm : m = (l.length : Int)) (hl : l.length ≤ maxInt)
    (h : ∀ N j z wr, F (N + 1) j z wr = bif decide (j < m) then (at? l j).bind fun x =>
        bif decide ((toM x).t = 0) then soT z.a0 z.p x z.nx (fun a => F N (IntKind.i64.wrap (j + 1)) ⟨a, z.a1, z.a2, z.p, z.nx⟩ (app [(0, 20), (0, 2), (0, 1), (0, 19)] wr)) (fun a p nx => F N (IntKind.i64.wrap (j + 1)) ⟨a, z.a1, z.a2, p, nx⟩ (app (app b [(0, 20), (0, 2), (0, 1), (0, 19)]) wr))
        else bif decide ((toM x).t = 1) then soT z.a1 z.p x z.nx (fun a => F N (IntKind.i64.wrap (j + 1)) ⟨z.a0, a, z.a2, z.p, z.nx⟩ (app [(0, 20), (0, 8), (0, 7), (0, 19)] wr)) (fun a p nx => F N (IntKind.i64.wrap (j + 1)) ⟨z.a0, a, z.a2, p, nx⟩ (app (app b [(0, 20), (0, 8), (0, 7), (0, 19)]) wr))
        else bif decide ((toM x).t = 2) then soT z.a2 z.p x z.nx (fun a => F N (IntKind.i64.wrap (j + 1)) ⟨z.a0, z.a1, a, z.p, z.nx⟩ (app [(0, 20), (0, 14), (0, 13), (0, 19)] wr)) (fun a p nx => F N (IntKind.i64.wrap (j + 1)) ⟨z.a0, z.a1, a, p, nx⟩ (app (app b [(0, 20), (0, 14), (0, 13), (0, 19)]) wr))
        else none
      else E z wr) :
    ∀ (q j : Nat) (z : SS) (wr : Wr), j + q = l.length → soLok (l.drop j) z = true → F (q + 1) (j : Int) z wr = E (soL (l.drop j) z) (app (soLw b (l.drop j) z) wr) := by
  intro q
  induction q with
  | zero =>
    intro j z wr hj _
    have hd : l.drop j = [] := List.drop_of_length_le (by omega)
    rw [h, cond_ne (decide_eq_false (by omega)), hd]
    rfl
  | succ q ih =>
    intro j z wr hj hz
    have hlt : j < l.length := by omega
    have hd : l.drop j = l[j] :: l.drop (j + 1) := List.drop_eq_getElem_cons hlt
    have hx : l[j]? = some l[j] := List.getElem?_eq_getElem hlt
    rw [h, cond_eq (decide_eq_true (by omega)), at_some hx, Option.bind_some, wrap_next hlt hl]
    rw [hd] at hz ⊢
    generalize l[j] = x at hx hz
    simp only [soLok, Bool.and_eq_true] at hz
    obtain ⟨h1, h2⟩ := hz
    have hi := ih (j + 1) (soGo x z) (app (soW b x z) wr) (by omega) h2
    simp only [soL, soLw]
    rw [show app (app (soLw b (l.drop (j + 1)) (soGo x z)) (soW b x z)) wr = app (soLw b (l.drop (j + 1)) (soGo x z)) (app (soW b x z) wr) by simp only [app_eq, List.append_assoc]]
    rw [← hi]
    unfold soOk at h1
    unfold soGo soW
    cases e0 : decide ((toM x).t = 0) with
    | true =>
      rw [e0] at h1
      simp only [cond_true] at h1 ⊢
      rw [soT_ok h1]
      unfold soP soN
      cases soH z.a0 x <;> rfl
    | false =>
    cases e1 : decide ((toM x).t = 1) with
    | true =>
      rw [e0, e1] at h1
      simp only [cond_true, cond_false] at h1 ⊢
      rw [soT_ok h1]
      unfold soP soN
      cases soH z.a1 x <;> rfl
    | false =>
      rw [e0, e1] at h1
      simp only [cond_false, Bool.and_eq_true] at h1 ⊢
      rw [h1.1, cond_true, soT_ok h1.2]
      unfold soP soN
      cases soH z.a2 x <;> rfl
abbrev soB0 : Wr := [(0, 6), (0, 4), (0, 5)]
theorem so_round0 (lf : Nat → Option LoopSum) (f s : Int) (nx : List MsI) (fs : List Int) (tw i51 c70 : Int) (l : List MsI) (m j : Int) (w : List MsI) (x : WS) (S : Stack) (wr : Wr) (N : Nat) (k : Ex → List AV → Stack → Wr → Option Res) :
    LSoI lf (N + 1) (soV f s 0 nx fs tw i51 c70 l m j) (wObs w .own x :: S) wr k =
      (bif decide (j < m) then (at? l j).bind fun y =>
        bif decide ((toM y).t = 0) then soT x.a0 x.p0 y nx (fun a => LSoI lf N (soV f s 0 nx fs tw i51 c70 l m (IntKind.i64.wrap (j + 1))) (wObs w .own { x with a0 := a } :: S) (app [(0, 20), (0, 2), (0, 1), (0, 19)] wr) k)
          (fun a p nx => LSoI lf N (soV f s 0 nx fs tw i51 c70 l m (IntKind.i64.wrap (j + 1))) (wObs w .own { x with a0 := a, p0 := p } :: S) (app (app soB0 [(0, 20), (0, 2), (0, 1), (0, 19)]) wr) k)
        else bif decide ((toM y).t = 1) then soT x.a1 x.p0 y nx (fun a => LSoI lf N (soV f s 0 nx fs tw i51 c70 l m (IntKind.i64.wrap (j + 1))) (wObs w .own { x with a1 := a } :: S) (app [(0, 20), (0, 8), (0, 7), (0, 19)] wr) k)
          (fun a p nx => LSoI lf N (soV f s 0 nx fs tw i51 c70 l m (IntKind.i64.wrap (j + 1))) (wObs w .own { x with a1 := a, p0 := p } :: S) (app (app soB0 [(0, 20), (0, 8), (0, 7), (0, 19)]) wr) k)
        else bif decide ((toM y).t = 2) then soT x.a2 x.p0 y nx (fun a => LSoI lf N (soV f s 0 nx fs tw i51 c70 l m (IntKind.i64.wrap (j + 1))) (wObs w .own { x with a2 := a } :: S) (app [(0, 20), (0, 14), (0, 13), (0, 19)] wr) k)
          (fun a p nx => LSoI lf N (soV f s 0 nx fs tw i51 c70 l m (IntKind.i64.wrap (j + 1))) (wObs w .own { x with a2 := a, p0 := p } :: S) (app (app soB0 [(0, 20), (0, 14), (0, 13), (0, 19)]) wr) k)
        else none
      else k (.exit 4) (soO f s 0 nx fs tw i51 c70) (wObs w .own x :: S) wr) := by kernel_rfl
abbrev soIn0 (x : WS) (nx : List MsI) : SS := ⟨x.a0, x.a1, x.a2, x.p0, nx⟩
abbrev soTo0 (x : WS) (z : SS) : WS := { x with a0 := z.a0, a1 := z.a1, a2 := z.a2, p0 := z.p }
theorem so_inner0 (lf : Nat → Option LoopSum) (f s : Int) (nx : List MsI) (fs : List Int) (tw i51 c70 : Int) (l : List MsI) (m : Int) (w : List MsI) (x : WS) (S : Stack) (wr : Wr) (k : Ex → List AV → Stack → Wr → Option Res) (hm : m = (l.length : Int)) (hl : l.length ≤ maxInt) (hk : soLok l (soIn0 x nx) = true) :
    LSoI lf (l.length + 1) (soV f s 0 nx fs tw i51 c70 l m 0) (wObs w .own x :: S) wr k = k (.exit 4) (soO f s 0 (soL l (soIn0 x nx)).nx fs tw i51 c70) (wObs w .own (soTo0 x (soL l (soIn0 x nx))) :: S) (app (soLw soB0 l (soIn0 x nx)) wr) := by
  have := so_fold (F := fun N j z wr => LSoI lf N (soV f s 0 z.nx fs tw i51 c70 l m j) (wObs w .own (soTo0 x z) :: S) wr k) (E := fun z wr => k (.exit 4) (soO f s 0 z.nx fs tw i51 c70) (wObs w .own (soTo0 x z) :: S) wr) (b := soB0) hm hl
    (fun N j z wr => so_round0 lf f s z.nx fs tw i51 c70 l m j w (soTo0 x z) S wr N k) l.length 0 (soIn0 x nx) wr (by omega) (by rw [List.drop_zero]; exact hk)
  rw [List.drop_zero] at this
  exact this
abbrev soB1 : Wr := [(0, 12), (0, 10), (0, 11)]
theorem so_round1 (lf : Nat → Option LoopSum) (f s : Int) (nx : List MsI) (fs : List Int) (tw i51 c70 : Int) (l : List MsI) (m j : Int) (w : List MsI) (x : WS) (S : Stack) (wr : Wr) (N : Nat) (k : Ex → List AV → Stack → Wr → Option Res) :
    LSoI lf (N + 1) (soV f s 1 nx fs tw i51 c70 l m j) (wObs w .own x :: S) wr k =
      (bif decide (j < m) then (at? l j).bind fun y =>
        bif decide ((toM y).t = 0) then soT x.a0 x.p1 y nx (fun a => LSoI lf N (soV f s 1 nx fs tw i51 c70 l m (IntKind.i64.wrap (j + 1))) (wObs w .own { x with a0 := a } :: S) (app [(0, 20), (0, 2), (0, 1), (0, 19)] wr) k)
          (fun a p nx => LSoI lf N (soV f s 1 nx fs tw i51 c70 l m (IntKind.i64.wrap (j + 1))) (wObs w .own { x with a0 := a, p1 := p } :: S) (app (app soB1 [(0, 20), (0, 2), (0, 1), (0, 19)]) wr) k)
        else bif decide ((toM y).t = 1) then soT x.a1 x.p1 y nx (fun a => LSoI lf N (soV f s 1 nx fs tw i51 c70 l m (IntKind.i64.wrap (j + 1))) (wObs w .own { x with a1 := a } :: S) (app [(0, 20), (0, 8), (0, 7), (0, 19)] wr) k)
          (fun a p nx => LSoI lf N (soV f s 1 nx fs tw i51 c70 l m (IntKind.i64.wrap (j + 1))) (wObs w .own { x with a1 := a, p1 := p } :: S) (app (app soB1 [(0, 20), (0, 8), (0, 7), (0, 19)]) wr) k)
        else bif decide ((toM y).t = 2) then soT x.a2 x.p1 y nx (fun a => LSoI lf N (soV f s 1 nx fs tw i51 c70 l m (IntKind.i64.wrap (j + 1))) (wObs w .own { x with a2 := a } :: S) (app [(0, 20), (0, 14), (0, 13), (0, 19)] wr) k)
          (fun a p nx => LSoI lf N (soV f s 1 nx fs tw i51 c70 l m (IntKind.i64.wrap (j + 1))) (wObs w .own { x with a2 := a, p1 := p } :: S) (app (app soB1 [(0, 20), (0, 14), (0, 13), (0, 19)]) wr) k)
        else none
      else k (.exit 4) (soO f s 1 nx fs tw i51 c70) (wObs w .own x :: S) wr) := by kernel_rfl
abbrev soIn1 (x : WS) (nx : List MsI) : SS := ⟨x.a0, x.a1, x.a2, x.p1, nx⟩
abbrev soTo1 (x : WS) (z : SS) : WS := { x with a0 := z.a0, a1 := z.a1, a2 := z.a2, p1 := z.p }
theorem so_inner1 (lf : Nat → Option LoopSum) (f s : Int) (nx : List MsI) (fs : List Int) (tw i51 c70 : Int) (l : List MsI) (m : Int) (w : List MsI) (x : WS) (S : Stack) (wr : Wr) (k : Ex → List AV → Stack → Wr → Option Res) (hm : m = (l.length : Int)) (hl : l.length ≤ maxInt) (hk : soLok l (soIn1 x nx) = true) :
    LSoI lf (l.length + 1) (soV f s 1 nx fs tw i51 c70 l m 0) (wObs w .own x :: S) wr k = k (.exit 4) (soO f s 1 (soL l (soIn1 x nx)).nx fs tw i51 c70) (wObs w .own (soTo1 x (soL l (soIn1 x nx))) :: S) (app (soLw soB1 l (soIn1 x nx)) wr) := by
  have := so_fold (F := fun N j z wr => LSoI lf N (soV f s 1 z.nx fs tw i51 c70 l m j) (wObs w .own (soTo1 x z) :: S) wr k) (E := fun z wr => k (.exit 4) (soO f s 1 z.nx fs tw i51 c70) (wObs w .own (soTo1 x z) :: S) wr) (b := soB1) hm hl
    (fun N j z wr => so_round1 lf f s z.nx fs tw i51 c70 l m j w (soTo1 x z) S wr N k) l.length 0 (soIn1 x nx) wr (by omega) (by rw [List.drop_zero]; exact hk)
  rw [List.drop_zero] at this
  exact this
def soIF (vs : List AV) (H : Stack) : Tr (Ex × List AV × Stack × Wr) := match vs, H with
  | [.int .i64 f, .int .i64 s, .ptr 0 0 0, .int .i64 i, .slice (.pair (.int .i64) (.pair (.int .i64) (.pair (.int .i64) (.pair (.int .i64) (.pair (.int .i64) (.pair (.int .i64) (.pair .bool (.pair (.pair (.pair (.int .i64) (.int .i64)) (.pair (.slice (.int .i64)) .str)) (.pair (.pair (.int .i64) (.pair (.int .i64) (.pair (.slice (.int .i64)) (.pair (.int .i64) (.pair (.int .i64) (.int .i64)))))) (.pair (.int .i64) (.pair (.int .i64) (.pair (.int .i64) (.pair (.slice (.int .i64)) (.slice (.slice (.int .i64)))))))))))))))) [] .own, .slice (.int .i64) fs .mine, .int .i64 tw, .int .i64 i51, .int .i64 c70, .slice (.pair (.int .i64) (.pair (.int .i64) (.pair (.int .i64) (.pair (.int .i64) (.pair (.int .i64) (.pair (.int .i64) (.pair .bool (.pair (.pair (.pair (.int .i64) (.int .i64)) (.pair (.slice (.int .i64)) .str)) (.pair (.pair (.int .i64) (.pair (.int .i64) (.pair (.slice (.int .i64)) (.pair (.int .i64) (.pair (.int .i64) (.int .i64)))))) (.pair (.int .i64) (.pair (.int .i64) (.pair (.int .i64) (.pair (.slice (.int .i64)) (.slice (.slice (.int .i64)))))))))))))))) l .view, .int .i64 m, .int .i64 j], h :: S =>
    match wOf h with
    | some (x, ok) => .br (ok && (decide (m = l.length) && decide (j = 0))) (.br (decide (i = 0))
        (.br (soLok l (soIn0 x.2 [])) (.yes (.exit 4, soO f s 0 (soL l (soIn0 x.2 [])).nx fs tw i51 c70, wObs x.1 .own (soTo0 x.2 (soL l (soIn0 x.2 []))) :: S, soLw soB0 l (soIn0 x.2 []))) .no)
        (.br (decide (i = 1) && soLok l (soIn1 x.2 [])) (.yes (.exit 4, soO f s 1 (soL l (soIn1 x.2 [])).nx fs tw i51 c70, wObs x.1 .own (soTo1 x.2 (soL l (soIn1 x.2 []))) :: S, soLw soB1 l (soIn1 x.2 []))) .no)) .no
    | none => .no
  | _, _ => .no
theorem so_inner_ok (lf : Nat → Option LoopSum) {vs vs' : List AV} {H H' : Stack} {ex : Ex} {w wr : Wr} (hv : (soIF vs H).val = some (ex, vs', H', w)) (ha : okAVs vs) :
    ∃ N, ∀ k : Ex → List AV → Stack → Wr → Option Res, LSoI lf N vs H wr k = k ex vs' H' (app w wr) := by
  unfold soIF at hv
  split at hv
  · rename_i f s i fs tw i51 c70 l m j h S
    split at hv
    · rename_i x ok hx
      obtain ⟨hc, hv2⟩ := Tr.br_no hv
      clear hv
      simp only [Bool.and_eq_true, decide_eq_true_eq] at hc
      obtain ⟨rfl, hm, rfl⟩ := hc
      have e := wOf_some hx
      subst e
      simp only [okAVs, okAV] at ha
      have hl : l.length ≤ maxInt := by first | exact ha.2.2.2.2.2.2.2.2.2.1.1 | exact ha.2.2.2.2.2.2.2.2.1.1 | simp_all
      rcases Tr.br_or hv2 with ⟨he, h4⟩ | ⟨he, h4⟩
      · obtain ⟨hk, h5⟩ := Tr.br_no h4
        cases of_decide_eq_true he
        cases h5
        exact ⟨_, fun k => so_inner0 lf f s [] fs tw i51 c70 l m x.1 x.2 S wr k hm hl hk⟩
      · obtain ⟨hk, h5⟩ := Tr.br_no h4
        simp only [Bool.and_eq_true, decide_eq_true_eq] at hk
        obtain ⟨rfl, hk⟩ := hk
        cases h5
        exact ⟨_, fun k => so_inner1 lf f s [] fs tw i51 c70 l m x.1 x.2 S wr k hm hl hk⟩
    · cases hv
  · cases hv
end Go.Crc
/- The law PaxosSolo: two rounds of messages, two proposers. Conditions: none. A text of this seat's numbers. -/
set_option linter.unusedVariables false
set_option linter.unusedSimpArgs false
set_option maxRecDepth 100000
namespace Go.Crc
open Go.Vm Go.Pack Go.Rec Go.RowKit
def soX0 (x : WS) (l : List MsI) : WS := soTo0 x (soL l (soIn0 x []))
def soM0 (x : WS) (l : List MsI) : List MsI := (soL l (soIn0 x [])).nx
def soY0 (x : WS) (l : List MsI) : WS := soX0 (soX0 x l) (soM0 x l)
def soMok0 (x : WS) (l : List MsI) : Bool := soLok l (soIn0 x []) && soLok (soM0 x l) (soIn0 (soX0 x l) [])
def soMw0 (x : WS) (l : List MsI) : Wr := app (soLw soB0 (soM0 x l) (soIn0 (soX0 x l) [])) (soLw soB0 l (soIn0 x []))
def oX0 (x : WS) (a : Int) : WS := { x with p0 := idP x.p0 (stZ x.p0 a) }
def oL0 (x : WS) (a : Int) : List MsI := ofMs (stL x.p0 a)
def oY0 (x : WS) (a : Int) : WS := soY0 (oX0 x a) (oL0 x a)
def soX1 (x : WS) (l : List MsI) : WS := soTo1 x (soL l (soIn1 x []))
def soM1 (x : WS) (l : List MsI) : List MsI := (soL l (soIn1 x [])).nx
def soY1 (x : WS) (l : List MsI) : WS := soX1 (soX1 x l) (soM1 x l)
def soMok1 (x : WS) (l : List MsI) : Bool := soLok l (soIn1 x []) && soLok (soM1 x l) (soIn1 (soX1 x l) [])
def soMw1 (x : WS) (l : List MsI) : Wr := app (soLw soB1 (soM1 x l) (soIn1 (soX1 x l) [])) (soLw soB1 l (soIn1 x []))
def oX1 (x : WS) (a : Int) : WS := { x with p1 := idP x.p1 (stZ x.p1 a) }
def oL1 (x : WS) (a : Int) : List MsI := ofMs (stL x.p1 a)
def oY1 (x : WS) (a : Int) : WS := soY1 (oX1 x a) (oL1 x a)
theorem app_as (a b c : Wr) : app (app a b) c = app a (app b c) := by simp only [app_eq, List.append_assoc]
def soMF (vs : List AV) (H : Stack) : Tr (Ex × List AV × Stack × Wr) := match vs, H with
  | [.int .i64 f, .int .i64 s, .ptr 0 0 0, .int .i64 i, .slice (.pair (.int .i64) (.pair (.int .i64) (.pair (.int .i64) (.pair (.int .i64) (.pair (.int .i64) (.pair (.int .i64) (.pair .bool (.pair (.pair (.pair (.int .i64) (.int .i64)) (.pair (.slice (.int .i64)) .str)) (.pair (.pair (.int .i64) (.pair (.int .i64) (.pair (.slice (.int .i64)) (.pair (.int .i64) (.pair (.int .i64) (.int .i64)))))) (.pair (.int .i64) (.pair (.int .i64) (.pair (.int .i64) (.pair (.slice (.int .i64)) (.slice (.slice (.int .i64)))))))))))))))) l .view, .slice (.int .i64) fs .mine, .int .i64 tw, .int .i64 i51, .int .i64 c70], h :: S =>
    match wOf h with
    | some (x, ok) => .br (ok && decide (c70 = 0)) (.br (decide (i = 0))
        (.br (soMok0 x.2 l) (.yes (.exit 2, [.int .i64 f, .int .i64 s, .ptr 0 0 0, .slice (.int .i64) fs .mine, .int .i64 tw, .int .i64 i51], wObs x.1 .own (soY0 x.2 l) :: S, soMw0 x.2 l)) .no)
        (.br (decide (i = 1) && soMok1 x.2 l) (.yes (.exit 2, [.int .i64 f, .int .i64 s, .ptr 0 0 0, .slice (.int .i64) fs .mine, .int .i64 tw, .int .i64 i51], wObs x.1 .own (soY1 x.2 l) :: S, soMw1 x.2 l)) .no)) .no
    | none => .no
  | _, _ => .no
def lfSoI : Nat × LoopSum := (64175306, loopT [0, 1, 5, 7, 11, 49, 50, 51, 70, 72, 73, 74] [0, 1, 5, 7, 11, 49, 50, 51, 70] soIF)
def lfSoM : Nat × LoopSum := (125342, loopT [0, 1, 5, 7, 9, 49, 50, 51, 70] [0, 1, 5, 49, 50, 51] soMF)
noncomputable abbrev LSoM (lf : Nat → Option LoopSum) (N : Nat) := LC PR (cfE ESo) cfgPx lf n_law_PaxosSolo 1 125342 [0, 1, 5, 7, 9, 49, 50, 51, 70] [0, 1, 5, 49, 50, 51] N
noncomputable abbrev LSoO (lf : Nat → Option LoopSum) (N : Nat) := LC PR (cfE ESo) cfgPx lf n_law_PaxosSolo 0 122 [0, 1, 5, 49, 50, 51] [0, 1, 4, 5] N
theorem so_mid0 (r : List (Nat × LoopSum)) (f s : Int) (l : List MsI) (fs : List Int) (tw i51 : Int) (w : List MsI) (x : WS) (S : Stack) (wr : Wr) (N : Nat) (k : Ex → List AV → Stack → Wr → Option Res) :
    LSoM (lfOf (lfSoI :: r)) (N + 3) [.int .i64 f, .int .i64 s, .ptr 0 0 0, .int .i64 0, .slice MsT l .view, .slice (.int .i64) fs .mine, .int .i64 tw, .int .i64 i51, .int .i64 0] (wObs w .own x :: S) wr k =
      (bif decide ((l.length : Int) = (l.length : Int)) && decide ((0 : Int) = 0) then bif soLok l (soIn0 x []) then
        bif decide (((soM0 x l).length : Int) = ((soM0 x l).length : Int)) && decide ((0 : Int) = 0) then bif soLok (soM0 x l) (soIn0 (soX0 x l) []) then
          k (.exit 2) [.int .i64 f, .int .i64 s, .ptr 0 0 0, .slice (.int .i64) fs .mine, .int .i64 tw, .int .i64 i51] (wObs w .own (soY0 x l) :: S) (app (soLw soB0 (soM0 x l) (soIn0 (soX0 x l) [])) (app (soLw soB0 l (soIn0 x [])) wr))
        else none else none else none else none) := by kernel_rfl
theorem so_midok0 (r : List (Nat × LoopSum)) (f s : Int) (l : List MsI) (fs : List Int) (tw i51 : Int) (w : List MsI) (x : WS) (S : Stack) (wr : Wr) (k : Ex → List AV → Stack → Wr → Option Res) (h : soMok0 x l = true) :
    LSoM (lfOf (lfSoI :: r)) 3 [.int .i64 f, .int .i64 s, .ptr 0 0 0, .int .i64 0, .slice MsT l .view, .slice (.int .i64) fs .mine, .int .i64 tw, .int .i64 i51, .int .i64 0] (wObs w .own x :: S) wr k =
      k (.exit 2) [.int .i64 f, .int .i64 s, .ptr 0 0 0, .slice (.int .i64) fs .mine, .int .i64 tw, .int .i64 i51] (wObs w .own (soY0 x l) :: S) (app (soMw0 x l) wr) := by
  obtain ⟨h1, h2⟩ := Bool.and_eq_true_iff.1 h
  refine (so_mid0 r f s l fs tw i51 w x S wr 0 k).trans ?_
  rw [decide_eq_true rfl, decide_eq_true rfl, decide_eq_true rfl, h1, h2]
  unfold soMw0
  rw [app_as]
  rfl
theorem so_out0 (r : List (Nat × LoopSum)) (f s a b : Int) (w : List MsI) (x : WS) (S : Stack) (wr : Wr) (N : Nat) (k : Ex → List AV → Stack → Wr → Option Res) :
    LSoO (lfOf (lfSoI :: lfSoM :: r)) (N + 1) [.int .i64 f, .int .i64 s, .ptr 0 0 0, .slice (.int .i64) [a, b] .mine, .int .i64 2, .int .i64 0] (wObs w .own x :: S) wr k =
      (bif decide (x.p0.nodes.length ≤ 100000) then bif !(stE x.p0 a == 0) then k .ret [.int .i64 f, .int .i64 s, .bool false, .ptr 0 0 0] (wObs w .own (oX0 x a) :: S) (app soB0 wr)
      else bif decide ((0 : Int) = 0) then bif soMok0 (oX0 x a) (oL0 x a) then
        LSoO (lfOf (lfSoI :: lfSoM :: r)) N [.int .i64 f, .int .i64 s, .ptr 0 0 0, .slice (.int .i64) [a, b] .mine, .int .i64 2, .int .i64 1] (wObs w .own (oY0 x a) :: S) (app (soMw0 (oX0 x a) (oL0 x a)) (app soB0 wr)) k
      else none else none else none) := by kernel_rfl
theorem so_mid1 (r : List (Nat × LoopSum)) (f s : Int) (l : List MsI) (fs : List Int) (tw i51 : Int) (w : List MsI) (x : WS) (S : Stack) (wr : Wr) (N : Nat) (k : Ex → List AV → Stack → Wr → Option Res) :
    LSoM (lfOf (lfSoI :: r)) (N + 3) [.int .i64 f, .int .i64 s, .ptr 0 0 0, .int .i64 1, .slice MsT l .view, .slice (.int .i64) fs .mine, .int .i64 tw, .int .i64 i51, .int .i64 0] (wObs w .own x :: S) wr k =
      (bif decide ((l.length : Int) = (l.length : Int)) && decide ((0 : Int) = 0) then bif soLok l (soIn1 x []) then
        bif decide (((soM1 x l).length : Int) = ((soM1 x l).length : Int)) && decide ((0 : Int) = 0) then bif soLok (soM1 x l) (soIn1 (soX1 x l) []) then
          k (.exit 2) [.int .i64 f, .int .i64 s, .ptr 0 0 0, .slice (.int .i64) fs .mine, .int .i64 tw, .int .i64 i51] (wObs w .own (soY1 x l) :: S) (app (soLw soB1 (soM1 x l) (soIn1 (soX1 x l) [])) (app (soLw soB1 l (soIn1 x [])) wr))
        else none else none else none else none) := by kernel_rfl
theorem so_midok1 (r : List (Nat × LoopSum)) (f s : Int) (l : List MsI) (fs : List Int) (tw i51 : Int) (w : List MsI) (x : WS) (S : Stack) (wr : Wr) (k : Ex → List AV → Stack → Wr → Option Res) (h : soMok1 x l = true) :
    LSoM (lfOf (lfSoI :: r)) 3 [.int .i64 f, .int .i64 s, .ptr 0 0 0, .int .i64 1, .slice MsT l .view, .slice (.int .i64) fs .mine, .int .i64 tw, .int .i64 i51, .int .i64 0] (wObs w .own x :: S) wr k =
      k (.exit 2) [.int .i64 f, .int .i64 s, .ptr 0 0 0, .slice (.int .i64) fs .mine, .int .i64 tw, .int .i64 i51] (wObs w .own (soY1 x l) :: S) (app (soMw1 x l) wr) := by
  obtain ⟨h1, h2⟩ := Bool.and_eq_true_iff.1 h
  refine (so_mid1 r f s l fs tw i51 w x S wr 0 k).trans ?_
  rw [decide_eq_true rfl, decide_eq_true rfl, decide_eq_true rfl, h1, h2]
  unfold soMw1
  rw [app_as]
  rfl
theorem so_out1 (r : List (Nat × LoopSum)) (f s a b : Int) (w : List MsI) (x : WS) (S : Stack) (wr : Wr) (N : Nat) (k : Ex → List AV → Stack → Wr → Option Res) :
    LSoO (lfOf (lfSoI :: lfSoM :: r)) (N + 1) [.int .i64 f, .int .i64 s, .ptr 0 0 0, .slice (.int .i64) [a, b] .mine, .int .i64 2, .int .i64 1] (wObs w .own x :: S) wr k =
      (bif decide (x.p1.nodes.length ≤ 100000) then bif !(stE x.p1 b == 0) then k .ret [.int .i64 f, .int .i64 s, .bool false, .ptr 0 0 0] (wObs w .own (oX1 x b) :: S) (app soB1 wr)
      else bif decide ((0 : Int) = 0) then bif soMok1 (oX1 x b) (oL1 x b) then
        LSoO (lfOf (lfSoI :: lfSoM :: r)) N [.int .i64 f, .int .i64 s, .ptr 0 0 0, .slice (.int .i64) [a, b] .mine, .int .i64 2, .int .i64 2] (wObs w .own (oY1 x b) :: S) (app (soMw1 (oX1 x b) (oL1 x b)) (app soB1 wr)) k
      else none else none else none) := by kernel_rfl
theorem so_out2 (r : List (Nat × LoopSum)) (f s a b : Int) (w : List MsI) (x : WS) (S : Stack) (wr : Wr) (N : Nat) (k : Ex → List AV → Stack → Wr → Option Res) :
    LSoO (lfOf (lfSoI :: lfSoM :: r)) (N + 1) [.int .i64 f, .int .i64 s, .ptr 0 0 0, .slice (.int .i64) [a, b] .mine, .int .i64 2, .int .i64 2] (wObs w .own x :: S) wr k = k (.exit 0) [.int .i64 f, .int .i64 s, .undef, .ptr 0 0 0] (wObs w .own x :: S) wr := by kernel_rfl
end Go.Crc
