/- Contracts of functions of this program. Conditions: none. -/
import Derived.Test.YtdmjiibhfgieaaaGreatWn
set_option linter.unusedVariables false
set_option linter.unusedSimpArgs false
/- The law ReplicaTwice. Conditions: none. A text of this seat's numbers. -/
set_option linter.unusedVariables false
set_option linter.unusedSimpArgs false
set_option maxRecDepth 100000
namespace Go.Crc
open Go.Vm Go.Pack Go.Rec Go.RowKit
abbrev tw3 : Wr := [(0, 13), (0, 6)]
abbrev twn : Wr := [(0, 7), (0, 5), (0, 3), (0, 6)]
abbrev tw2 : Wr := [(0, 6)]
/-! #### objects looked at -/
def opsOf : AV → Option (List ROp)
  | .slice (.pair (.int .i64) (.pair (.int .i64) (.pair (.pair (.int .i64) (.pair (.int .i64) (.pair (.int .i64) (.pair (.int .i64) (.pair (.int .i64) (.pair (.int .i64) (.pair .bool (.pair (.pair (.pair (.int .i64) (.int .i64)) (.pair (.slice (.int .i64)) .str)) (.pair (.pair (.int .i64) (.pair (.int .i64) (.pair (.slice (.int .i64)) (.pair (.int .i64) (.pair (.int .i64) (.int .i64)))))) (.pair (.int .i64) (.pair (.int .i64) (.pair (.int .i64) (.pair (.slice (.int .i64)) (.slice (.slice (.int .i64)))))))))))))))) .bool))) l .view => some l
  | _ => none
theorem opsOf_some {a : AV} {l : List ROp} (h : opsOf a = some l) : a = .slice ROpT l .view := by
  unfold opsOf at h
  split at h
  · cases h; rfl
  · cases h
def ens0 : AV → Bool
  | .slice (.pair (.int .i64) (.pair (.int .i64) (.pair (.slice (.int .i64)) (.pair (.int .i64) (.pair (.int .i64) (.int .i64)))))) [] .own => true
  | _ => false
theorem ens0_eq {a : AV} (h : ens0 a = true) : a = .slice EnT [] .own := by
  unfold ens0 at h
  split at h
  · rfl
  · cases h
abbrev Seat11 := Int × Int × List Int × List (List Int)
def seatOf : List AV → Option Seat11
  | [.int .i64 id, .int .i64 t, .slice (.int .i64) s .view, .slice (.slice (.int .i64)) sh .view] => some (id, t, s, sh)
  | _ => none
theorem seatOf_some {cs : List AV} {x : Seat11} (h : seatOf cs = some x) : cs = seatC x.1 x.2.1 x.2.2.1 x.2.2.2 := by
  unfold seatOf at h
  split at h
  · cases h; rfl
  · cases h
def isCo (t : Int) (s : List Int) (sh : List (List Int)) : List AV → Bool
  | [.int .i64 t1, .slice (.int .i64) s1 .view, .slice (.slice (.int .i64)) sh1 .view] => decide (t1 = t) && (s1 == s && sh1 == sh)
  | _ => false
theorem isCo_eq {t : Int} {s : List Int} {sh : List (List Int)} {cs : List AV} (h : isCo t s sh cs = true) : Ob.cells cs = coOb t s sh := by
  unfold isCo at h
  split at h
  · simp only [Bool.and_eq_true, decide_eq_true_eq, beq_iff_eq] at h
    obtain ⟨rfl, rfl, rfl⟩ := h
    rfl
  · cases h
def isSt0 : List AV → Bool
  | [.slice (.int .u8) [] .own, .int .i64 n, .bool false] => decide (n = 0)
  | _ => false
theorem isSt0_eq {cs : List AV} (h : isSt0 cs = true) : Ob.cells cs = stO [] 0 false := by
  unfold isSt0 at h
  split at h
  · simp only [decide_eq_true_eq] at h
    subst h; rfl
  · cases h
def isRp0 (j : Nat) (id te : Int) : List AV → Bool
  | [.int .i64 i, .int .i64 t, .ptr d q o, e, .bool false] => decide (i = id) && (decide (t = te) && (decide (d = 0) && (decide (q = j) && (decide (o = 0) && ens0 e))))
  | _ => false
theorem isRp0_eq {j : Nat} {id te : Int} {cs : List AV} (h : isRp0 j id te cs = true) : Ob.cells cs = rpOj j id te [] false := by
  unfold isRp0 at h
  split at h
  · simp only [Bool.and_eq_true, decide_eq_true_eq] at h
    obtain ⟨rfl, rfl, rfl, rfl, rfl, h⟩ := h
    rw [ens0_eq h]
  · cases h
def twOf : List Ob → Option (Seat11 × Msg × Bool)
  | [.cells a, .cells mc, .cells b, .cells c, .cells d, .cells e] => match seatOf a, msgOf mc with
    | some x, some mm => some (x, mm, isCo x.2.1 x.2.2.1 x.2.2.2 b && (isSt0 c && (isCo x.2.1 x.2.2.1 x.2.2.2 d && isRp0 3 x.1 x.2.1 e)))
    | _, _ => none
  | _ => none
theorem twOf_some {l : List Ob} {x : Seat11} {mm : Msg} (h : twOf l = some (x, mm, true)) : l = twH x.1 x.2.1 x.2.2.1 x.2.2.2 mm (zR0 x.1 x.2.1) := by
  unfold twOf at h
  split at h
  · rename_i a mc b c d e
    split at h
    · rename_i x' mm' h1 h2
      simp only [Option.some.injEq, Prod.mk.injEq] at h
      obtain ⟨rfl, rfl, hc⟩ := h
      simp only [Bool.and_eq_true] at hc
      obtain ⟨k1, k2, k3, k4⟩ := hc
      rw [seatOf_some h1, msgOf_some h2, isCo_eq k1, isSt0_eq k2, isCo_eq k3, isRp0_eq k4]
      rfl
    · cases h
  · cases h
def twF (vs : List AV) (H : Stack) : Tr (Ex × List AV × Stack × Wr) := match vs, H with
  | [.ptr 0 0 0, .ptr 0 1 0, .ptr 0 5 0, a, .int .i64 m, .int .i64 i], h :: S =>
    match opsOf a, twOf h with
    | some l, some x => .br (x.2.2 && (decide (m = l.length) && (decide (i = 0) && conOK x.1.2.1 x.1.2.2.1 x.1.2.2.2 x.1.1)))
        (.yes (.exit 0, [.ptr 0 1 0, .ptr 0 5 0], twH x.1.1 x.1.2.1 x.1.2.2.1 x.1.2.2.2 x.2.1 (scZ l (zR0 x.1.1 x.1.2.1)) :: S, scW tw3 twn tw2 l)) .no
    | _, _ => .no
  | _, _ => .no
def lfTw : Nat → Option LoopSum := lfOf [(122, loopT [3, 5, 7, 46, 47, 48] [5, 7] twF)]
noncomputable abbrev LTw' (N : Nat) := LC PR (cfE ETw) cfgRp lfTw n_law_ReplicaTwice 0 122 [3, 5, 7, 46, 47, 48] [5, 7] N
theorem tw_round' (l : List ROp) (m i : Int) (z : RpS) (id t : Int) (s : List Int) (sh : List (List Int)) (mm : Msg) (S : Stack) (wr : Wr) (N : Nat) (k : Ex → List AV → Stack → Wr → Option Res) :
    LTw' (N + 1) [.ptr 0 0 0, .ptr 0 1 0, .ptr 0 5 0, .slice ROpT l .view, .int .i64 m, .int .i64 i] (twH id t s sh mm z :: S) wr k =
      (bif decide (i < m) then (at? l i).bind fun x => bif x.1 != 2 then bif dsOK z id t s sh then
          bif x.1 == 3 then LTw' N [.ptr 0 0 0, .ptr 0 1 0, .ptr 0 5 0, .slice ROpT l .view, .int .i64 m, .int .i64 (IntKind.i64.wrap (i + 1))] (twH id t s sh mm (rsZ z) :: S) (app tw3 wr) k
          else LTw' N [.ptr 0 0 0, .ptr 0 1 0, .ptr 0 5 0, .slice ROpT l .view, .int .i64 m, .int .i64 (IntKind.i64.wrap (i + 1))] (twH id t s sh mm (dsZ z (o11 x)) :: S) (app twn wr) k
        else none else LTw' N [.ptr 0 0 0, .ptr 0 1 0, .ptr 0 5 0, .slice ROpT l .view, .int .i64 m, .int .i64 (IntKind.i64.wrap (i + 1))] (twH id t s sh mm z :: S) (app tw2 wr) k
      else k (.exit 0) [.ptr 0 1 0, .ptr 0 5 0] (twH id t s sh mm z :: S) wr) := by kernel_rfl
theorem tw_loops : ∀ x ∈ funLoops PR n_law_ReplicaTwice, ∀ L, lfTw x.1 = some L → LoopOK (ntm PR n_law_ReplicaTwice) (fun fr H wr k => code PR (cfE ETw) cfgRp lfTw (cfgRp.live n_law_ReplicaTwice) x.2 (2 * x.1) fr H wr k) L := by
  refine one_loop (p := 122) rfl (by kernel_rfl) (loopT_ok (by decide) fun vs H wr ex vs' H' w hv ha hh => ?_)
  unfold twF at hv
  split at hv
  · rename_i a m i h S
    split at hv
    · rename_i l x h1 h2
      have e1 := opsOf_some h1
      obtain ⟨hc, hv2⟩ := Tr.br_no hv
      clear hv
      cases hv2
      simp only [Bool.and_eq_true, decide_eq_true_eq] at hc
      obtain ⟨hx, hm, rfl, hcon⟩ := hc
      have e2 := twOf_some (x := x.1) (mm := x.2.1) (by rw [← hx]; exact h2)
      subst e1; subst e2
      simp only [okAVs, okAV] at ha
      have hl : l.length ≤ maxInt := ha.2.2.2.1.1
      refine ⟨l.length + 1, fun k => ?_⟩
      have := sc_fold (F := fun N i z wr => LTw' N [.ptr 0 0 0, .ptr 0 1 0, .ptr 0 5 0, .slice ROpT l .view, .int .i64 m, .int .i64 i] (twH x.1.1 x.1.2.1 x.1.2.2.1 x.1.2.2.2 x.2.1 z :: S) wr k) (l := l) (m := m) (E := fun z wr => k (.exit 0) [.ptr 0 1 0, .ptr 0 5 0] (twH x.1.1 x.1.2.1 x.1.2.2.1 x.1.2.2.2 x.2.1 z :: S) wr) hm hl hcon (fun N i z wr => tw_round' l m i z x.1.1 x.1.2.1 x.1.2.2.1 x.1.2.2.2 x.2.1 S wr N k) l.length 0 (zR0 x.1.1 x.1.2.1) wr (by omega) ⟨_, zR0_syn _ _⟩ rfl rfl
      rw [List.drop_zero] at this
      exact this
    · cases hv
  · cases hv
/-! #### the law -/
def ofM (m : Msg) : MsI := (m.k, m.f, m.t, m.te, m.sh, m.nu, m.is, ((m.rc, m.rn), (m.rt, m.rd)), m.e, m.ba, m.ol, (m.ct, m.cs, m.ch))
def chk11 (j : Nat) (id t : Int) (s : List Int) (sh : List (List Int)) : Bool :=
  isCo t s sh [.int .i64 t, .slice (.int .i64) s .view, .slice RowT sh .view] && (isSt0 (stC [] 0 false) && (isCo t s sh [.int .i64 t, .slice (.int .i64) s .view, .slice RowT sh .view] && isRp0 j id t [.int .i64 id, .int .i64 t, .ptr 0 j 0, .slice EnT [] .own, .bool false]))
theorem chk11_ok (j : Nat) (id t : Int) (s : List Int) (sh : List (List Int)) : chk11 j id t s sh = true := by
  unfold chk11 isCo isSt0 isRp0 ens0
  simp
def twT1 (z z1 z2 : RpS) (mm : Msg) (W : Wr) : Option Res :=
  bif goodR z then bif goodR z1 then bif decide (z1.l.length ≤ 100000) then bif goodR z1 then
    bif tkE z mm == tkE z1 mm then bif sameM (tkM z mm) (tkM z1 mm) then bif goodR z2 then bif decide (z2.l.length ≤ 100000) then some (.bool (z2.l == z1.l), W, []) else none else none
    else some (.bool false, W, []) else some (.bool false, W, [])
  else none else none else none else none
def twT (z : RpS) (mm : Msg) (W : Wr) : Option Res := twT1 z (cid z (tkZ z mm)) (cid z (tkZ (cid z (tkZ z mm)) mm)) mm W
theorem tw_eq (id t : Int) (s : List Int) (sh : List (List Int)) (l : List ROp) (mm : Msg) : body PR (cfE ETw) cfgRp lfTw n_law_ReplicaTwice [.agg (seatC id t s sh), .slice ROpT l .view, msgA mm] [] some =
    (bif conOK t s sh id then bif !rfewV l then some (.bool true, [], []) else bif !rfewV [(0, 0, ofM mm, false)] then some (.bool true, [], [])
      else bif chk11 3 id t s sh && (decide ((l.length : Int) = (l.length : Int)) && (decide ((0 : Int) = 0) && conOK t s sh id)) then twT (scZ l (zR0 id t)) mm (outer (app (scW tw3 twn tw2 l) [])) else none
    else some (.bool true, [], [])) := by kernel_rfl
theorem goodR_len {z : RpS} (h : goodR z = true) : z.l.length ≤ 100000 := by have := (goodR_iff.1 h).1; omega
theorem rep_twice (id t : Int) (s : List Int) (sh : List (List Int)) (l : List ROp) (mm : Msg) : body PR (cfE ETw) cfgRp lfTw n_law_ReplicaTwice [.agg (seatC id t s sh), .slice ROpT l .view, msgA mm] [] some = some (.bool true, [], []) := by
  rw [tw_eq, chk11_ok, decide_eq_true rfl, decide_eq_true rfl, outer_app0 _ _ (scW_all0 rfl rfl rfl l)]
  cases hc : conOK t s sh id with
  | false => rfl
  | true =>
    cases rfewV l with
    | false => rfl
    | true =>
    cases rfewV [(0, 0, ofM mm, false)] with
    | false => rfl
    | true =>
      obtain ⟨F, hS⟩ := scZ_syn l ⟨_, zR0_syn id t⟩
      have h1 := hS.tk mm
      have h2 := h1.tk mm
      obtain ⟨k1, k2, k3⟩ := tk_twice (z := scZ l (zR0 id t)) mm
      show twT _ _ _ = _
      unfold twT
      rw [cid_tk, cid_self (z := scZ l (zR0 id t)) (y := tkZ (tkZ (scZ l (zR0 id t)) mm) mm) ⟨(tkZ_ids _ mm).1.trans (tkZ_ids _ mm).1, (tkZ_ids _ mm).2.trans (tkZ_ids _ mm).2⟩]
      unfold twT1
      rw [hS.inv.good, h1.inv.good, h2.inv.good, k1, k2, k3, sameM_refl, beq_self_eq_true, beq_self_eq_true, decide_eq_true (goodR_len h1.inv.good)]
      rfl
end Go.Crc

/- The law ReplicaLasts. Conditions: none. A text of this seat's numbers. -/
set_option linter.unusedVariables false
set_option linter.unusedSimpArgs false
set_option maxRecDepth 100000
namespace Go.Crc
open Go.Vm Go.Pack Go.Rec Go.RowKit
abbrev lsC (x : Msg × Int) : List AV := app (msgC x.1) [.int .i64 x.2]
def lastOf : List AV → Option (Msg × Int)
  | [.int .i64 k, .int .i64 f, .int .i64 t, .int .i64 te, .int .i64 sh, .int .i64 nu, .bool is, .int .i64 rc, .int .i64 rn, .slice (.int .i64) rt .view, .str rd, .int .i64 e1, .int .i64 e2, .slice (.int .i64) e3 .view, .int .i64 e4, .int .i64 e5, .int .i64 e6, .int .i64 ba, .int .i64 ol, .int .i64 ct, .slice (.int .i64) cs .view, .slice (.slice (.int .i64)) ch .view, .int .i64 kp] => some (⟨k, f, t, te, sh, nu, is, rc, rn, rt, rd, (e1, e2, e3, e4, e5, e6), ba, ol, ct, cs, ch⟩, kp)
  | _ => none
theorem lastOf_some {cs : List AV} {x : Msg × Int} (h : lastOf cs = some x) : cs = lsC x := by
  unfold lastOf at h
  split at h
  · cases h; rfl
  · cases h
abbrev lsH (id t : Int) (s : List Int) (sh : List (List Int)) (x : Msg × Int) (z : RpS) : List Ob := [.cells (seatC id t s sh), .cells (lsC x), coOb t s sh, stO z.b z.n z.o, coOb t s sh, rpOj 3 z.id z.te z.l z.se]
def lsOf : List Ob → Option (Seat11 × (Msg × Int) × Bool)
  | [.cells a, .cells mc, .cells b, .cells c, .cells d, .cells e] => match seatOf a, lastOf mc with
    | some x, some mm => some (x, mm, isCo x.2.1 x.2.2.1 x.2.2.2 b && (isSt0 c && (isCo x.2.1 x.2.2.1 x.2.2.2 d && isRp0 3 x.1 x.2.1 e)))
    | _, _ => none
  | _ => none
theorem lsOf_some {l : List Ob} {x : Seat11} {mm : Msg × Int} (h : lsOf l = some (x, mm, true)) : l = lsH x.1 x.2.1 x.2.2.1 x.2.2.2 mm (zR0 x.1 x.2.1) := by
  unfold lsOf at h
  split at h
  · rename_i a mc b c d e
    split at h
    · rename_i x' mm' h1 h2
      simp only [Option.some.injEq, Prod.mk.injEq] at h
      obtain ⟨rfl, rfl, hc⟩ := h
      simp only [Bool.and_eq_true] at hc
      obtain ⟨k1, k2, k3, k4⟩ := hc
      rw [seatOf_some h1, lastOf_some h2, isCo_eq k1, isSt0_eq k2, isCo_eq k3, isRp0_eq k4]
      rfl
    · cases h
  · cases h
def lsF (vs : List AV) (H : Stack) : Tr (Ex × List AV × Stack × Wr) := match vs, H with
  | [.ptr 0 0 0, .ptr 0 1 0, .ptr 0 5 0, a, .int .i64 m, .int .i64 i], h :: S =>
    match opsOf a, lsOf h with
    | some l, some x => .br (x.2.2 && (decide (m = l.length) && (decide (i = 0) && conOK x.1.2.1 x.1.2.2.1 x.1.2.2.2 x.1.1)))
        (.yes (.exit 0, [.ptr 0 1 0, .ptr 0 5 0], lsH x.1.1 x.1.2.1 x.1.2.2.1 x.1.2.2.2 x.2.1 (scZ l (zR0 x.1.1 x.1.2.1)) :: S, scW tw3 twn tw2 l)) .no
    | _, _ => .no
  | _, _ => .no
def lfLs : Nat → Option LoopSum := lfOf [(122, loopT [3, 5, 7, 37, 38, 39] [5, 7] lsF)]
noncomputable def ELs : List (Ent PR A) := [rNwE, rfewE, sDoE2, ownE, rTkE, rEtE, rEsE, msameE, saaE, ralE, rCrE, rLenE, rSeE]
noncomputable abbrev LLs (N : Nat) := LC PR (cfE ELs) cfgRp lfLs n_law_ReplicaLasts 0 122 [3, 5, 7, 37, 38, 39] [5, 7] N
theorem ls_round (l : List ROp) (m i : Int) (z : RpS) (id t : Int) (s : List Int) (sh : List (List Int)) (mm : Msg × Int) (S : Stack) (wr : Wr) (N : Nat) (k : Ex → List AV → Stack → Wr → Option Res) :
    LLs (N + 1) [.ptr 0 0 0, .ptr 0 1 0, .ptr 0 5 0, .slice ROpT l .view, .int .i64 m, .int .i64 i] (lsH id t s sh mm z :: S) wr k =
      (bif decide (i < m) then (at? l i).bind fun x => bif x.1 != 2 then bif dsOK z id t s sh then
          bif x.1 == 3 then LLs N [.ptr 0 0 0, .ptr 0 1 0, .ptr 0 5 0, .slice ROpT l .view, .int .i64 m, .int .i64 (IntKind.i64.wrap (i + 1))] (lsH id t s sh mm (rsZ z) :: S) (app tw3 wr) k
          else LLs N [.ptr 0 0 0, .ptr 0 1 0, .ptr 0 5 0, .slice ROpT l .view, .int .i64 m, .int .i64 (IntKind.i64.wrap (i + 1))] (lsH id t s sh mm (dsZ z (o11 x)) :: S) (app twn wr) k
        else none else LLs N [.ptr 0 0 0, .ptr 0 1 0, .ptr 0 5 0, .slice ROpT l .view, .int .i64 m, .int .i64 (IntKind.i64.wrap (i + 1))] (lsH id t s sh mm z :: S) (app tw2 wr) k
      else k (.exit 0) [.ptr 0 1 0, .ptr 0 5 0] (lsH id t s sh mm z :: S) wr) := by kernel_rfl
theorem ls_loops : ∀ x ∈ funLoops PR n_law_ReplicaLasts, ∀ L, lfLs x.1 = some L → LoopOK (ntm PR n_law_ReplicaLasts) (fun fr H wr k => code PR (cfE ELs) cfgRp lfLs (cfgRp.live n_law_ReplicaLasts) x.2 (2 * x.1) fr H wr k) L := by
  refine one_loop (p := 122) rfl (by kernel_rfl) (loopT_ok (by decide) fun vs H wr ex vs' H' w hv ha hh => ?_)
  unfold lsF at hv
  split at hv
  · rename_i a m i h S
    split at hv
    · rename_i l x h1 h2
      have e1 := opsOf_some h1
      obtain ⟨hc, hv2⟩ := Tr.br_no hv
      clear hv
      cases hv2
      simp only [Bool.and_eq_true, decide_eq_true_eq] at hc
      obtain ⟨hx, hm, rfl, hcon⟩ := hc
      have e2 := lsOf_some (x := x.1) (mm := x.2.1) (by rw [← hx]; exact h2)
      subst e1; subst e2
      simp only [okAVs, okAV] at ha
      have hl : l.length ≤ maxInt := ha.2.2.2.1.1
      refine ⟨l.length + 1, fun k => ?_⟩
      have := sc_fold (F := fun N i z wr => LLs N [.ptr 0 0 0, .ptr 0 1 0, .ptr 0 5 0, .slice ROpT l .view, .int .i64 m, .int .i64 i] (lsH x.1.1 x.1.2.1 x.1.2.2.1 x.1.2.2.2 x.2.1 z :: S) wr k) (l := l) (m := m) (E := fun z wr => k (.exit 0) [.ptr 0 1 0, .ptr 0 5 0] (lsH x.1.1 x.1.2.1 x.1.2.2.1 x.1.2.2.2 x.2.1 z :: S) wr) hm hl hcon (fun N i z wr => ls_round l m i z x.1.1 x.1.2.1 x.1.2.2.1 x.1.2.2.2 x.2.1 S wr N k) l.length 0 (zR0 x.1.1 x.1.2.1) wr (by omega) ⟨_, zR0_syn _ _⟩ rfl rfl
      rw [List.drop_zero] at this
      exact this
    · cases hv
  · cases hv
/-! #### the law -/
def lsT1 (z z1 z2 : RpS) (x : Msg × Int) (W : Wr) : Option Res :=
  bif goodR z then bif tkE z x.1 != 0 then some (.bool (sameM (tkM z x.1) msg0), W, [])
    else bif goodR z1 then bif decide (z1.l.length ≤ 100000) then bif goodR z1 then bif goodR z2 then bif decide (z2.l.length ≤ 100000) then
      bif z2.l == z1.l then bif (z2.l.length : Int) == (tkM z x.1).nu then some (.bool (z2.se == (tkM z x.1).is), W, []) else some (.bool false, W, []) else some (.bool false, W, [])
    else none else none else none else none else none
  else none
def lsT (z : RpS) (x : Msg × Int) (W : Wr) : Option Res := lsT1 z (cid z (tkZ z x.1)) (csR (cid z (tkZ z x.1)) x.2) x W
theorem ls_eq (id t : Int) (s : List Int) (sh : List (List Int)) (l : List ROp) (x : Msg × Int) : body PR (cfE ELs) cfgRp lfLs n_law_ReplicaLasts [.agg (seatC id t s sh), .slice ROpT l .view, .agg (lsC x)] [] some =
    (bif conOK t s sh id then bif !rfewV l then some (.bool true, [], [])
      else bif chk11 3 id t s sh && (decide ((l.length : Int) = (l.length : Int)) && (decide ((0 : Int) = 0) && conOK t s sh id)) then lsT (scZ l (zR0 id t)) x (outer (app (scW tw3 twn tw2 l) [])) else none
    else some (.bool true, [], [])) := by kernel_rfl
theorem tkM_err {z : RpS} {m : Msg} (h : (tkE z m != 0) = true) : tkM z m = msg0 := by
  unfold tkE at h
  unfold tkM
  cases hm : mineM z m with
  | false => rfl
  | true =>
    rw [hm] at h
    cases h5 : m.k == 5 with
    | true =>
      rw [h5] at h
      simp only [cond_true, bne, Bool.not_eq_true'] at h
      simp only [cond_true, tlV, h, cond_false]
    | false =>
      cases h3 : m.k == 3 with
      | true =>
        rw [h5, h3] at h
        simp only [cond_true, cond_false, bne, Bool.not_eq_true'] at h
        simp only [cond_true, cond_false, tlV, h]
      | false => rfl
theorem tkM_ok {z : RpS} {m : Msg} (h : (tkE z m == 0) = true) : (tkM z m).nu = ((tkZ z m).l.length : Int) ∧ (tkM z m).is = (tkZ z m).se := by
  unfold tkE at h
  unfold tkM tkZ
  cases hm : mineM z m with
  | false => rw [hm] at h; cases h
  | true =>
    rw [hm] at h
    cases h5 : m.k == 5 with
    | true =>
      rw [h5] at h
      simp only [cond_true] at h
      simp only [cond_true, tlV, h, (tlZ_l _ _).1, (tlZ_l _ _).2]
      exact ⟨rfl, rfl⟩
    | false =>
      cases h3 : m.k == 3 with
      | true =>
        rw [h5, h3] at h
        simp only [cond_true, cond_false] at h
        simp only [cond_true, cond_false, tlV, h, (tlZ_l _ _).1, (tlZ_l _ _).2]
        exact ⟨rfl, rfl⟩
      | false => rw [h5, h3] at h; cases h
theorem rep_lasts (id t : Int) (s : List Int) (sh : List (List Int)) (l : List ROp) (x : Msg × Int) : body PR (cfE ELs) cfgRp lfLs n_law_ReplicaLasts [.agg (seatC id t s sh), .slice ROpT l .view, .agg (lsC x)] [] some = some (.bool true, [], []) := by
  rw [ls_eq, chk11_ok, decide_eq_true rfl, decide_eq_true rfl, outer_app0 _ _ (scW_all0 rfl rfl rfl l)]
  cases hc : conOK t s sh id with
  | false => rfl
  | true =>
    cases rfewV l with
    | false => rfl
    | true =>
      obtain ⟨F, hS⟩ := scZ_syn l ⟨_, zR0_syn id t⟩
      have h1 := hS.tk x.1
      obtain ⟨h2, h3, h4⟩ := h1.cs x.2
      show lsT _ _ _ = _
      unfold lsT
      rw [cid_tk]
      unfold lsT1
      rw [hS.inv.good, h1.inv.good, h2.inv.good, decide_eq_true (goodR_len h1.inv.good), decide_eq_true (goodR_len h2.inv.good), h3, h4, beq_self_eq_true]
      cases he : (tkE (scZ l (zR0 id t)) x.1 == 0) with
      | false =>
        have hb : (tkE (scZ l (zR0 id t)) x.1 != 0) = true := by rw [bne, he]; rfl
        rw [hb, tkM_err hb, sameM_refl]; rfl
      | true =>
        obtain ⟨k1, k2⟩ := tkM_ok he
        rw [bne, he, k1, k2, beq_self_eq_true, beq_self_eq_true]; rfl
end Go.Crc

/- The law ReplicaSealed. Conditions: none. A text of this seat's numbers. -/
set_option linter.unusedVariables false
set_option linter.unusedSimpArgs false
set_option maxRecDepth 100000
namespace Go.Crc
open Go.Vm Go.Pack Go.Rec Go.RowKit
abbrev se3 : Wr := [(0, 12), (0, 5)]
abbrev sen : Wr := [(0, 6), (0, 4), (0, 2), (0, 5)]
abbrev se2 : Wr := [(0, 5)]
abbrev seH (id t : Int) (s : List Int) (sh : List (List Int)) (z : RpS) : List Ob := [.cells (seatC id t s sh), coOb t s sh, stO z.b z.n z.o, coOb t s sh, rpOj 2 z.id z.te z.l z.se]
def seOf : List Ob → Option (Seat11 × Bool)
  | [.cells a, .cells b, .cells c, .cells d, .cells e] => match seatOf a with
    | some x => some (x, isCo x.2.1 x.2.2.1 x.2.2.2 b && (isSt0 c && (isCo x.2.1 x.2.2.1 x.2.2.2 d && isRp0 2 x.1 x.2.1 e)))
    | _ => none
  | _ => none
theorem seOf_some {l : List Ob} {x : Seat11} (h : seOf l = some (x, true)) : l = seH x.1 x.2.1 x.2.2.1 x.2.2.2 (zR0 x.1 x.2.1) := by
  unfold seOf at h
  split at h
  · rename_i a b c d e
    split at h
    · rename_i x' h1
      simp only [Option.some.injEq, Prod.mk.injEq] at h
      obtain ⟨rfl, hc⟩ := h
      simp only [Bool.and_eq_true] at hc
      obtain ⟨k1, k2, k3, k4⟩ := hc
      rw [seatOf_some h1, isCo_eq k1, isSt0_eq k2, isCo_eq k3, isRp0_eq k4]
      rfl
    · cases h
  · cases h
def seF (vs : List AV) (H : Stack) : Tr (Ex × List AV × Stack × Wr) := match vs, H with
  | [.ptr 0 0 0, .ptr 0 4 0, a, .int .i64 m, .int .i64 i], h :: S =>
    match opsOf a, seOf h with
    | some l, some x => .br (x.2 && (decide (m = l.length) && (decide (i = 0) && conOK x.1.2.1 x.1.2.2.1 x.1.2.2.2 x.1.1)))
        (.yes (.exit 0, [.undef], seH x.1.1 x.1.2.1 x.1.2.2.1 x.1.2.2.2 (scZ l (zR0 x.1.1 x.1.2.1)) :: S, scW se3 sen se2 l)) .no
    | _, _ => .no
  | _, _ => .no
def lfSld : Nat → Option LoopSum := lfOf [(122, loopT [2, 5, 35, 36, 37] [4] seF)]
noncomputable def ESld : List (Ent PR A) := [rNwE, rfewE, sDoE1, ownE, rEtE, rEsE, saaE, ralE, rLenE, rSeE, dcE]
noncomputable abbrev LSld (N : Nat) := LC PR (cfE ESld) cfgRp lfSld n_law_ReplicaSealed 0 122 [2, 5, 35, 36, 37] [4] N
def seL (z z' : RpS) (no ok : Option Res) : Option Res :=
  bif decide ((z'.l.length : Int) < (z.l.length : Int)) then no else bif decide ((0 : Int) ≤ (z.l.length : Int)) && decide ((z.l.length : Int) ≤ (z'.l.length : Int)) then bif !((z'.l.take (z.l.length : Int).toNat).drop 0 == z.l) then no else ok else none
def seK (z z' : RpS) (no ok : Option Res) : Option Res :=
  bif goodR z' then bif decide (z'.l.length ≤ 100000) then
    bif ((chP 0 [] z'.l : Nat) : Int) != (z'.l.length : Int) then no
    else bif z.se then (bif !z'.se then no else bif !(z'.l == z.l) then no else seL z z' no ok) else seL z z' no ok
  else none else none
theorem se_round (l : List ROp) (m i : Int) (z : RpS) (id t : Int) (s : List Int) (sh : List (List Int)) (S : Stack) (wr : Wr) (N : Nat) (k : Ex → List AV → Stack → Wr → Option Res) :
    LSld (N + 1) [.ptr 0 0 0, .ptr 0 4 0, .slice ROpT l .view, .int .i64 m, .int .i64 i] (seH id t s sh z :: S) wr k =
      (bif decide (i < m) then (at? l i).bind fun x => bif x.1 == 2 then LSld N [.ptr 0 0 0, .ptr 0 4 0, .slice ROpT l .view, .int .i64 m, .int .i64 (IntKind.i64.wrap (i + 1))] (seH id t s sh z :: S) (app se2 wr) k
        else bif goodR z then bif decide (z.l.length ≤ 100000) then bif dsOK z id t s sh then
          bif x.1 == 3 then seK z (rsZ z) (k .ret [.bool false] (app (seH id t s sh z) (app (.cells (op11C (o11 x)) :: rsObs 9 z s sh (o11 x)) [.cells (msgC msg0)]) :: S) (app se3 wr))
            (LSld N [.ptr 0 0 0, .ptr 0 4 0, .slice ROpT l .view, .int .i64 m, .int .i64 (IntKind.i64.wrap (i + 1))] (seH id t s sh (rsZ z) :: S) (app se3 wr) k)
          else seK z (dsZ z (o11 x)) (k .ret [.bool false] (app (seH id t s sh (dsZ z (o11 x))) [.cells (op11C (o11 x)), .cells (msgC (dsM z (o11 x)))] :: S) (app sen wr))
            (LSld N [.ptr 0 0 0, .ptr 0 4 0, .slice ROpT l .view, .int .i64 m, .int .i64 (IntKind.i64.wrap (i + 1))] (seH id t s sh (dsZ z (o11 x)) :: S) (app sen wr) k)
        else none else none else none
      else k (.exit 0) [.undef] (seH id t s sh z :: S) wr) := by kernel_rfl
theorem seK_ok {z z' : RpS} (hg : goodR z' = true) (he : ∃ M, z'.l = z.l ++ M) (hs : z.se = true → z'.se = true ∧ z'.l = z.l) (no ok : Option Res) : seK z z' no ok = ok := by
  obtain ⟨M, hM⟩ := he
  have hc := (goodR_iff.1 hg).2.2.2.2
  have hl : z.l.length ≤ z'.l.length := by rw [hM, List.length_append]; omega
  have hL : seL z z' no ok = ok := by
    unfold seL
    have ht : (z'.l.take (z.l.length : Int).toNat).drop 0 = z.l := by rw [Int.toNat_natCast, List.drop_zero, hM, List.take_left']; rfl
    rw [ht, beq_self_eq_true, decide_eq_false (show ¬ (z'.l.length : Int) < (z.l.length : Int) by omega), decide_eq_true (show (0 : Int) ≤ (z.l.length : Int) by omega), decide_eq_true (show (z.l.length : Int) ≤ (z'.l.length : Int) by omega)]
    rfl
  unfold seK
  have h0 : (((chP 0 [] z'.l : Nat) : Int) != (z'.l.length : Int)) = false := by rw [bne_eq_false_iff_eq]; have : chP 0 [] z'.l = z'.l.length := hc; omega
  rw [hg, decide_eq_true (goodR_len hg), h0, hL]
  cases hse : z.se with
  | false => rfl
  | true =>
    obtain ⟨h1, h2⟩ := hs hse
    rw [h1, h2, beq_self_eq_true]; rfl
theorem clZ_l (z : RpS) : (clZ z).l = z.l ∧ (z.se = true → (clZ z).se = true) := by
  unfold clZ
  cases clGo z with
  | true => exact ⟨rfl, fun _ => rfl⟩
  | false => exact ⟨rfl, fun h => h⟩
theorem orZ_ext (z : RpS) (x : En) : (∃ M, (orZ z x).l = z.l ++ M) ∧ (z.se = true → (orZ z x).se = true ∧ (orZ z x).l = z.l) := by
  cases hg : orGo z x with
  | false => rw [orZ_no hg]; exact ⟨⟨[], by simp⟩, fun h => ⟨h, rfl⟩⟩
  | true =>
    have hl : (orZ z x).l = z.l ++ [x] := by unfold orZ; rw [hg]; rfl
    refine ⟨⟨[x], hl⟩, fun h => ?_⟩
    unfold orGo at hg
    rw [h] at hg
    simp at hg
theorem tkZ_ext (z : RpS) (m : Msg) : (∃ M, (tkZ z m).l = z.l ++ M) ∧ (z.se = true → (tkZ z m).se = true ∧ (tkZ z m).l = z.l) := by
  unfold tkZ
  cases mineM z m with
  | false => exact ⟨⟨[], by simp⟩, fun h => ⟨h, rfl⟩⟩
  | true =>
    cases m.k == 5 with
    | true =>
      simp only [cond_true]
      rw [(tlZ_l _ _).1, (tlZ_l _ _).2, (clZ_l z).1]
      exact ⟨⟨[], by simp⟩, fun h => ⟨(clZ_l z).2 h, rfl⟩⟩
    | false =>
      cases m.k == 3 with
      | true =>
        simp only [cond_true, cond_false]
        rw [(tlZ_l _ _).1, (tlZ_l _ _).2]
        exact orZ_ext z m.e
      | false => exact ⟨⟨[], by simp⟩, fun h => ⟨h, rfl⟩⟩
theorem rsZ_ext {z : RpS} {F : List (List Int)} (h : Syn z F) : (∃ M, (rsZ z).l = z.l ++ M) ∧ (z.se = true → (rsZ z).se = true ∧ (rsZ z).l = z.l) := by
  obtain ⟨_, h2, h3⟩ := h.rs
  rw [h2, h3]
  exact ⟨⟨[], by simp⟩, fun h => ⟨h, rfl⟩⟩
theorem dsZ_ext {z : RpS} {F : List (List Int)} (h : Syn z F) (x : Op11) : (∃ M, (dsZ z x).l = z.l ++ M) ∧ (z.se = true → (dsZ z x).se = true ∧ (dsZ z x).l = z.l) := by
  have same : (∃ M, z.l = z.l ++ M) ∧ (z.se = true → z.se = true ∧ z.l = z.l) := ⟨⟨[], by simp⟩, fun h => ⟨h, rfl⟩⟩
  unfold dsZ
  cases x.kd == 0 with
  | true => exact tkZ_ext z x.m
  | false =>
    cases x.kd == 1 with
    | true =>
      obtain ⟨_, h2, h3⟩ := h.cs x.N
      simp only [cond_true, cond_false]
      rw [h2, h3]
      exact same
    | false =>
      cases x.kd == 2 with
      | true => exact same
      | false => exact same
theorem sld_loop (l : List ROp) (m : Int) (hm : m = (l.length : Int)) (hl : l.length ≤ maxInt) (id t : Int) (s : List Int) (sh : List (List Int)) (hc : conOK t s sh id = true) (S : Stack) (k : Ex → List AV → Stack → Wr → Option Res) :
    ∀ (q j : Nat) (z : RpS) (wr : Wr), j + q = l.length → (∃ F', Syn z F') → z.id = id → z.te = t →
      LSld (q + 1) [.ptr 0 0 0, .ptr 0 4 0, .slice ROpT l .view, .int .i64 m, .int .i64 (j : Int)] (seH id t s sh z :: S) wr k = k (.exit 0) [.undef] (seH id t s sh (scZ (l.drop j) z) :: S) (app (scW se3 sen se2 (l.drop j)) wr) := by
  intro q
  induction q with
  | zero =>
    intro j z wr hj hz hi ht
    have hd : l.drop j = [] := List.drop_of_length_le (by omega)
    rw [se_round, cond_ne (decide_eq_false (by omega)), hd]
    rfl
  | succ q ih =>
    intro j z wr hj hz hi ht
    have hlt : j < l.length := by omega
    have hd : l.drop j = l[j] :: l.drop (j + 1) := List.drop_eq_getElem_cons hlt
    have hx : l[j]? = some l[j] := List.getElem?_eq_getElem hlt
    obtain ⟨F', hS⟩ := hz
    have hok : dsOK z id t s sh = true := by
      subst hi; subst ht
      exact hS.inv.ok hc
    have hg := hS.inv.good
    rw [se_round, cond_eq (decide_eq_true (by omega)), at_some hx, Option.bind_some, hok, hg, decide_eq_true (goodR_len hg), wrap_next hlt hl, hd]
    generalize l[j] = x at hx
    obtain ⟨k1, k2⟩ := scS_ids z (o11 x)
    have hsc := hS.sc (o11 x)
    have hi2 := ih (j + 1) (scS z (o11 x)) (app (bif x.1 != 2 then (bif x.1 == 3 then se3 else sen) else se2) wr) (by omega) hsc (k1.trans hi) (k2.trans ht)
    simp only [scZ, scW, cond_true]
    have ea : ∀ (a b c : Wr), app (app a b) c = app a (app b c) := fun a b c => by simp only [app_eq, List.append_assoc]
    rw [ea, ← hi2]
    obtain ⟨F2, hS2⟩ := hsc
    have hg2 := hS2.inv.good
    unfold scS at hg2 ⊢
    cases h2 : (x.1 == 2) with
    | true =>
      simp only [bne, h2]
      rfl
    | false =>
      simp only [bne, h2] at hg2 ⊢
      cases h3 : (x.1 == 3) with
      | true =>
        simp only [h3] at hg2 ⊢
        obtain ⟨e1, e2⟩ := rsZ_ext hS
        exact seK_ok hg2 e1 e2 _ _
      | false =>
        simp only [h3] at hg2 ⊢
        obtain ⟨e1, e2⟩ := dsZ_ext hS (o11 x)
        exact seK_ok hg2 e1 e2 _ _
theorem sld_loops : ∀ x ∈ funLoops PR n_law_ReplicaSealed, ∀ L, lfSld x.1 = some L → LoopOK (ntm PR n_law_ReplicaSealed) (fun fr H wr k => code PR (cfE ESld) cfgRp lfSld (cfgRp.live n_law_ReplicaSealed) x.2 (2 * x.1) fr H wr k) L := by
  refine one_loop (p := 122) rfl (by kernel_rfl) (loopT_ok (by decide) fun vs H wr ex vs' H' w hv ha hh => ?_)
  unfold seF at hv
  split at hv
  · rename_i a m i h S
    split at hv
    · rename_i l x h1 h2
      have e1 := opsOf_some h1
      obtain ⟨hc, hv2⟩ := Tr.br_no hv
      clear hv
      cases hv2
      simp only [Bool.and_eq_true, decide_eq_true_eq] at hc
      obtain ⟨hx, hm, rfl, hcon⟩ := hc
      have e2 := seOf_some (x := x.1) (by rw [← hx]; exact h2)
      subst e1; subst e2
      simp only [okAVs, okAV] at ha
      have hl : l.length ≤ maxInt := ha.2.2.1.1
      refine ⟨l.length + 1, fun k => ?_⟩
      have := sld_loop l m hm hl x.1.1 x.1.2.1 x.1.2.2.1 x.1.2.2.2 hcon S k l.length 0 (zR0 x.1.1 x.1.2.1) wr (by omega) ⟨_, zR0_syn _ _⟩ rfl rfl
      rw [List.drop_zero] at this
      exact this
    · cases hv
  · cases hv
theorem sld_eq (id t : Int) (s : List Int) (sh : List (List Int)) (l : List ROp) : body PR (cfE ESld) cfgRp lfSld n_law_ReplicaSealed [.agg (seatC id t s sh), .slice ROpT l .view] [] some =
    (bif conOK t s sh id then bif !rfewV l then some (.bool true, [], [])
      else bif chk11 2 id t s sh && (decide ((l.length : Int) = (l.length : Int)) && (decide ((0 : Int) = 0) && conOK t s sh id)) then some (.bool true, outer (app (scW se3 sen se2 l) []), []) else none
    else some (.bool true, [], [])) := by kernel_rfl
theorem rep_sealed (id t : Int) (s : List Int) (sh : List (List Int)) (l : List ROp) : body PR (cfE ESld) cfgRp lfSld n_law_ReplicaSealed [.agg (seatC id t s sh), .slice ROpT l .view] [] some = some (.bool true, [], []) := by
  rw [sld_eq, chk11_ok, decide_eq_true rfl, decide_eq_true rfl, outer_app0 _ _ (scW_all0 rfl rfl rfl l)]
  cases hc : conOK t s sh id with
  | false => rfl
  | true => cases rfewV l <;> rfl
end Go.Crc
