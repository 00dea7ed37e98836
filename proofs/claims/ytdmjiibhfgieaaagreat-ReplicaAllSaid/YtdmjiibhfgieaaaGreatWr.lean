/- Contracts of functions of this program. Conditions: none. -/
import Derived.Test.YtdmjiibhfgieaaaGreatWq
import Derived.Test.YtdmjiibhfgieaaaGreatWo
import Derived.Test.YtdmjiibhfgieaaaGreatVg
set_option linter.unusedVariables false
set_option linter.unusedSimpArgs false
/- The law ReplicaAll. Conditions: none. A text of this seat's numbers. -/
set_option linter.unusedVariables false
set_option linter.unusedSimpArgs false
set_option maxRecDepth 100000
namespace Go.Crc
open Go.Vm Go.Pack Go.Rec Go.RowKit
abbrev raW3 : Wr := [(0, 15), (0, 14), (0, 4), (0, 7), (0, 6), (0, 5)]
abbrev raWn : Wr := [(0, 9), (0, 8), (0, 3), (0, 1), (0, 4), (0, 7), (0, 6), (0, 5)]
abbrev dRpOb (id te : Int) (F : List (List Int)) (y : Int) (f : Bool) : Ob := .cells [.int .i64 id, .int .i64 te, .slice .str F .view, .int .i64 y, .bool f]
abbrev raP (id t : Int) (s : List Int) (sh : List (List Int)) (z : RpS) : List Ob := [.cells (seatC id t s sh), stO z.b z.n z.o, coOb t s sh, rpOj 1 z.id z.te z.l z.se]
abbrev raH (id t : Int) (s : List Int) (sh : List (List Int)) (z : RpS) (F : List (List Int)) (y : Int) (f : Bool) : List Ob := app (raP id t s sh z) [dRpOb id t F y f]
noncomputable def ERa : List (Ent PR A) := [stNwE, rfewE, ralE, rOpE, dnwE, ro11E, dd11E, sDoE3, of11E, msamerE, rLenE, rSeE, rEtE, rEsE, saaE]
def raS : List ROp → RpS → List (List Int) → Nat → RpS × List (List Int) × Nat
  | [], z, F, Y => (z, F, Y)
  | x :: r, z, F, Y => raS r (opZ z (o11 x)) (dsF z F Y (o11 x)) (dsY z F Y (o11 x))
def raWs : List ROp → Wr
  | [] => []
  | x :: r => app (raWs r) (bif x.1 == 3 then raW3 else raWn)
theorem raWs_all0 : ∀ l, all0 (raWs l) = true
  | [] => rfl
  | x :: r => by
    simp only [raWs]
    refine all0_app (raWs_all0 r) ?_
    cases x.1 == 3 <;> rfl
def stOf : List AV → Option (List Int × Int × Bool)
  | [.slice (.int .u8) b .own, .int .i64 n, .bool o] => some (b, n, o)
  | _ => none
theorem stOf_some {cs : List AV} {x : List Int × Int × Bool} (h : stOf cs = some x) : Ob.cells cs = stO x.1 x.2.1 x.2.2 := by
  unfold stOf at h
  split at h
  · cases h; rfl
  · cases h
def ensOf : AV → Option (List En)
  | .slice (.pair (.int .i64) (.pair (.int .i64) (.pair (.slice (.int .i64)) (.pair (.int .i64) (.pair (.int .i64) (.int .i64)))))) l .own => some l
  | _ => none
theorem ensOf_some {a : AV} {l : List En} (h : ensOf a = some l) : a = .slice EnT l .own := by
  unfold ensOf at h
  split at h
  · cases h; rfl
  · cases h
def rpOf : List AV → Option (Int × Int × List En × Bool)
  | [.int .i64 i, .int .i64 t, .ptr 0 1 0, e, .bool se] => match ensOf e with | some l => some (i, t, l, se) | none => none
  | _ => none
theorem rpOf_some {cs : List AV} {x : Int × Int × List En × Bool} (h : rpOf cs = some x) : Ob.cells cs = rpOj 1 x.1 x.2.1 x.2.2.1 x.2.2.2 := by
  unfold rpOf at h
  split at h
  · split at h
    · rename_i he
      cases h
      rw [ensOf_some he]
    · cases h
  · cases h
def rfOf : List AV → Option (Int × Int × List (List Int) × Int × Bool)
  | [.int .i64 id, .int .i64 te, .slice .str F .view, .int .i64 y, .bool f] => some (id, te, F, y, f)
  | _ => none
theorem rfOf_some {cs : List AV} {x : Int × Int × List (List Int) × Int × Bool} (h : rfOf cs = some x) : Ob.cells cs = dRpOb x.1 x.2.1 x.2.2.1 x.2.2.2.1 x.2.2.2.2 := by
  unfold rfOf at h
  split at h
  · cases h; rfl
  · cases h
abbrev RaT := Seat11 × (List Int × Int × Bool) × (Int × Int × List En × Bool) × (Int × Int × List (List Int) × Int × Bool)
def raZ (x : RaT) : RpS := docR x.1.1 x.1.2.1 x.2.2.2.2.2.1 x.2.2.2.2.2.2.1 x.2.2.2.2.2.2.2
def raChk (x : RaT) (co : List AV) : Bool :=
  isCo x.1.2.1 x.1.2.2.1 x.1.2.2.2 co && (conOK x.1.2.1 x.1.2.2.1 x.1.2.2.2 x.1.1 && (gR x.2.2.2.2.2.1 x.2.2.2.2.2.2.1 &&
    ((decide (x.2.2.1.1 = x.1.1) && (decide (x.2.2.1.2.1 = x.1.2.1) && (decide (x.2.2.2.1 = x.1.1) && decide (x.2.2.2.2.1 = x.1.2.1)))) &&
     ((x.2.1.1 == (raZ x).b && (decide (x.2.1.2.1 = (raZ x).n) && x.2.1.2.2 == (raZ x).o)) && (x.2.2.1.2.2.1 == (raZ x).l && x.2.2.1.2.2.2 == (raZ x).se)))))
def raOf : List Ob → Option (RaT × Bool)
  | [.cells a, .cells b, .cells c, .cells d, .cells e] => match seatOf a, stOf b, rpOf d, rfOf e with
    | some x1, some x2, some x3, some x4 => some ((x1, x2, x3, x4), raChk (x1, x2, x3, x4) c)
    | _, _, _, _ => none
  | _ => none
theorem raOf_some {l : List Ob} {x : RaT} (h : raOf l = some (x, true)) : l = raH x.1.1 x.1.2.1 x.1.2.2.1 x.1.2.2.2 (raZ x) x.2.2.2.2.2.1 x.2.2.2.2.2.2.1 x.2.2.2.2.2.2.2 ∧ conOK x.1.2.1 x.1.2.2.1 x.1.2.2.2 x.1.1 = true ∧ gR x.2.2.2.2.2.1 x.2.2.2.2.2.2.1 = true := by
  unfold raOf at h
  split at h
  · rename_i a b c d e
    split at h
    · rename_i x1 x2 x3 x4 h1 h2 h3 h4
      simp only [Option.some.injEq, Prod.mk.injEq] at h
      obtain ⟨rfl, hc⟩ := h
      unfold raChk at hc
      simp only [Bool.and_eq_true, decide_eq_true_eq, beq_iff_eq] at hc
      obtain ⟨c1, c2, c3, ⟨c4, c5, c6, c7⟩, ⟨c8, c9, c10⟩, c11, c12⟩ := hc
      rw [seatOf_some h1, stOf_some h2, isCo_eq c1, rpOf_some h3, rfOf_some h4]
      refine ⟨?_, c2, c3⟩
      simp only at c4 c5 c6 c7 c8 c9 c10 c11 c12 ⊢
      rw [c4, c5, c6, c7, c8, c9, c10, c11, c12]
      rfl
    · cases h
  · cases h
def raF (vs : List AV) (H : Stack) : Tr (Ex × List AV × Stack × Wr) := match vs, H with
  | [.ptr 0 0 0, .ptr 0 3 0, .ptr 0 4 0, a, .int .i64 m, .int .i64 i], h :: S =>
    match opsOf a, raOf h with
    | some l, some x => .br (x.2 && (decide (m = l.length) && decide (i = 0)))
        (.yes (.exit 0, [.undef], raH x.1.1.1 x.1.1.2.1 x.1.1.2.2.1 x.1.1.2.2.2 (raS l (raZ x.1) x.1.2.2.2.2.2.1 x.1.2.2.2.2.2.2.1.toNat).1 (raS l (raZ x.1) x.1.2.2.2.2.2.1 x.1.2.2.2.2.2.2.1.toNat).2.1 (((raS l (raZ x.1) x.1.2.2.2.2.2.1 x.1.2.2.2.2.2.2.1.toNat).2.2 : Nat) : Int) (raS l (raZ x.1) x.1.2.2.2.2.2.1 x.1.2.2.2.2.2.2.1.toNat).1.o :: S, raWs l)) .no
    | _, _ => .no
  | _, _ => .no
def lfRa0 : Nat → Option LoopSum := lfOf [(2042, loopT [3, 8, 10, 90, 91, 92] [6] raF)]
noncomputable abbrev LRa0 (N : Nat) := LC PR (cfE ERa) cfgRp lfRa0 n_law_ReplicaAll 0 2042 [3, 8, 10, 90, 91, 92] [6] N
def raK (eD eP : Int) (mP mD : Msg) (z : RpS) (F : List (List Int)) (no ok : Option Res) : Option Res :=
  bif smR F then bif eD != eP then no else bif !sameM mP mD then no else bif (z.l.length : Int) != ((rpR F [] false).1.length : Int) then no else bif z.se != (rpR F [] false).2.1 then no
    else bif goodR z then bif decide (z.l.length ≤ 100000) then bif !(z.l == (rpR F [] false).1) then no else ok else none else none
  else none
abbrev whOb11 (F : List (List Int)) : Ob := whE (rpR F [] false).1 .view (rpR F [] false).2.1
theorem ra_round0 (l : List ROp) (m i : Int) (z : RpS) (id t : Int) (s : List Int) (sh : List (List Int)) (F : List (List Int)) (y : Int) (f : Bool) (S : Stack) (wr : Wr) (N : Nat) (k : Ex → List AV → Stack → Wr → Option Res) :
    LRa0 (N + 1) [.ptr 0 0 0, .ptr 0 3 0, .ptr 0 4 0, .slice ROpT l .view, .int .i64 m, .int .i64 i] (raH id t s sh z F y f :: S) wr k =
      (bif decide (i < m) then (at? l i).bind fun x => bif gR F y then bif dsOK z id t s sh then
        bif x.1 == 3 then raK (dsE (docR id t F (y.toNat : Int) f) (o11 x)) 0 msg0 (dsM (docR id t F (y.toNat : Int) f) (o11 x)) (rsZ z) (dsF (docR id t F (y.toNat : Int) f) F y.toNat (o11 x))
            (k .ret [.bool false] (app (raP id t s sh z) (app [dRpOb id t (dsF (docR id t F (y.toNat : Int) f) F y.toNat (o11 x)) ((dsY (docR id t F (y.toNat : Int) f) F y.toNat (o11 x) : Nat) : Int) (dsO f (o11 x)), .cells (op11C (o11 x)), dRpOb id t (dsF (docR id t F (y.toNat : Int) f) F y.toNat (o11 x)) ((dsY (docR id t F (y.toNat : Int) f) F y.toNat (o11 x) : Nat) : Int) (dsO f (o11 x)), .cells (msgC (dsM (docR id t F (y.toNat : Int) f) (o11 x)))]
              (app (rsObs 11 z s sh (o11 x)) [.cells (msgC msg0), whOb11 (dsF (docR id t F (y.toNat : Int) f) F y.toNat (o11 x))])) :: S) (app raW3 wr))
            (LRa0 N [.ptr 0 0 0, .ptr 0 3 0, .ptr 0 4 0, .slice ROpT l .view, .int .i64 m, .int .i64 (IntKind.i64.wrap (i + 1))] (raH id t s sh (rsZ z) (dsF (docR id t F (y.toNat : Int) f) F y.toNat (o11 x)) ((dsY (docR id t F (y.toNat : Int) f) F y.toNat (o11 x) : Nat) : Int) (dsO f (o11 x)) :: S) (app raW3 wr) k)
        else raK (dsE (docR id t F (y.toNat : Int) f) (o11 x)) (dsE z (o11 x)) (dsM z (o11 x)) (dsM (docR id t F (y.toNat : Int) f) (o11 x)) (dsZ z (o11 x)) (dsF (docR id t F (y.toNat : Int) f) F y.toNat (o11 x))
            (k .ret [.bool false] (app (raP id t s sh (dsZ z (o11 x))) [dRpOb id t (dsF (docR id t F (y.toNat : Int) f) F y.toNat (o11 x)) ((dsY (docR id t F (y.toNat : Int) f) F y.toNat (o11 x) : Nat) : Int) (dsO f (o11 x)), .cells (op11C (o11 x)), dRpOb id t (dsF (docR id t F (y.toNat : Int) f) F y.toNat (o11 x)) ((dsY (docR id t F (y.toNat : Int) f) F y.toNat (o11 x) : Nat) : Int) (dsO f (o11 x)), .cells (msgC (dsM (docR id t F (y.toNat : Int) f) (o11 x))), .cells (msgC (dsM z (o11 x))), whOb11 (dsF (docR id t F (y.toNat : Int) f) F y.toNat (o11 x))] :: S) (app raWn wr))
            (LRa0 N [.ptr 0 0 0, .ptr 0 3 0, .ptr 0 4 0, .slice ROpT l .view, .int .i64 m, .int .i64 (IntKind.i64.wrap (i + 1))] (raH id t s sh (dsZ z (o11 x)) (dsF (docR id t F (y.toNat : Int) f) F y.toNat (o11 x)) ((dsY (docR id t F (y.toNat : Int) f) F y.toNat (o11 x) : Nat) : Int) (dsO f (o11 x)) :: S) (app raWn wr) k)
      else none else none else k (.exit 0) [.undef] (raH id t s sh z F y f :: S) wr) := by kernel_rfl
theorem raK_ok {z : RpS} {F : List (List Int)} {Y : Nat} (h : RpInv z F Y) (e : Int) (m : Msg) (no ok : Option Res) : raK e e m m z F no ok = ok := by
  unfold raK
  have hrd := h.rd
  rw [smallL_smR (inv_smallL' h.st), hrd, sameM_refl, h.good, decide_eq_true (goodR_len h.good)]
  simp
theorem ra_loop (l : List ROp) (m : Int) (hm : m = (l.length : Int)) (hl : l.length ≤ maxInt) (id t : Int) (s : List Int) (sh : List (List Int)) (hc : conOK t s sh id = true) (S : Stack) (k : Ex → List AV → Stack → Wr → Option Res) :
    ∀ (q j : Nat) (z : RpS) (F : List (List Int)) (Y : Nat) (wr : Wr), j + q = l.length → RpInv z F Y → z.id = id → z.te = t →
      LRa0 (q + 1) [.ptr 0 0 0, .ptr 0 3 0, .ptr 0 4 0, .slice ROpT l .view, .int .i64 m, .int .i64 (j : Int)] (raH id t s sh z F (Y : Int) z.o :: S) wr k =
        k (.exit 0) [.undef] (raH id t s sh (raS (l.drop j) z F Y).1 (raS (l.drop j) z F Y).2.1 (((raS (l.drop j) z F Y).2.2 : Nat) : Int) (raS (l.drop j) z F Y).1.o :: S) (app (raWs (l.drop j)) wr) := by
  intro q
  induction q with
  | zero =>
    intro j z F Y wr hj hI hi ht
    have hd : l.drop j = [] := List.drop_of_length_le (by omega)
    rw [ra_round0, cond_ne (decide_eq_false (by omega)), hd]
    rfl
  | succ q ih =>
    intro j z F Y wr hj hI hi ht
    have hlt : j < l.length := by omega
    have hd : l.drop j = l[j] :: l.drop (j + 1) := List.drop_eq_getElem_cons hlt
    have hx : l[j]? = some l[j] := List.getElem?_eq_getElem hlt
    have hok : dsOK z id t s sh = true := by
      subst hi; subst ht
      exact hI.ok hc
    have hdoc : docR id t F (Y : Int) z.o = z := by rw [← hi, ← ht]; exact hI.doc.symm
    rw [ra_round0, cond_eq (decide_eq_true (by omega)), at_some hx, Option.bind_some, hI.gR, hok, wrap_next hlt hl, hd, Int.toNat_natCast, hdoc]
    generalize l[j] = x at hx
    obtain ⟨k1, k2⟩ := opZ_ids z (o11 x)
    have h2 := hI.op (o11 x)
    have ho : (opZ z (o11 x)).o = dsO z.o (o11 x) := opZ_o z (o11 x)
    have hi2 := ih (j + 1) (opZ z (o11 x)) (dsF z F Y (o11 x)) (dsY z F Y (o11 x)) (app (bif x.1 == 3 then raW3 else raWn) wr) (by omega) h2 (k1.trans hi) (k2.trans ht)
    simp only [raS, raWs, cond_true]
    have ea : ∀ (a b c : Wr), app (app a b) c = app a (app b c) := fun a b c => by simp only [app_eq, List.append_assoc]
    rw [ea, ← hi2, ho]
    unfold opZ at h2 ⊢
    cases h3 : (x.1 == 3) with
    | true =>
      simp only [h3, cond_true] at h2 ⊢
      have h0 : (x.1 == 0) = false := by rw [beq_iff_eq] at h3; rw [h3]; rfl
      have e1 : dsE z (o11 x) = 0 := by unfold dsE; rw [show ((o11 x).kd == 0) = (x.1 == 0) from rfl, h0]; rfl
      have e2 : dsM z (o11 x) = msg0 := by unfold dsM; rw [show ((o11 x).kd == 0) = (x.1 == 0) from rfl, h0]; rfl
      rw [e1, e2]
      exact raK_ok h2 _ _ _ _
    | false =>
      simp only [h3, cond_false] at h2 ⊢
      exact raK_ok h2 _ _ _ _
theorem ra_loops : ∀ x ∈ funLoops PR n_law_ReplicaAll, ∀ L, lfRa0 x.1 = some L → LoopOK (ntm PR n_law_ReplicaAll) (fun fr H wr k => code PR (cfE ERa) cfgRp lfRa0 (cfgRp.live n_law_ReplicaAll) x.2 (2 * x.1) fr H wr k) L := by
  refine one_loop (p := 2042) rfl (by kernel_rfl) (loopT_ok (by decide) fun vs H wr ex vs' H' w hv ha hh => ?_)
  unfold raF at hv
  split at hv
  · rename_i a m i h S
    split at hv
    · rename_i l x h1 h2
      have e1 := opsOf_some h1
      obtain ⟨hc, hv2⟩ := Tr.br_no hv
      clear hv
      cases hv2
      simp only [Bool.and_eq_true, decide_eq_true_eq] at hc
      obtain ⟨hx, hm, rfl⟩ := hc
      obtain ⟨e2, hcon, hgr⟩ := raOf_some (x := x.1) (by rw [← hx]; exact h2)
      subst e1; subst e2
      simp only [okAVs, okAV] at ha
      have hl : l.length ≤ maxInt := ha.2.2.2.1.1
      have hF := hh 0 4 _ rfl
      simp only [okAVs, okAV] at hF
      have hI := gR_inv hgr (fun y hy => (hF.2.2.1.2 y hy).2) x.1.1.1 x.1.1.2.1 x.1.2.2.2.2.2.2.2
      have hy : ((x.1.2.2.2.2.2.2.1.toNat : Nat) : Int) = x.1.2.2.2.2.2.2.1 := by have := (gR_iff.1 hgr).1; omega
      refine ⟨l.length + 1, fun k => ?_⟩
      have := ra_loop l m hm hl x.1.1.1 x.1.1.2.1 x.1.1.2.2.1 x.1.1.2.2.2 hcon S k l.length 0 (raZ x.1) x.1.2.2.2.2.2.1 x.1.2.2.2.2.2.2.1.toNat wr (by omega) hI rfl rfl
      rw [List.drop_zero, hy] at this
      exact this
    · cases hv
  · cases hv
def raX (b : List Int) (id t : Int) (s : List Int) (sh : List (List Int)) : RaT := ((id, t, s, sh), (nwB b, scanN (b.take 65536), false), (id, t, rdL (nwB b), rdS (nwB b)), (id, t, scanL (b.take 65536), ((scanL (b.take 65536)).length : Int), false))
theorem ra_eq (b : List Int) (l : List ROp) (id t : Int) (s : List Int) (sh : List (List Int)) : body PR (cfE ERa) cfgRp lfRa0 n_law_ReplicaAll [.agg (seatC id t s sh), .slice (.int .u8) b .view, .slice ROpT l .view] [] some =
    (bif decide ((b.length : Int) > 3000) then some (.bool true, [], []) else bif !rfewV l then some (.bool true, [], []) else bif decide ((s.length : Int) > 50) then some (.bool true, [], []) else bif decide ((sh.length : Int) > 50) then some (.bool true, [], [])
    else bif decide ((nwB b).length ≤ 65536) then
      bif conOK t s sh id && rdG (nwB b) then bif smR (scanL (b.take 65536)) then bif conOK t s sh id && (rpR (scanL (b.take 65536)) [] false).2.2 then
          bif raChk (raX b id t s sh) [.int .i64 t, .slice (.int .i64) s .view, .slice RowT sh .view] && (decide ((l.length : Int) = (l.length : Int)) && decide ((0 : Int) = 0)) then some (.bool true, outer (app (raWs l) [(0, 4)]), []) else none
        else some (.bool false, [], []) else none
      else bif smR (scanL (b.take 65536)) then bif conOK t s sh id && (rpR (scanL (b.take 65536)) [] false).2.2 then some (.bool false, [], []) else some (.bool true, [], []) else none
    else none) := by kernel_rfl
theorem rep_all (b : List Int) (hb : isBytes b) (l : List ROp) (id t : Int) (s : List Int) (sh : List (List Int)) : body PR (cfE ERa) cfgRp lfRa0 n_law_ReplicaAll [.agg (seatC id t s sh), .slice (.int .u8) b .view, .slice ROpT l .view] [] some = some (.bool true, [], []) := by
  rw [ra_eq]
  have hI := Inv.new hb
  have hf : scanL (nwB b) = scanL (b.take 65536) := hI.frames
  have hG : rdG (nwB b) = (rpR (scanL (b.take 65536)) [] false).2.2 := by
    show (rpR (scanL (nwB b)) [] false).2.2 = _
    rw [hf]
  have hL : rdL (nwB b) = (rpR (scanL (b.take 65536)) [] false).1 := by
    show (rpR (scanL (nwB b)) [] false).1 = _
    rw [hf]
  have hS : rdS (nwB b) = (rpR (scanL (b.take 65536)) [] false).2.1 := by
    show (rpR (scanL (nwB b)) [] false).2.1 = _
    rw [hf]
  have hsL := inv_smallL' hI
  have hlen := hI.len
  rw [smallL_smR hsL, decide_eq_true hlen, hG, outer_app0 _ _ (raWs_all0 l)]
  have hC : conOK t s sh id = true → (rpR (scanL (b.take 65536)) [] false).2.2 = true → raChk (raX b id t s sh) [.int .i64 t, .slice (.int .i64) s .view, .slice RowT sh .view] = true := by
    intro h1 h2
    unfold raChk
    have hco : isCo t s sh [.int .i64 t, .slice (.int .i64) s .view, .slice RowT sh .view] = true := by unfold isCo; simp
    have hcat : nwB b = catF (scanL (b.take 65536)) := hI.cat
    have hsy : scanN (b.take 65536) = ((catF ((scanL (b.take 65536)).take (scanL (b.take 65536)).length)).length : Int) := hI.syn
    have hg : gR (scanL (b.take 65536)) ((scanL (b.take 65536)).length : Int) = true := gR_iff.2 ⟨by omega, Int.le_refl _, hsL, by rw [← hcat]; exact hlen, h2⟩
    show (isCo t s sh _ && (conOK t s sh id && (gR (scanL (b.take 65536)) ((scanL (b.take 65536)).length : Int) && ((decide (id = id) && (decide (t = t) && (decide (id = id) && decide (t = t)))) &&
      ((nwB b == catF (scanL (b.take 65536)) && (decide (scanN (b.take 65536) = ((catF ((scanL (b.take 65536)).take ((scanL (b.take 65536)).length : Int).toNat)).length : Int)) && false == false)) && (rdL (nwB b) == (rpR (scanL (b.take 65536)) [] false).1 && rdS (nwB b) == (rpR (scanL (b.take 65536)) [] false).2.1)))))) = true
    rw [hco, h1, hg, ← hcat, hL, hS, Int.toNat_natCast, ← hsy]
    simp
  cases decide ((b.length : Int) > 3000) with
  | true => rfl
  | false =>
  cases rfewV l with
  | false => rfl
  | true =>
  cases decide ((s.length : Int) > 50) with
  | true => rfl
  | false =>
  cases decide ((sh.length : Int) > 50) with
  | true => rfl
  | false =>
  cases h1 : conOK t s sh id with
  | false => rfl
  | true =>
  cases h2 : (rpR (scanL (b.take 65536)) [] false).2.2 with
  | false => rfl
  | true =>
    rw [hC h1 h2, decide_eq_true rfl, decide_eq_true rfl]
    rfl
theorem sz_bytesR {b : List Int} (h : Sz (.slice (.int .u8)) b) : isBytes b := fun x hx => by
  have := h.2 x hx
  simpa [Sz, IntKind.min, IntKind.max, IntKind.signed, IntKind.bits] using this
theorem pureK_of {P : Program} {A : AbsR} {l : List (Ent P A)} {g : Nat} {f : List AV → Tr AV} (h : cfE l g = pureC f) : PureK (cfE l) g := by
  intro args S res hr
  rw [h] at hr
  unfold pureC at hr
  obtain ⟨v, h1, h2, h3⟩ := Tr.run_val hr
  cases h2
  refine ⟨rfl, rfl, fun S' => ?_⟩
  rw [h]
  exact h3 fun v => some (v, [], S')
abbrev raPf : List Nat := [n_ref08_New, n_ref11_Reopen]
theorem ra_pure : ∀ g, memN g raPf = true → PureK (cfE ERa) g := by
  intro g hg
  simp only [raPf, memN, Bool.or_false, Bool.or_eq_true, beq_iff] at hg
  rcases hg with rfl | rfl
  · exact pureK_of (f := dnwC) (by kernel_rfl)
  · exact pureK_of (f := ro11C) (by kernel_rfl)
end Go.Crc
