/- Contracts of functions of this program. Conditions: none. -/
import Derived.Test.YtdnghpfmobnjlaaGreatWo
set_option linter.unusedVariables false
set_option linter.unusedSimpArgs false
/- The law PaxosAccepts. Conditions: none. A text of this seat's numbers. -/
set_option linter.unusedVariables false
set_option linter.unusedSimpArgs false
set_option maxRecDepth 100000
namespace Go.Crc
open Go.Vm Go.Pack Go.Rec Go.RowKit
noncomputable def ECc:List (Ent PR A) := [stNwE,napE,palvE,pl13E,dnwE,smlE,do13E,ownE,aptE,acrE,stOffE,of13E,aacE,plainE,msamerE,aprE,tsrE]
abbrev o13 (x:ROp):O13 := ⟨x.1,x.2.1,toM x.2.2.1,x.2.2.2⟩
abbrev accP (a b:Int) (c:List Int) (z:AcS):List Ob := [.cells [.int .i64 a,.int .i64 b,.slice (.int .u8) c .view],astO z.b z.n z.o,acOj 1 z.id z.sl z.v]
abbrev accH (a b:Int) (c:List Int) (z:AcS) (F:List (List Int)) (y:Int) (f:Bool):List Ob := app (accP a b c z) [.cells (seat13 a b F y f)]
abbrev msgO (m:Msg) (lv:Lv):Ob := .cells [.int .i64 m.k,.int .i64 m.f,.int .i64 m.t,.int .i64 m.te,.int .i64 m.sh,.int .i64 m.nu,.bool m.is,.int .i64 m.rc,.int .i64 m.rn,.slice (.int .i64) m.rt lv,.str m.rd,.int .i64 m.e.1,.int .i64 m.e.2.1,.slice (.int .i64) m.e.2.2.1 lv,.int .i64 m.e.2.2.2.1,.int .i64 m.e.2.2.2.2.1,.int .i64 m.e.2.2.2.2.2,.int .i64 m.ba,.int .i64 m.ol,.int .i64 m.ct,.slice (.int .i64) m.cs lv,.slice RowT m.ch lv]
abbrev conOb2 (v:AcV):Ob := .cells [.int .i64 v.ct,.slice (.int .i64) v.cs .view,.slice RowT v.ch .view]
abbrev AccT := AcS × List (List Int) × Nat
def accS:List ROp → AcS → List (List Int) → Nat → AccT × Option ROp
  | [],z,F,Y => ((z,F,Y),none)
  | x :: r,z,F,Y => bif smallM (opM x) then accS r (doZ z (o13 x)) (doF z F Y (o13 x)) (doY z F Y (o13 x)) else ((z,F,Y),some x)
abbrev accW (x:ROp):Wr := bif x.1 == 0 then [(0,9),(0,8),(0,7),(0,2),(0,1),(0,3),(0,6),(0,5),(0,4)] else bif x.1 == 1 then [(0,9),(0,8),(0,2),(0,1),(0,3),(0,6),(0,5),(0,4)] else bif x.1 == 2 then [(0,9),(0,8),(0,1),(0,3),(0,6),(0,5),(0,4)] else [(0,9),(0,8),(0,3),(0,6),(0,5),(0,4)]
def accWs:List ROp → Wr
  | [] => []
  | x :: r => bif smallM (opM x) then app (accWs r) (accW x) else [(0,4)]
theorem accWs_all0:∀ l,all0 (accWs l) = true
  | [] => rfl
  | x :: r => by
    unfold accWs accW
    cases smallM (opM x) with
    | false => rfl
    | true =>
      refine all0_app (accWs_all0 r) ?_
      cases x.1 == 0 <;> cases x.1 == 1 <;> cases x.1 == 2 <;> rfl
abbrev AccX := (Int × Int × List Int) × (List Int × Int × Bool) × (Int × Int × AcV) × (Int × Int × List (List Int) × Int × Bool)
def accO0:List AV → Option (Int × Int × List Int)
  | [.int .i64 a,.int .i64 b,.slice (.int .u8) c .view] => some (a,b,c)
  | _ => none
theorem accO0_some {cs:List AV} {x:Int × Int × List Int} (h:accO0 cs = some x):cs = [.int .i64 x.1,.int .i64 x.2.1,.slice (.int .u8) x.2.2 .view] := by
  unfold accO0 at h
  split at h
  · cases h; rfl
  · cases h
def accO1:List AV → Option (List Int × Int × Bool)
  | [.slice (.int .u8) b .own,.int .i64 n,.bool o] => some (b,n,o)
  | _ => none
theorem accO1_some {cs:List AV} {x:List Int × Int × Bool} (h:accO1 cs = some x):Ob.cells cs = astO x.1 x.2.1 x.2.2 := by
  unfold accO1 at h
  split at h
  · cases h; rfl
  · cases h
def accO2:List AV → Option (Int × Int × AcV)
  | [.int .i64 i,.int .i64 s,.ptr 0 1 0,.int .i64 pr,.int .i64 ac,.int .i64 ct,.slice (.int .i64) cs .view,.slice (.slice (.int .i64)) ch .view] => some (i,s,⟨pr,ac,ct,cs,ch⟩)
  | _ => none
theorem accO2_some {cs:List AV} {x:Int × Int × AcV} (h:accO2 cs = some x):Ob.cells cs = acOj 1 x.1 x.2.1 x.2.2 := by
  unfold accO2 at h
  split at h
  · cases h; rfl
  · cases h
def accO3:List AV → Option (Int × Int × List (List Int) × Int × Bool)
  | [.int .i64 id,.int .i64 sl,.slice .str F .view,.int .i64 y,.bool f] => some (id,sl,F,y,f)
  | _ => none
theorem accO3_some {cs:List AV} {x:Int × Int × List (List Int) × Int × Bool} (h:accO3 cs = some x):cs = seat13 x.1 x.2.1 x.2.2.1 x.2.2.2.1 x.2.2.2.2 := by
  unfold accO3 at h
  split at h
  · cases h; rfl
  · cases h
def accZ (x:AccX):AcS := docA x.1.1 x.1.2.1 x.2.2.2.2.2.1 x.2.2.2.2.2.2.1 x.2.2.2.2.2.2.2
def accChk (x:AccX):Bool :=
  g13 x.2.2.2.2.2.1 x.2.2.2.2.2.2.1 && ((decide (x.2.2.1.1 = x.1.1) && (decide (x.2.2.1.2.1 = x.1.2.1) && (decide (x.2.2.2.1 = x.1.1) && decide (x.2.2.2.2.1 = x.1.2.1)))) &&
    ((x.2.1.1 == (accZ x).b && (decide (x.2.1.2.1 = (accZ x).n) && x.2.1.2.2 == (accZ x).o)) &&
      (decide (x.2.2.1.2.2.pr = (accZ x).v.pr) && (decide (x.2.2.1.2.2.ac = (accZ x).v.ac) && (decide (x.2.2.1.2.2.ct = (accZ x).v.ct) && (x.2.2.1.2.2.cs == (accZ x).v.cs && x.2.2.1.2.2.ch == (accZ x).v.ch))))))
def accOf:List Ob → Option (AccX × Bool)
  | [.cells a,.cells b,.cells c,.cells d] => match accO0 a,accO1 b,accO2 c,accO3 d with
    | some x0,some x1,some x2,some x3 => some ((x0,x1,x2,x3),accChk (x0,x1,x2,x3))
    | _,_,_,_ => none
  | _ => none
theorem accOf_some {l:List Ob} {x:AccX} (h:accOf l = some (x,true)):l = accH x.1.1 x.1.2.1 x.1.2.2 (accZ x) x.2.2.2.2.2.1 x.2.2.2.2.2.2.1 x.2.2.2.2.2.2.2 ∧ g13 x.2.2.2.2.2.1 x.2.2.2.2.2.2.1 = true := by
  unfold accOf at h
  split at h
  · rename_i a b c d
    split at h
    · rename_i x0 x1 x2 x3 h0 h1 h2 h3
      simp only [Option.some.injEq,Prod.mk.injEq] at h
      obtain ⟨rfl,hc⟩ := h
      unfold accChk at hc
      simp only [Bool.and_eq_true,decide_eq_true_eq,beq_iff_eq] at hc
      obtain ⟨c1,⟨c2,c3,c4,c5⟩,⟨c6,c7,c8⟩,c9,c10,c11,c12,c13⟩ := hc
      rw [accO0_some h0,accO1_some h1,accO2_some h2,accO3_some h3]
      refine ⟨?_,c1⟩
      simp only at c2 c3 c4 c5 c6 c7 c8 c9 c10 c11 c12 c13 ⊢
      have hv:x2.2.2 = (accZ (x0,x1,x2,x3)).v := by
        show AcV.mk x2.2.2.pr x2.2.2.ac x2.2.2.ct x2.2.2.cs x2.2.2.ch = _
        rw [c9,c10,c11,c12,c13]
      rw [c2,c3,c4,c5,c6,c7,c8,hv]
      rfl
    · cases h
  · cases h
def accF (vs:List AV) (H:Stack):Tr (Ex × List AV × Stack × Wr) := match vs,H with
  | [.ptr 0 1 0,.ptr 0 2 0,.ptr 0 3 0,a,.int .i64 m,.int .i64 i],h :: S =>
    match opsOf a,accOf h with
    | some l,some x => .br (x.2 && (decide (m = l.length) && decide (i = 0)))
        (.br (accS l (accZ x.1) x.1.2.2.2.2.2.1 x.1.2.2.2.2.2.2.1.toNat).2.isNone
          (.yes (.exit 0,[.undef],accH x.1.1.1 x.1.1.2.1 x.1.1.2.2 (accS l (accZ x.1) x.1.2.2.2.2.2.1 x.1.2.2.2.2.2.2.1.toNat).1.1 (accS l (accZ x.1) x.1.2.2.2.2.2.1 x.1.2.2.2.2.2.2.1.toNat).1.2.1 (((accS l (accZ x.1) x.1.2.2.2.2.2.1 x.1.2.2.2.2.2.2.1.toNat).1.2.2:Nat):Int) (accS l (accZ x.1) x.1.2.2.2.2.2.1 x.1.2.2.2.2.2.2.1.toNat).1.1.o :: S,accWs l))
          (.yes (.ret,[.bool true],app (accH x.1.1.1 x.1.1.2.1 x.1.1.2.2 (accS l (accZ x.1) x.1.2.2.2.2.2.1 x.1.2.2.2.2.2.2.1.toNat).1.1 (accS l (accZ x.1) x.1.2.2.2.2.2.1 x.1.2.2.2.2.2.2.1.toNat).1.2.1 (((accS l (accZ x.1) x.1.2.2.2.2.2.1 x.1.2.2.2.2.2.2.1.toNat).1.2.2:Nat):Int) (accS l (accZ x.1) x.1.2.2.2.2.2.1 x.1.2.2.2.2.2.2.1.toNat).1.1.o) [.cells (opC ((accS l (accZ x.1) x.1.2.2.2.2.2.1 x.1.2.2.2.2.2.2.1.toNat).2.getD default))] :: S,accWs l))) .no
    | _,_ => .no
  | _,_ => .no
def lfCc0:Nat → Option LoopSum := lfOf [(2042,loopT [5,6,8,74,75,76] [4] accF)]
noncomputable abbrev LCc0 (N:Nat) := LC PR (cfE ECc) cfgPx lfCc0 n_law_PaxosAccepts 0 2042 [5,6,8,74,75,76] [4] N
abbrev accN (a b:Int) (F:List (List Int)) (y:Int) (f:Bool) (x:ROp) (M:Msg) (g:Ob) (v:AcV):List Ob := [.cells (opC x),.cells (seat13 a b F y f),.cells (msgC M),g,avO (fvR b F av0) .view,conOb2 v]
def accK (b:Int) (E g:Int) (got M:Msg) (v:AcV) (F:List (List Int)) (no ok:Option Res):Option Res :=
  bif smR F then bif smC v.cs v.ch then bif E != g then no else bif !sameM got M then no else bif v.pr != (fvR b F av0).pr then no else bif v.ac != (fvR b F av0).ac then no
    else bif !(v.ct == (fvR b F av0).ct && (v.cs == (fvR b F av0).cs && v.ch == (fvR b F av0).ch)) then no else ok else none else none
theorem acc_round0 (l:List ROp) (m i:Int) (a b:Int) (c:List Int) (z:AcS) (F:List (List Int)) (y:Int) (f:Bool) (S:Stack) (wr:Wr) (N:Nat) (k:Ex → List AV → Stack → Wr → Option Res) :
    LCc0 (N + 1) [.ptr 0 1 0,.ptr 0 2 0,.ptr 0 3 0,.slice ROpT l .view,.int .i64 m,.int .i64 i] (accH a b c z F y f :: S) wr k =
      (bif decide (i < m) then (at? l i).bind fun x => bif !smallM (opM x) then k .ret [.bool true] (app (accH a b c z F y f) [.cells (opC x)] :: S) ((0,4) :: wr)
        else bif g13 F y then
          bif x.1 == 0 then bif goodA z then
              accK b (doEr (docA a b F (y.toNat:Int) f) (o13 x)) (ptkE z (opM x)) (ptkM z (opM x)) (doM (docA a b F (y.toNat:Int) f) (o13 x)) (ptkZ z (opM x)).v (doF (docA a b F (y.toNat:Int) f) F y.toNat (o13 x))
                (k .ret [.bool false] (app (accH a b c (idA z (ptkZ z (opM x))) (doF (docA a b F (y.toNat:Int) f) F y.toNat (o13 x)) ((doY (docA a b F (y.toNat:Int) f) F y.toNat (o13 x):Nat):Int) (doO f (o13 x))) (accN a b (doF (docA a b F (y.toNat:Int) f) F y.toNat (o13 x)) ((doY (docA a b F (y.toNat:Int) f) F y.toNat (o13 x):Nat):Int) (doO f (o13 x)) x (doM (docA a b F (y.toNat:Int) f) (o13 x)) (msgO (ptkM z (opM x)) .view) (ptkZ z (opM x)).v) :: S) (app [(0,9),(0,8),(0,7),(0,2),(0,1),(0,3),(0,6),(0,5),(0,4)] wr))
                (LCc0 N [.ptr 0 1 0,.ptr 0 2 0,.ptr 0 3 0,.slice ROpT l .view,.int .i64 m,.int .i64 (IntKind.i64.wrap (i + 1))] (accH a b c (idA z (ptkZ z (opM x))) (doF (docA a b F (y.toNat:Int) f) F y.toNat (o13 x)) ((doY (docA a b F (y.toNat:Int) f) F y.toNat (o13 x):Nat):Int) (doO f (o13 x)) :: S) (app [(0,9),(0,8),(0,7),(0,2),(0,1),(0,3),(0,6),(0,5),(0,4)] wr) k) else none
          else bif x.1 == 1 then bif goodA z then
              accK b (doEr (docA a b F (y.toNat:Int) f) (o13 x)) 0 msg0 (doM (docA a b F (y.toNat:Int) f) (o13 x)) (pcrZ z x.2.1).v (doF (docA a b F (y.toNat:Int) f) F y.toNat (o13 x))
                (k .ret [.bool false] (app (accH a b c (idA z (pcrZ z x.2.1)) (doF (docA a b F (y.toNat:Int) f) F y.toNat (o13 x)) ((doY (docA a b F (y.toNat:Int) f) F y.toNat (o13 x):Nat):Int) (doO f (o13 x))) (accN a b (doF (docA a b F (y.toNat:Int) f) F y.toNat (o13 x)) ((doY (docA a b F (y.toNat:Int) f) F y.toNat (o13 x):Nat):Int) (doO f (o13 x)) x (doM (docA a b F (y.toNat:Int) f) (o13 x)) (msgO msg0 .own) (pcrZ z x.2.1).v) :: S) (app [(0,9),(0,8),(0,2),(0,1),(0,3),(0,6),(0,5),(0,4)] wr))
                (LCc0 N [.ptr 0 1 0,.ptr 0 2 0,.ptr 0 3 0,.slice ROpT l .view,.int .i64 m,.int .i64 (IntKind.i64.wrap (i + 1))] (accH a b c (idA z (pcrZ z x.2.1)) (doF (docA a b F (y.toNat:Int) f) F y.toNat (o13 x)) ((doY (docA a b F (y.toNat:Int) f) F y.toNat (o13 x):Nat):Int) (doO f (o13 x)) :: S) (app [(0,9),(0,8),(0,2),(0,1),(0,3),(0,6),(0,5),(0,4)] wr) k) else none
          else bif x.1 == 2 then
              accK b (doEr (docA a b F (y.toNat:Int) f) (o13 x)) 0 msg0 (doM (docA a b F (y.toNat:Int) f) (o13 x)) z.v (doF (docA a b F (y.toNat:Int) f) F y.toNat (o13 x))
                (k .ret [.bool false] (app (accH a b c { z with o := x.2.2.2 } (doF (docA a b F (y.toNat:Int) f) F y.toNat (o13 x)) ((doY (docA a b F (y.toNat:Int) f) F y.toNat (o13 x):Nat):Int) (doO f (o13 x))) (accN a b (doF (docA a b F (y.toNat:Int) f) F y.toNat (o13 x)) ((doY (docA a b F (y.toNat:Int) f) F y.toNat (o13 x):Nat):Int) (doO f (o13 x)) x (doM (docA a b F (y.toNat:Int) f) (o13 x)) (msgO msg0 .own) z.v) :: S) (app [(0,9),(0,8),(0,1),(0,3),(0,6),(0,5),(0,4)] wr))
                (LCc0 N [.ptr 0 1 0,.ptr 0 2 0,.ptr 0 3 0,.slice ROpT l .view,.int .i64 m,.int .i64 (IntKind.i64.wrap (i + 1))] (accH a b c { z with o := x.2.2.2 } (doF (docA a b F (y.toNat:Int) f) F y.toNat (o13 x)) ((doY (docA a b F (y.toNat:Int) f) F y.toNat (o13 x):Nat):Int) (doO f (o13 x)) :: S) (app [(0,9),(0,8),(0,1),(0,3),(0,6),(0,5),(0,4)] wr) k)
          else accK b (doEr (docA a b F (y.toNat:Int) f) (o13 x)) 0 msg0 (doM (docA a b F (y.toNat:Int) f) (o13 x)) z.v (doF (docA a b F (y.toNat:Int) f) F y.toNat (o13 x))
                (k .ret [.bool false] (app (accH a b c z (doF (docA a b F (y.toNat:Int) f) F y.toNat (o13 x)) ((doY (docA a b F (y.toNat:Int) f) F y.toNat (o13 x):Nat):Int) (doO f (o13 x))) (accN a b (doF (docA a b F (y.toNat:Int) f) F y.toNat (o13 x)) ((doY (docA a b F (y.toNat:Int) f) F y.toNat (o13 x):Nat):Int) (doO f (o13 x)) x (doM (docA a b F (y.toNat:Int) f) (o13 x)) (msgO msg0 .own) z.v) :: S) (app [(0,9),(0,8),(0,3),(0,6),(0,5),(0,4)] wr))
                (LCc0 N [.ptr 0 1 0,.ptr 0 2 0,.ptr 0 3 0,.slice ROpT l .view,.int .i64 m,.int .i64 (IntKind.i64.wrap (i + 1))] (accH a b c z (doF (docA a b F (y.toNat:Int) f) F y.toNat (o13 x)) ((doY (docA a b F (y.toNat:Int) f) F y.toNat (o13 x):Nat):Int) (doO f (o13 x)) :: S) (app [(0,9),(0,8),(0,3),(0,6),(0,5),(0,4)] wr) k)
        else none
      else k (.exit 0) [.undef] (accH a b c z F y f :: S) wr) := by kernel_rfl
theorem accK_ok {z:AcS} {F:List (List Int)} {Y:Nat} (h:PxInv z F Y) (E:Int) (M:Msg) (no ok:Option Res):accK z.sl E E M M z.v F no ok = ok := by
  unfold accK
  rw [smallL_smR2 (inv_smallL2 h.st),gv_sm h.gv,h.rd,sameM_refl]
  simp
theorem idA_tk2 (z:AcS) (m:Msg):idA z (ptkZ z m) = ptkZ z m := by
  obtain ⟨h1,h2⟩ := ptkZ_ids z m
  cases h:ptkZ z m with
  | mk i s v b n o =>
    rw [h] at h1 h2
    simp only at h1 h2
    rw [h1,h2]
theorem acc_step {z:AcS} {F:List (List Int)} {Y:Nat} (h:PxInv z F Y) (a b:Int) (hi:z.id = a) (hs:z.sl = b) (c:List Int) (x:ROp) (l:List ROp) (m i':Int) (S:Stack) (wr:Wr) (N:Nat) (k:Ex → List AV → Stack → Wr → Option Res) :
    (bif g13 F (Y:Int) then
          bif x.1 == 0 then bif goodA z then
              accK b (doEr (docA a b F (Y:Int) z.o) (o13 x)) (ptkE z (opM x)) (ptkM z (opM x)) (doM (docA a b F (Y:Int) z.o) (o13 x)) (ptkZ z (opM x)).v (doF (docA a b F (Y:Int) z.o) F Y (o13 x))
                (k .ret [.bool false] (app (accH a b c (idA z (ptkZ z (opM x))) (doF (docA a b F (Y:Int) z.o) F Y (o13 x)) ((doY (docA a b F (Y:Int) z.o) F Y (o13 x):Nat):Int) (doO z.o (o13 x))) (accN a b (doF (docA a b F (Y:Int) z.o) F Y (o13 x)) ((doY (docA a b F (Y:Int) z.o) F Y (o13 x):Nat):Int) (doO z.o (o13 x)) x (doM (docA a b F (Y:Int) z.o) (o13 x)) (msgO (ptkM z (opM x)) .view) (ptkZ z (opM x)).v) :: S) (app [(0,9),(0,8),(0,7),(0,2),(0,1),(0,3),(0,6),(0,5),(0,4)] wr))
                (LCc0 N [.ptr 0 1 0,.ptr 0 2 0,.ptr 0 3 0,.slice ROpT l .view,.int .i64 m,.int .i64 i'] (accH a b c (idA z (ptkZ z (opM x))) (doF (docA a b F (Y:Int) z.o) F Y (o13 x)) ((doY (docA a b F (Y:Int) z.o) F Y (o13 x):Nat):Int) (doO z.o (o13 x)) :: S) (app [(0,9),(0,8),(0,7),(0,2),(0,1),(0,3),(0,6),(0,5),(0,4)] wr) k) else none
          else bif x.1 == 1 then bif goodA z then
              accK b (doEr (docA a b F (Y:Int) z.o) (o13 x)) 0 msg0 (doM (docA a b F (Y:Int) z.o) (o13 x)) (pcrZ z x.2.1).v (doF (docA a b F (Y:Int) z.o) F Y (o13 x))
                (k .ret [.bool false] (app (accH a b c (idA z (pcrZ z x.2.1)) (doF (docA a b F (Y:Int) z.o) F Y (o13 x)) ((doY (docA a b F (Y:Int) z.o) F Y (o13 x):Nat):Int) (doO z.o (o13 x))) (accN a b (doF (docA a b F (Y:Int) z.o) F Y (o13 x)) ((doY (docA a b F (Y:Int) z.o) F Y (o13 x):Nat):Int) (doO z.o (o13 x)) x (doM (docA a b F (Y:Int) z.o) (o13 x)) (msgO msg0 .own) (pcrZ z x.2.1).v) :: S) (app [(0,9),(0,8),(0,2),(0,1),(0,3),(0,6),(0,5),(0,4)] wr))
                (LCc0 N [.ptr 0 1 0,.ptr 0 2 0,.ptr 0 3 0,.slice ROpT l .view,.int .i64 m,.int .i64 i'] (accH a b c (idA z (pcrZ z x.2.1)) (doF (docA a b F (Y:Int) z.o) F Y (o13 x)) ((doY (docA a b F (Y:Int) z.o) F Y (o13 x):Nat):Int) (doO z.o (o13 x)) :: S) (app [(0,9),(0,8),(0,2),(0,1),(0,3),(0,6),(0,5),(0,4)] wr) k) else none
          else bif x.1 == 2 then
              accK b (doEr (docA a b F (Y:Int) z.o) (o13 x)) 0 msg0 (doM (docA a b F (Y:Int) z.o) (o13 x)) z.v (doF (docA a b F (Y:Int) z.o) F Y (o13 x))
                (k .ret [.bool false] (app (accH a b c { z with o := x.2.2.2 } (doF (docA a b F (Y:Int) z.o) F Y (o13 x)) ((doY (docA a b F (Y:Int) z.o) F Y (o13 x):Nat):Int) (doO z.o (o13 x))) (accN a b (doF (docA a b F (Y:Int) z.o) F Y (o13 x)) ((doY (docA a b F (Y:Int) z.o) F Y (o13 x):Nat):Int) (doO z.o (o13 x)) x (doM (docA a b F (Y:Int) z.o) (o13 x)) (msgO msg0 .own) z.v) :: S) (app [(0,9),(0,8),(0,1),(0,3),(0,6),(0,5),(0,4)] wr))
                (LCc0 N [.ptr 0 1 0,.ptr 0 2 0,.ptr 0 3 0,.slice ROpT l .view,.int .i64 m,.int .i64 i'] (accH a b c { z with o := x.2.2.2 } (doF (docA a b F (Y:Int) z.o) F Y (o13 x)) ((doY (docA a b F (Y:Int) z.o) F Y (o13 x):Nat):Int) (doO z.o (o13 x)) :: S) (app [(0,9),(0,8),(0,1),(0,3),(0,6),(0,5),(0,4)] wr) k)
          else accK b (doEr (docA a b F (Y:Int) z.o) (o13 x)) 0 msg0 (doM (docA a b F (Y:Int) z.o) (o13 x)) z.v (doF (docA a b F (Y:Int) z.o) F Y (o13 x))
                (k .ret [.bool false] (app (accH a b c z (doF (docA a b F (Y:Int) z.o) F Y (o13 x)) ((doY (docA a b F (Y:Int) z.o) F Y (o13 x):Nat):Int) (doO z.o (o13 x))) (accN a b (doF (docA a b F (Y:Int) z.o) F Y (o13 x)) ((doY (docA a b F (Y:Int) z.o) F Y (o13 x):Nat):Int) (doO z.o (o13 x)) x (doM (docA a b F (Y:Int) z.o) (o13 x)) (msgO msg0 .own) z.v) :: S) (app [(0,9),(0,8),(0,3),(0,6),(0,5),(0,4)] wr))
                (LCc0 N [.ptr 0 1 0,.ptr 0 2 0,.ptr 0 3 0,.slice ROpT l .view,.int .i64 m,.int .i64 i'] (accH a b c z (doF (docA a b F (Y:Int) z.o) F Y (o13 x)) ((doY (docA a b F (Y:Int) z.o) F Y (o13 x):Nat):Int) (doO z.o (o13 x)) :: S) (app [(0,9),(0,8),(0,3),(0,6),(0,5),(0,4)] wr) k)
        else none) = LCc0 N [.ptr 0 1 0,.ptr 0 2 0,.ptr 0 3 0,.slice ROpT l .view,.int .i64 m,.int .i64 i'] (accH a b c (doZ z (o13 x)) (doF z F Y (o13 x)) ((doY z F Y (o13 x):Nat):Int) (doZ z (o13 x)).o :: S) (app (accW x) wr) k := by
  have hd:docA a b F (Y:Int) z.o = z := by rw [← hi,← hs]; exact h.doc.symm
  have h2 := h.op (o13 x)
  obtain ⟨k1,k2⟩ := doZ_ids z (o13 x)
  have ho := doZ_o z (o13 x)
  rw [hd,h.g13,h.good,idA_tk2,ho]
  have hK := fun E M no ok => accK_ok h2 E M no ok
  rw [k2,hs] at hK
  by_cases e0:x.1 = 0
  · have e:(x.1 == 0) = true := by rw [e0]; rfl
    have t1:doZ z (o13 x) = ptkZ z (opM x) := by unfold doZ; simp only [e,cond_true]
    have t2:doM z (o13 x) = ptkM z (opM x) := by unfold doM; simp only [e,cond_true]
    have t3:doEr z (o13 x) = ptkE z (opM x) := by unfold doEr; simp only [e,cond_true]
    rw [t1] at hK ⊢
    rw [t2,t3,e]
    unfold accW
    rw [e]
    simp only [cond_true]
    rw [hK]
  have n0:(x.1 == 0) = false := by simpa using e0
  have t2:doM z (o13 x) = msg0 := by unfold doM; simp only [n0,cond_false]
  have t3:doEr z (o13 x) = 0 := by unfold doEr; simp only [n0,cond_false]
  rw [t2,t3,n0]
  unfold accW
  rw [n0]
  simp only [cond_true,cond_false]
  by_cases e1:x.1 = 1
  · have e:(x.1 == 1) = true := by rw [e1]; rfl
    have t1:doZ z (o13 x) = pcrZ z x.2.1 := by unfold doZ; simp only [n0,e,cond_true,cond_false]
    rw [t1] at hK ⊢
    rw [e]
    simp only [cond_true]
    rw [hK]
    rfl
  have n1:(x.1 == 1) = false := by simpa using e1
  rw [n1]
  simp only [cond_false]
  by_cases e2:x.1 = 2
  · have e:(x.1 == 2) = true := by rw [e2]; rfl
    have t1:doZ z (o13 x) = { z with o := x.2.2.2 } := by unfold doZ; simp only [n0,n1,e,cond_true,cond_false]
    rw [t1] at hK ⊢
    rw [e]
    simp only [cond_true]
    exact hK _ _ _ _
  have n2:(x.1 == 2) = false := by simpa using e2
  have t1:doZ z (o13 x) = z := by unfold doZ; simp only [n0,n1,n2,cond_false]
  rw [t1] at hK ⊢
  rw [n2]
  simp only [cond_false]
  rw [hK]
theorem acc_loop (l:List ROp) (m:Int) (hm:m = (l.length:Int)) (hl:l.length ≤ maxInt) (a b:Int) (c:List Int) (S:Stack) (k:Ex → List AV → Stack → Wr → Option Res) :
    ∀ (q j:Nat) (z:AcS) (F:List (List Int)) (Y:Nat) (wr:Wr),j + q = l.length → PxInv z F Y → z.id = a → z.sl = b →
      LCc0 (q + 1) [.ptr 0 1 0,.ptr 0 2 0,.ptr 0 3 0,.slice ROpT l .view,.int .i64 m,.int .i64 (j:Int)] (accH a b c z F (Y:Int) z.o :: S) wr k =
        (bif (accS (l.drop j) z F Y).2.isNone then k (.exit 0) [.undef] (accH a b c (accS (l.drop j) z F Y).1.1 (accS (l.drop j) z F Y).1.2.1 (((accS (l.drop j) z F Y).1.2.2:Nat):Int) (accS (l.drop j) z F Y).1.1.o :: S) (app (accWs (l.drop j)) wr)
        else k .ret [.bool true] (app (accH a b c (accS (l.drop j) z F Y).1.1 (accS (l.drop j) z F Y).1.2.1 (((accS (l.drop j) z F Y).1.2.2:Nat):Int) (accS (l.drop j) z F Y).1.1.o) [.cells (opC ((accS (l.drop j) z F Y).2.getD default))] :: S) (app (accWs (l.drop j)) wr)) := by
  intro q
  induction q with
  | zero =>
    intro j z F Y wr hj hI hi hs
    have hd:l.drop j = [] := List.drop_of_length_le (by omega)
    rw [acc_round0,cond_ne (decide_eq_false (by omega)),hd]
    rfl
  | succ q ih =>
    intro j z F Y wr hj hI hi hs
    have hlt:j < l.length := by omega
    have hd:l.drop j = l[j] :: l.drop (j + 1) := List.drop_eq_getElem_cons hlt
    have hx:l[j]? = some l[j] := List.getElem?_eq_getElem hlt
    rw [acc_round0,cond_eq (decide_eq_true (by omega)),at_some hx,Option.bind_some,Int.toNat_natCast,acc_step hI a b hi hs,wrap_next hlt hl,hd]
    generalize l[j] = x at hx
    cases hsm:smallM (opM x) with
    | false =>
      have e1:accS (x :: l.drop (j + 1)) z F Y = ((z,F,Y),some x) := by simp only [accS,hsm,cond_false]
      have e2:accWs (x :: l.drop (j + 1)) = [(0,4)] := by simp only [accWs,hsm,cond_false]
      rw [e1,e2]; rfl
    | true =>
      have e1:accS (x :: l.drop (j + 1)) z F Y = accS (l.drop (j + 1)) (doZ z (o13 x)) (doF z F Y (o13 x)) (doY z F Y (o13 x)) := by simp only [accS,hsm,cond_true]
      have e2:accWs (x :: l.drop (j + 1)) = app (accWs (l.drop (j + 1))) (accW x) := by simp only [accWs,hsm,cond_true]
      obtain ⟨k1,k2⟩ := doZ_ids z (o13 x)
      have := ih (j + 1) (doZ z (o13 x)) (doF z F Y (o13 x)) (doY z F Y (o13 x)) (app (accW x) wr) (by omega) (hI.op _) (k1.trans hi) (k2.trans hs)
      rw [e1,e2,show app (app (accWs (l.drop (j + 1))) (accW x)) wr = app (accWs (l.drop (j + 1))) (app (accW x) wr) by simp only [app_eq,List.append_assoc]]
      exact this
theorem acc_loops:∀ x ∈ funLoops PR n_law_PaxosAccepts,∀ L,lfCc0 x.1 = some L → LoopOK (ntm PR n_law_PaxosAccepts) (fun fr H wr k => code PR (cfE ECc) cfgPx lfCc0 (cfgPx.live n_law_PaxosAccepts) x.2 (2 * x.1) fr H wr k) L := by
  refine one_loop (p := 2042) rfl (by kernel_rfl) (loopT_ok (by decide) fun vs H wr ex vs' H' w hv ha hh => ?_)
  unfold accF at hv
  split at hv
  · rename_i a m i h S
    split at hv
    · rename_i l x h1 h2
      have e1 := opsOf_some h1
      obtain ⟨hc,hv2⟩ := Tr.br_no hv
      clear hv
      simp only [Bool.and_eq_true,decide_eq_true_eq] at hc
      obtain ⟨hx,hm,rfl⟩ := hc
      obtain ⟨e2,hgr⟩ := accOf_some (x := x.1) (by rw [← hx]; exact h2)
      subst e1; subst e2
      simp only [okAVs,okAV] at ha
      have hl:l.length ≤ maxInt := ha.2.2.2.1.1
      have hF := hh 0 3 _ rfl
      simp only [okAVs,okAV] at hF
      have hI := g13_inv hgr (fun y hy => (hF.2.2.1.2 y hy).2) x.1.1.1 x.1.1.2.1 x.1.2.2.2.2.2.2.2
      have hy:((x.1.2.2.2.2.2.2.1.toNat:Nat):Int) = x.1.2.2.2.2.2.2.1 := by have := (g13_iff.1 hgr).1; omega
      refine ⟨l.length + 1,fun k => ?_⟩
      have := acc_loop l m hm hl x.1.1.1 x.1.1.2.1 x.1.1.2.2 S k l.length 0 (accZ x.1) x.1.2.2.2.2.2.1 x.1.2.2.2.2.2.2.1.toNat wr (by omega) hI rfl rfl
      rw [List.drop_zero,hy] at this
      refine this.trans ?_
      rcases Tr.br_or hv2 with ⟨he,h4⟩ | ⟨he,h4⟩
      · cases h4; rw [he]; rfl
      · cases h4; rw [he]; rfl
    · cases hv
  · cases hv
def accX (c:List Int) (a b:Int):AccX := ((a,b,c),(nwB c,scanN (c.take 65536),false),(a,b,nacV b (nwB c)),(a,b,scanL (c.take 65536),((scanL (c.take 65536)).length:Int),false))
theorem acc_eq (a b:Int) (c:List Int) (l:List ROp):body PR (cfE ECc) cfgPx lfCc0 n_law_PaxosAccepts [.agg [.int .i64 a,.int .i64 b,.slice (.int .u8) c .view],.slice ROpT l .view] [] some =
    (bif decide ((c.length:Int) > 3000) then some (.bool true,[],[]) else bif decide ((l.length:Int) > 50) then some (.bool true,[],[])
    else bif decide ((nwB c).length ≤ 65536) then
      bif placedB a b then bif !placedB a b then some (.bool false,[],[]) else
        bif accChk (accX c a b) && (decide ((l.length:Int) = (l.length:Int)) && decide ((0:Int) = 0)) then
          bif (accS l (accZ (accX c a b)) (scanL (c.take 65536)) ((scanL (c.take 65536)).length:Int).toNat).2.isNone then some (.bool true,outer (app (accWs l) [(0,3)]),[]) else some (.bool true,outer (app (accWs l) [(0,3)]),[]) else none
      else bif !placedB a b then some (.bool true,[],[]) else some (.bool false,[],[])
    else none) := by kernel_rfl
theorem pax_accepts (a b:Int) (c:List Int) (hc:isBytes c) (l:List ROp):body PR (cfE ECc) cfgPx lfCc0 n_law_PaxosAccepts [.agg [.int .i64 a,.int .i64 b,.slice (.int .u8) c .view],.slice ROpT l .view] [] some = some (.bool true,[],[]) := by
  rw [acc_eq]
  have hI := Inv.new hc
  have hf:scanL (nwB c) = scanL (c.take 65536) := hI.frames
  have hsL := inv_smallL2 hI
  have hlen := hI.len
  rw [decide_eq_true hlen,outer_app0 _ _ (accWs_all0 l)]
  have hC:accChk (accX c a b) = true := by
    unfold accChk
    have hcat:nwB c = catF (scanL (c.take 65536)) := hI.cat
    have hsy:scanN (c.take 65536) = ((catF ((scanL (c.take 65536)).take (scanL (c.take 65536)).length)).length:Int) := hI.syn
    have hg:g13 (scanL (c.take 65536)) ((scanL (c.take 65536)).length:Int) = true := g13_iff.2 ⟨by omega,Int.le_refl _,hsL,by rw [← hcat]; exact hlen⟩
    have hv:nacV b (nwB c) = (accZ (accX c a b)).v := by
      show fvR b (scanL (nwB c)) av0 = fvR b (scanL (c.take 65536)) av0
      rw [hf]
    have hb:(accX c a b).2.1.1 = (accZ (accX c a b)).b := hcat
    have hn:(accX c a b).2.1.2.1 = (accZ (accX c a b)).n := by
      show scanN (c.take 65536) = ((catF ((scanL (c.take 65536)).take ((scanL (c.take 65536)).length:Int).toNat)).length:Int)
      rw [Int.toNat_natCast,← hsy]
    have h0:(accX c a b).2.2.1.2.2 = (accZ (accX c a b)).v := hv
    have ho:(accX c a b).2.1.2.2 = (accZ (accX c a b)).o := rfl
    rw [h0,hb,hn,ho]
    have hg2:g13 (accX c a b).2.2.2.2.2.1 (accX c a b).2.2.2.2.2.2.1 = true := hg
    rw [hg2]
    show (true && ((decide (a = a) && (decide (b = b) && (decide (a = a) && decide (b = b)))) && _)) = true
    simp
  rw [hC,decide_eq_true rfl,decide_eq_true rfl]
  cases decide ((c.length:Int) > 3000) with
  | true => rfl
  | false =>
  cases decide ((l.length:Int) > 50) with
  | true => rfl
  | false =>
  cases placedB a b with
  | false => rfl
  | true => cases (accS l (accZ (accX c a b)) (scanL (c.take 65536)) ((scanL (c.take 65536)).length:Int).toNat).2.isNone <;> rfl
theorem sz_bytes3 {b:List Int} (h:Sz (.slice (.int .u8)) b):isBytes b := fun x hx => by
  have := h.2 x hx
  simpa [Sz,IntKind.min,IntKind.max,IntKind.signed,IntKind.bits] using this
end Go.Crc
