/- Contracts of functions of this program. Conditions: none. -/
import Derived.Test.YtdnghpfmobnjlaaGreatWn
import Derived.Test.YtdnghpfmobnjlaaGreatWi
set_option linter.unusedVariables false
set_option linter.unusedSimpArgs false
/- The document's acceptors: calls. Conditions: none. A text of this seat's numbers. -/
set_option linter.unusedVariables false
set_option linter.unusedSimpArgs false
set_option maxRecDepth 100000
namespace Go.Crc
open Go.Vm Go.Pack Go.Rec Go.RowKit
def dfr (v:AcV):List Int := numS v.pr ++ numS v.ac ++ (numS ((acC v).length:Int) ++ acC v)
theorem dfr_ok {sl:Int} {v:AcV} (h:GV sl v):dfr v = acB v := by
  have h1 := h.ac0
  have h2 := h.le
  have h3 := h.pr1
  have hl := acC_len v
  rw [acB_eq h]
  unfold dfr
  rw [numS_mc ⟨by omega,h3⟩,numS_mc ⟨h1,by omega⟩,numS_mc ⟨by omega,by simp only [MC]; omega⟩]
  simp only [List.append_assoc]
theorem dfr_len (v:AcV):(dfr v).length ≤ 10000 := by
  have hl := acC_len v
  have h1 := numS_len9' v.pr
  have h2 := numS_len9' v.ac
  have h3 := numS_len9' ((acC v).length:Int)
  unfold dfr
  simp only [List.length_append]
  omega
def dfrC:List AV → Tr AV
  | [.agg [.int .i64 pr,.int .i64 ac,.int .i64 ct,.slice (.int .i64) cs .view,.slice (.slice (.int .i64)) ch .view]] => .yes (.str (dfr ⟨pr,ac,ct,cs,ch⟩))
  | _ => .no
theorem dfr_con:Con PR A n_ref13_Frame (pureC dfrC) := by
  refine pure_con0 (cfg := cfgPx) [terE,rnumE,rtextE] mixed (by kernel_rfl) (by kernel_rfl) (by kernel_rfl) fun args v hv ha S => ?_
  unfold dfrC at hv
  split at hv
  · rename_i pr ac ct cs ch
    cases hv
    have h:body PR (cfE (P := PR) (A := A) [terE,rnumE,rtextE]) cfgPx lf0 n_ref13_Frame [avA ⟨pr,ac,ct,cs,ch⟩] S some =
      (bif decide ((numS pr).length + (numS ac).length ≤ 9223372036854775807) then bif decide ((acC ⟨pr,ac,ct,cs,ch⟩).length ≤ 140737488355328) then
        bif decide ((numS pr ++ numS ac).length + (numS ((acC ⟨pr,ac,ct,cs,ch⟩).length:Int) ++ acC ⟨pr,ac,ct,cs,ch⟩).length ≤ 9223372036854775807) then some (.str (dfr ⟨pr,ac,ct,cs,ch⟩),[],S) else none else none else none) := by kernel_rfl
    have hl := acC_len ⟨pr,ac,ct,cs,ch⟩
    have h1 := numS_len9' pr
    have h2 := numS_len9' ac
    have h3 := numS_len9' ((acC ⟨pr,ac,ct,cs,ch⟩).length:Int)
    refine h.trans ?_
    rw [decide_eq_true (show (numS pr).length + (numS ac).length ≤ 9223372036854775807 by omega),decide_eq_true (show (acC ⟨pr,ac,ct,cs,ch⟩).length ≤ 140737488355328 by omega),decide_eq_true (show (numS pr ++ numS ac).length + (numS ((acC ⟨pr,ac,ct,cs,ch⟩).length:Int) ++ acC ⟨pr,ac,ct,cs,ch⟩).length ≤ 9223372036854775807 by simp only [List.length_append]; omega)]
    rfl
  · cases hv
def dfrE:Ent PR A := ⟨n_ref13_Frame,_,dfr_con⟩
noncomputable abbrev ET13:List (Ent PR A) := [mrrE,of13E,dfrE,dapE]
def t13No (id sl:Int) (F:List (List Int)) (y:Int) (f:Bool) (e:Int) (S:Stack):Option Res := some (.tuple [dAc id sl F y f,msgA msg0,.int .i64 e],[],S)
def t13End (id sl:Int) (F:List (List Int)) (y:Int) (f:Bool) (out:Msg) (S:Stack):Option Res :=
  bif !f then some (.tuple [dAc id sl F (F.length:Int) f,msgA out,.int .i64 0],[],S) else some (.tuple [dAc id sl F y f,msgA out,.int .i64 0],[],S)
def t13W (id sl:Int) (F:List (List Int)) (y:Int) (f:Bool) (x Y:AcV) (out:Msg) (S:Stack):Option Res :=
  bif dfr x != dfr Y then bif smallL F && decide ((dfr Y).length ≤ 100000000) then bif appOK (catF F) (dfr Y) f then t13End id sl (F ++ [dfr Y]) y f out S
      else bif (bif f then 81 else 80:Int) != 0 then t13No id sl F y f (bif f then 81 else 80) S else t13End id sl F y f out S else none
  else t13End id sl F y f out S
def t13T (id sl:Int) (F:List (List Int)) (y:Int) (f:Bool) (m:Msg) (S:Stack):Option Res :=
  bif !rightM m then t13No id sl F y f 1 S else bif m.t != id then t13No id sl F y f 1 S else bif m.te != sl then t13No id sl F y f 1 S else
    bif smR F then bif decide (m.ba < (fvR sl F av0).pr) then t13No id sl F y f 130 S
      else bif m.k == 9 then t13W id sl F y f (fvR sl F av0) ⟨m.ba,m.ba,m.ct,m.cs,m.ch⟩ { msg0 with k := 10,f := id,t := m.f,te := sl,ba := m.ba,is := true } S
      else t13W id sl F y f (fvR sl F av0) ⟨m.ba,(fvR sl F av0).ac,(fvR sl F av0).ct,(fvR sl F av0).cs,(fvR sl F av0).ch⟩ { msg0 with k := 8,f := id,t := m.f,te := sl,ba := m.ba,ol := (fvR sl F av0).ac,ct := (fvR sl F av0).ct,cs := (fvR sl F av0).cs,ch := (fvR sl F av0).ch } S
    else none
theorem t13_eq (id sl:Int) (F:List (List Int)) (y:Int) (f:Bool) (m:Msg) (S:Stack):body PR (cfE ET13) cfgPx lf0 n_ref13_Take [dAc id sl F y f,msgA m] S some =
    (bif m.k != 7 then bif m.k != 9 then t13No id sl F y f 1 S else t13T id sl F y f m S else t13T id sl F y f m S) := by kernel_rfl
def docA (id sl:Int) (F:List (List Int)) (y:Int) (f:Bool):AcS := ⟨id,sl,fvR sl F av0,catF F,((catF (F.take y.toNat)).length:Int),f⟩
theorem smB_all2:∀ {l:List (List Int)},(∀ x ∈ l,x.length ≤ 65536) → smB l = true
  | [],_ => rfl
  | x :: r,h => by
    simp only [smB,Bool.and_eq_true,decide_eq_true_eq]
    exact ⟨h x (by simp),smB_all2 fun y hy => h y (by simp [hy])⟩
theorem inv_smallL2 {b:List Int} {n:Int} {l:List (List Int)} {y:Nat} (h:Inv b n l y):smallL l = true := by
  unfold Crc.smallL
  have h1 := catF_count l
  have h2 := h.len
  rw [h.cat] at h2
  rw [smB_all2 fun x hx => (h.small x hx).1,decide_eq_true (show l.length ≤ 20000 by omega)]
  rfl
theorem smallL_smR2 {F:List (List Int)} (h:smallL F = true):smR F = true := by
  unfold smallL at h
  simp only [Bool.and_eq_true,decide_eq_true_eq] at h
  unfold smR
  rw [decide_eq_true h.2]
  simp only [Bool.true_and,List.all_eq_true,decide_eq_true_eq]
  intro x hx
  have := smB_mem h.1 x hx
  omega
theorem dfr_ne {sl:Int} {x y:AcV} (h:GV sl x) (k:GV sl y):(dfr x != dfr y) = (y.pr != x.pr || (y.ac != x.ac || !(y.ct == x.ct && (y.cs == x.cs && y.ch == x.ch)))) := by
  rw [dfr_ok h,dfr_ok k]
  by_cases e:x = y
  · rw [e]; simp
  · have h1:(acB x != acB y) = true := bne_iff_ne.2 fun h2 => e (acB_inj h k h2)
    rw [h1]
    symm
    cases hb:(y.pr != x.pr || (y.ac != x.ac || !(y.ct == x.ct && (y.cs == x.cs && y.ch == x.ch)))) with
    | true => rfl
    | false =>
      exfalso
      simp only [Bool.or_eq_false_iff,bne_eq_false_iff_eq,Bool.not_eq_false',Bool.and_eq_true,beq_iff_eq] at hb
      obtain ⟨a1,a2,a3,a4,a5⟩ := hb
      apply e
      obtain ⟨p1,p2,p3,p4,p5⟩ := x
      obtain ⟨q1,q2,q3,q4,q5⟩ := y
      simp only at a1 a2 a3 a4 a5
      subst a1 a2 a3 a4 a5
      rfl
def t13V (id sl:Int) (F:List (List Int)) (Y:Nat) (f:Bool) (m:Msg):AV :=
  .tuple [dAc id sl (ptF (docA id sl F (Y:Int) f) F m) ((ptY (docA id sl F (Y:Int) f) F Y m:Nat):Int) f,msgA (ptkM (docA id sl F (Y:Int) f) m),.int .i64 (ptkE (docA id sl F (Y:Int) f) m)]
theorem t13W_res {id sl:Int} {F:List (List Int)} {Y:Nat} {f:Bool} {m:Msg} (S:Stack) (hI:PxInv (docA id sl F (Y:Int) f) F Y) (hm:tkMine (docA id sl F (Y:Int) f) m = true) (hd:¬ m.ba < (fvR sl F av0).pr) :
    t13W id sl F (Y:Int) f (fvR sl F av0) (tkX (docA id sl F (Y:Int) f) m) (tkOut (docA id sl F (Y:Int) f) m) S = some (t13V id sl F Y f m,[],S) := by
  have hx:GV sl (tkX (docA id sl F (Y:Int) f) m) := tk_gv hI.gv hm hd
  have hg:GV sl (fvR sl F av0) := hI.gv
  have hlen := dfr_len (tkX (docA id sl F (Y:Int) f) m)
  have hgo:ptGo (docA id sl F (Y:Int) f) m = true := by
    unfold ptGo
    rw [hm,Bool.true_and,Bool.not_eq_true']
    exact decide_eq_false hd
  have hdd:decide (m.ba < (docA id sl F (Y:Int) f).v.pr) = false := decide_eq_false hd
  unfold t13W t13V ptY ptF ptkM ptkE
  rw [dfr_ne hg hx,inv_smallL2 hI.st,decide_eq_true (show (dfr (tkX (docA id sl F (Y:Int) f) m)).length ≤ 100000000 by omega),hgo,hm,hdd,dfr_ok hx]
  have hn:((tkX (docA id sl F (Y:Int) f) m).pr != (fvR sl F av0).pr || ((tkX (docA id sl F (Y:Int) f) m).ac != (fvR sl F av0).ac || !((tkX (docA id sl F (Y:Int) f) m).ct == (fvR sl F av0).ct && ((tkX (docA id sl F (Y:Int) f) m).cs == (fvR sl F av0).cs && (tkX (docA id sl F (Y:Int) f) m).ch == (fvR sl F av0).ch)))) = tkNew (docA id sl F (Y:Int) f) m := rfl
  rw [hn]
  have hb:(docA id sl F (Y:Int) f).b = catF F := rfl
  have ho:(docA id sl F (Y:Int) f).o = f := rfl
  unfold tkE0 wrE
  rw [hb,ho]
  cases tkNew (docA id sl F (Y:Int) f) m with
  | false => unfold t13End; cases f <;> rfl
  | true =>
  cases appOK (catF F) (acB (tkX (docA id sl F (Y:Int) f) m)) f with
  | true => unfold t13End; cases f <;> rfl
  | false => cases f <;> rfl
theorem t13_res {id sl:Int} {F:List (List Int)} {Y:Nat} {f:Bool} {m:Msg} (S:Stack) (hI:PxInv (docA id sl F (Y:Int) f) F Y):body PR (cfE ET13) cfgPx lf0 n_ref13_Take [dAc id sl F (Y:Int) f,msgA m] S some = some (t13V id sl F Y f m,[],S) := by
  rw [t13_eq]
  have hmi:tkMine (docA id sl F (Y:Int) f) m = ((m.k == 7 || m.k == 9) && (rightM m && (m.t == id && m.te == sl))) := rfl
  have no:tkMine (docA id sl F (Y:Int) f) m = false → t13No id sl F (Y:Int) f 1 S = some (t13V id sl F Y f m,[],S) := by
    intro h
    unfold t13No t13V ptY ptF ptkM ptkE ptGo
    rw [h]
    rfl
  have hT:(m.k == 7 || m.k == 9) = true → t13T id sl F (Y:Int) f m S = some (t13V id sl F Y f m,[],S) := by
    intro hk
    unfold t13T
    rw [bne,bne]
    cases hr:rightM m with
    | false => exact no (by rw [hmi,hr,hk]; rfl)
    | true =>
    cases h1:m.t == id with
    | false => exact no (by rw [hmi,hr,h1,hk]; rfl)
    | true =>
    cases h2:m.te == sl with
    | false => exact no (by rw [hmi,hr,h1,h2,hk]; rfl)
    | true =>
    have hm:tkMine (docA id sl F (Y:Int) f) m = true := by rw [hmi,hr,h1,h2,hk]; rfl
    rw [smallL_smR2 (inv_smallL2 hI.st)]
    simp only [Bool.not_true,cond_false,cond_true]
    cases hd:decide (m.ba < (fvR sl F av0).pr) with
    | true =>
      have hdd:decide (m.ba < (docA id sl F (Y:Int) f).v.pr) = true := hd
      unfold t13No t13V ptY ptF ptkM ptkE ptGo
      rw [hm,hdd]
      rfl
    | false =>
      have h := t13W_res S hI hm (of_decide_eq_false hd)
      refine Eq.trans ?_ h
      unfold tkX tkOut
      cases m.k == 9 <;> rfl
  rw [bne,bne]
  cases h7:m.k == 7 with
  | true => exact hT (by rw [h7]; rfl)
  | false =>
  cases h9:m.k == 9 with
  | true => exact hT (by rw [h7,h9]; rfl)
  | false => exact no (by rw [hmi,h7,h9]; rfl)
end Go.Crc
/- The document's acceptors: calls of scripts. Conditions: none. A text of this seat's numbers. -/
set_option linter.unusedVariables false
set_option linter.unusedSimpArgs false
set_option maxRecDepth 100000
namespace Go.Crc
open Go.Vm Go.Pack Go.Rec Go.RowKit
def g13 (F:List (List Int)) (y:Int):Bool := decide (0 ≤ y) && (decide (y ≤ (F.length:Int)) && (smallL F && decide ((catF F).length ≤ 65536)))
theorem g13_iff {F:List (List Int)} {y:Int}:g13 F y = true ↔ 0 ≤ y ∧ y ≤ (F.length:Int) ∧ smallL F = true ∧ (catF F).length ≤ 65536 := by
  unfold g13
  simp only [Bool.and_eq_true,decide_eq_true_eq]
theorem g13_inv {F:List (List Int)} {y:Int} (h:g13 F y = true) (hb:∀ x ∈ F,isBytes x) (id sl:Int) (f:Bool):PxInv (docA id sl F y f) F y.toNat := by
  obtain ⟨h1,h2,h3,h4⟩ := g13_iff.1 h
  unfold smallL at h3
  simp only [Bool.and_eq_true,decide_eq_true_eq] at h3
  exact ⟨⟨rfl,fun x hx => ⟨smB_mem h3.1 x hx,hb x hx⟩,h4,by omega,rfl⟩,rfl⟩
theorem PxInv.g13 {z:AcS} {F:List (List Int)} {Y:Nat} (h:PxInv z F Y):g13 F (Y:Int) = true := by
  have h1 := h.st.le
  have h2 := h.st.len
  rw [h.st.cat] at h2
  exact g13_iff.2 ⟨by omega,by omega,inv_smallL2 h.st,h2⟩
theorem PxInv.doc {z:AcS} {F:List (List Int)} {Y:Nat} (h:PxInv z F Y):z = docA z.id z.sl F (Y:Int) z.o := by
  obtain ⟨id,sl,v,b,n,o⟩ := z
  have h1 := h.rd
  have h4 := h.st.cat
  have h5 := h.st.syn
  simp only at h1 h4 h5
  unfold docA
  rw [Int.toNat_natCast]
  simp only
  rw [h4,h5,h1]
def tk13C:List AV → Tr AV
  | [.agg [.int .i64 id,.int .i64 sl,.slice .str F .view,.int .i64 y,.bool f],.agg cs] => match msgOf cs with
    | some m => .br (g13 F y) (.yes (t13V id sl F y.toNat f m)) .no
    | none => .no
  | _ => .no
theorem tk13_ok:Con PR A n_ref13_Take (pureC tk13C) := by
  refine pure_con0 (cfg := cfgPx) ET13 mixed (by kernel_rfl) (by kernel_rfl) (by kernel_rfl) fun args v hv ha S => ?_
  unfold tk13C at hv
  split at hv
  · rename_i id sl F y f cs
    split at hv
    · rename_i m hmm
      have := msgOf_some hmm
      subst this
      obtain ⟨hc,hv2⟩ := Tr.br_no hv
      cases hv2
      simp only [okAVs,okAV] at ha
      have hI := g13_inv hc (fun x hx => (ha.1.2.2.1.2 x hx).2) id sl f
      have hy:((y.toNat:Nat):Int) = y := by have := (g13_iff.1 hc).1; omega
      have h := t13_res (m := m) S (Y := y.toNat) (by rw [hy]; exact hI)
      rw [hy] at h
      exact h
    · cases hv
  · cases hv
def tk13E:Ent PR A := ⟨n_ref13_Take,_,tk13_ok⟩
structure O13 where
  kd:Int
  N:Int
  m:Msg
  w:Bool
abbrev o13C (x:O13):List AV := .int .i64 x.kd :: .int .i64 x.N :: app (msgC x.m) [.bool x.w]
def o13Of:List AV → Option O13
  | [.int .i64 kd,.int .i64 N,.int .i64 k,.int .i64 f,.int .i64 t,.int .i64 te,.int .i64 sh,.int .i64 nu,.bool is,.int .i64 rc,.int .i64 rn,.slice (.int .i64) rt .view,.str rd,.int .i64 e1,.int .i64 e2,.slice (.int .i64) e3 .view,.int .i64 e4,.int .i64 e5,.int .i64 e6,.int .i64 ba,.int .i64 ol,.int .i64 ct,.slice (.int .i64) cs .view,.slice (.slice (.int .i64)) ch .view,.bool w] => some ⟨kd,N,⟨k,f,t,te,sh,nu,is,rc,rn,rt,rd,(e1,e2,e3,e4,e5,e6),ba,ol,ct,cs,ch⟩,w⟩
  | _ => none
theorem o13Of_some {cs:List AV} {x:O13} (h:o13Of cs = some x):cs = o13C x := by
  unfold o13Of at h
  split at h
  · cases h; rfl
  · cases h
def doF (z:AcS) (F:List (List Int)) (Y:Nat) (x:O13):List (List Int) := bif x.kd == 0 then ptF z F x.m else bif x.kd == 1 then F.take (dcN F (Y:Int) x.N) else F
def doY (z:AcS) (F:List (List Int)) (Y:Nat) (x:O13):Nat := bif x.kd == 0 then ptY z F Y x.m else bif x.kd == 1 then dcN F (Y:Int) x.N else Y
def doO (f:Bool) (x:O13):Bool := bif x.kd == 1 then false else bif x.kd == 2 then x.w else f
def doZ (z:AcS) (x:O13):AcS := bif x.kd == 0 then ptkZ z x.m else bif x.kd == 1 then pcrZ z x.N else bif x.kd == 2 then { z with o := x.w } else z
def doM (z:AcS) (x:O13):Msg := bif x.kd == 0 then ptkM z x.m else msg0
def doEr (z:AcS) (x:O13):Int := bif x.kd == 0 then ptkE z x.m else 0
abbrev EDo13:List (Ent PR A) := [tk13E,dcrE]
def do13V (id sl:Int) (F:List (List Int)) (Y:Nat) (f:Bool) (x:O13):AV :=
  .tuple [dAc id sl (doF (docA id sl F (Y:Int) f) F Y x) ((doY (docA id sl F (Y:Int) f) F Y x:Nat):Int) (doO f x),msgA (doM (docA id sl F (Y:Int) f) x),.int .i64 (doEr (docA id sl F (Y:Int) f) x)]
def do13R (id sl:Int) (F:List (List Int)) (y:Int) (f:Bool) (x:O13) (S:Stack):Option Res :=
  bif x.kd == 0 then bif g13 F y then some (t13V id sl F y.toNat f x.m,[],S) else none
  else bif x.kd == 1 then bif decide (0 ≤ y) && (decide (y ≤ (F.length:Int)) && smallL F) then some (.tuple [dAc id sl (F.take (dcN F y x.N)) ((dcN F y x.N:Nat):Int) false,msgA msg0,.int .i64 0],[],S) else none
  else bif x.kd == 2 then some (.tuple [dAc id sl F y x.w,msgA msg0,.int .i64 0],[],S)
  else some (.tuple [dAc id sl F y f,msgA msg0,.int .i64 0],[],S)
theorem do13_eq (id sl:Int) (F:List (List Int)) (y:Int) (f:Bool) (x:O13) (S:Stack):body PR (cfE EDo13) cfgPx lf0 n_ref13_Do [dAc id sl F y f,.agg (o13C x)] S some = do13R id sl F y f x S := by kernel_rfl
theorem do13_res {id sl:Int} {F:List (List Int)} {Y:Nat} {f:Bool} (h:g13 F (Y:Int) = true) (x:O13) (S:Stack):do13R id sl F (Y:Int) f x S = some (do13V id sl F Y f x,[],S) := by
  obtain ⟨h1,h2,h3,h4⟩ := g13_iff.1 h
  unfold do13R do13V t13V doF doY doO doM doEr
  rw [h,h3,decide_eq_true h1,decide_eq_true h2,Int.toNat_natCast]
  by_cases e0:x.kd = 0
  · rw [e0]; rfl
  have n0:(x.kd == 0) = false := by simpa using e0
  rw [n0]
  by_cases e1:x.kd = 1
  · rw [e1]; rfl
  have n1:(x.kd == 1) = false := by simpa using e1
  rw [n1]
  cases x.kd == 2 <;> rfl
def do13C:List AV → Tr AV
  | [.agg [.int .i64 id,.int .i64 sl,.slice .str F .view,.int .i64 y,.bool f],.agg oc] => match o13Of oc with
    | some x => .br (g13 F y) (.yes (do13V id sl F y.toNat f x)) .no
    | none => .no
  | _ => .no
theorem do13_ok:Con PR A n_ref13_Do (pureC do13C) := by
  refine pure_con0 (cfg := cfgPx) EDo13 mixed (by kernel_rfl) (by kernel_rfl) (by kernel_rfl) fun args v hv ha S => ?_
  unfold do13C at hv
  split at hv
  · rename_i id sl F y f oc
    split at hv
    · rename_i x hm
      have := o13Of_some hm
      subst this
      obtain ⟨hc,hv2⟩ := Tr.br_no hv
      cases hv2
      have hy:((y.toNat:Nat):Int) = y := by have := (g13_iff.1 hc).1; omega
      have h := do13_res (id := id) (sl := sl) (F := F) (Y := y.toNat) (f := f) (by rw [hy]; exact hc) x S
      rw [hy] at h
      exact (do13_eq id sl F y f x S).trans h
    · cases hv
  · cases hv
def do13E:Ent PR A := ⟨n_ref13_Do,_,do13_ok⟩
theorem PxInv.op {z:AcS} {F:List (List Int)} {Y:Nat} (h:PxInv z F Y) (x:O13):PxInv (doZ z x) (doF z F Y x) (doY z F Y x) := by
  unfold doZ doF doY
  cases x.kd == 0 with
  | true => exact h.tk x.m
  | false =>
  cases x.kd == 1 with
  | true => exact h.cs x.N
  | false =>
  cases x.kd == 2 with
  | true => exact h.off x.w
  | false => exact h
theorem doZ_o (z:AcS) (x:O13):(doZ z x).o = doO z.o x := by
  unfold doZ doO
  by_cases e0:x.kd = 0
  · rw [e0]; exact ptkZ_o z x.m
  have n0:(x.kd == 0) = false := by simpa using e0
  rw [n0]
  cases x.kd == 1 with
  | true => rfl
  | false => cases x.kd == 2 <;> rfl
theorem doZ_ids (z:AcS) (x:O13):(doZ z x).id = z.id ∧ (doZ z x).sl = z.sl := by
  unfold doZ
  cases x.kd == 0 with
  | true => exact ptkZ_ids z x.m
  | false =>
  cases x.kd == 1 with
  | true => exact ⟨rfl,rfl⟩
  | false => cases x.kd == 2 <;> exact ⟨rfl,rfl⟩
end Go.Crc
