/- Contracts of functions of this program. Conditions: none. -/
import Derived.Test.YtdnghpfmobnjlaaGreatWm
import Derived.Test.YtdnghpfmobnjlaaGreatVp
set_option linter.unusedVariables false
set_option linter.unusedSimpArgs false
set_option maxRecDepth 100000
namespace Go.Crc
open Go.Vm Go.Pack Go.Rec Go.RowKit
abbrev Cf:=Int × List Int × List (List Int)
structure WS where
  a0:AcS
  a1:AcS
  a2:AcS
  p0:PrS
  p1:PrS
  p2:PrS
  u0:Cf
  u1:Cf
  u2:Cf
abbrev wHd (w:List MsI) (lv:Lv):Ob:=.cells [.row [.ptr 0 2 0,.ptr 0 8 0,.ptr 0 14 0] .own,.row [.ptr 0 6 0,.ptr 0 12 0,.ptr 0 18 0] .own,.slice MsT w lv]
abbrev wOb (j:Nat) (a:AcS) (p:PrS) (u:Cf):List Ob:=[astO a.b a.n a.o,acOj j a.id a.sl a.v,coOb u.1 u.2.1 u.2.2,.map p.pm,.map p.am,.cells (prCj (j + 3) (j + 4) p)]
abbrev wObs (w:List MsI) (lv:Lv) (x:WS):List Ob:=wHd w lv :: app (wOb 1 x.a0 x.p0 x.u0) (app (wOb 7 x.a1 x.p1 x.u1) (wOb 13 x.a2 x.p2 x.u2))
noncomputable def EBg:List (Ent PR A):=[stNwE,napE,lcfE,npE]
noncomputable abbrev LBg (lf:Nat → Option LoopSum) (N:Nat):=LC PR (cfE EBg) cfgPx lf n_law_begun 0 58 [2,10] [0,1,2] N
def ac0 (i:Int):AcS:=⟨i,2,av0,[],0,false⟩
def pr0 (i:Int):PrS:=newP (3 + i) 2 [0,1,2] 2 [0] [[i]]
def ws0:WS:=⟨ac0 0,ac0 1,ac0 2,pr0 0,pr0 1,pr0 2,(2,[0],[[0]]),(2,[0],[[1]]),(2,[0],[[2]])⟩
abbrev bgS0:List Ob:=[.cells [.row [] .own,.row [] .own,.slice MsT [] .own]]
theorem bg_rounds (lf:Nat → Option LoopSum) (S:Stack) (wr:Wr) (N:Nat) (k:Ex → List AV → Stack → Wr → Option Res):LBg lf (N + 4) [.ptr 0 0 0,.int .i64 0] (bgS0 :: S) wr k =
    k (.exit 0) [.undef,.undef,.ptr 0 0 0] (wObs [] .own ws0 :: S) (app [(0,0),(0,0),(0,0),(0,0),(0,0),(0,0)] wr):=by kernel_rfl
def lfBg:Nat → Option LoopSum:=lfOf [(58,loopT [2,10] [0,1,2] fun vs H=>match vs,H with
  | [.ptr 0 0 0,.int .i64 i],[.cells [.row [] .own,.row [] .own,.slice (.pair (.int .i64) (.pair (.int .i64) (.pair (.int .i64) (.pair (.int .i64) (.pair (.int .i64) (.pair (.int .i64) (.pair .bool (.pair (.pair (.pair (.int .i64) (.int .i64)) (.pair (.slice (.int .i64)) .str)) (.pair (.pair (.int .i64) (.pair (.int .i64) (.pair (.slice (.int .i64)) (.pair (.int .i64) (.pair (.int .i64) (.int .i64)))))) (.pair (.int .i64) (.pair (.int .i64) (.pair (.int .i64) (.pair (.slice (.int .i64)) (.slice (.slice (.int .i64)))))))))))))))) [] .own]] :: S=>.br (decide (i = 0)) (.yes (.exit 0,[.undef,.undef,.ptr 0 0 0],wObs [] .own ws0 :: S,[(0,0),(0,0),(0,0),(0,0),(0,0),(0,0)])) .no
  | _,_=>.no)]
theorem bg_loops:∀ x ∈ funLoops PR n_law_begun,∀ L,lfBg x.1 = some L → LoopOK (ntm PR n_law_begun) (fun fr H wr k=>code PR (cfE EBg) cfgPx lfBg (cfgPx.live n_law_begun) x.2 (2 * x.1) fr H wr k) L:=by
  refine one_loop (p:=58) rfl (by kernel_rfl) (loopT_ok (by decide) fun vs H wr ex vs' H' w hv ha hh=>?_)
  split at hv
  · rename_i i S
    obtain ⟨hc,hv2⟩:=Tr.br_no hv
    cases of_decide_eq_true hc
    cases hv2
    exact ⟨4,fun k=>bg_rounds lfBg S wr 0 k⟩
  · cases hv
def bgF:List AV → Stack → Tr Res
  | [],[] :: S=>.yes (.tuple [.ptr 0 0 0,.bool true],[],wObs [] .own ws0 :: S)
  | _,_=>.no
theorem bg_ok:Con PR A n_law_begun (shapeC bgF):=by
  refine shapeC_ok fun args S res hv=>?_
  unfold bgF at hv
  split at hv
  · rename_i S
    cases hv
    have h:body PR (cfE EBg) cfgPx lfBg n_law_begun [] ([] :: S) some = some (.tuple [.ptr 0 0 0,.bool true],[],wObs [] .own ws0 :: S):=by kernel_rfl
    exact ⟨fun _ _=>fun_call _ mixed (by kernel_rfl) (by kernel_rfl) bg_loops h,app_keeps [] (wObs [] .own ws0) S⟩
  · cases hv
def bgE:Ent PR A:=⟨n_law_begun,_,bg_ok⟩
def stR:List AV → Option (List Int × Int × Bool)
  | [.slice (.int .u8) b .own,.int .i64 n,.bool o]=>some (b,n,o)
  | _=>none
theorem stR_some {cs:List AV} {x:List Int × Int × Bool} (h:stR cs = some x):Ob.cells cs = astO x.1 x.2.1 x.2.2:=by
  unfold stR at h
  split at h
  · cases h; rfl
  · cases h
def acR:List AV → Option (Nat × Int × Int × AcV)
  | [.int .i64 i,.int .i64 s,.ptr 0 j 0,.int .i64 pr,.int .i64 ac,.int .i64 ct,.slice (.int .i64) c .view,.slice (.slice (.int .i64)) ch .view]=>some (j,i,s,⟨pr,ac,ct,c,ch⟩)
  | _=>none
theorem acR_some {cs:List AV} {x:Nat × Int × Int × AcV} (h:acR cs = some x):Ob.cells cs = acOj x.1 x.2.1 x.2.2.1 x.2.2.2:=by
  unfold acR at h
  split at h
  · cases h; rfl
  · cases h
def coR:List AV → Option Cf
  | [.int .i64 t,.slice (.int .i64) s .view,.slice (.slice (.int .i64)) sh .view]=>some (t,s,sh)
  | _=>none
theorem coR_some {cs:List AV} {x:Cf} (h:coR cs = some x):Ob.cells cs = coOb x.1 x.2.1 x.2.2:=by
  unfold coR at h
  split at h
  · cases h; rfl
  · cases h
def prR (a b:List Int):List AV → Option (Nat × Nat × PrS × Bool)
  | [.int .i64 id,.int .i64 sl,.int .i64 ba,.slice (.int .i64) nodes .view,.int .i64 ct,.slice (.int .i64) cs .view,.slice (.slice (.int .i64)) ch .view,.int .i64 st,.slice (.int .i64) ss .view,.slice (.slice (.int .i64)) sh .view,.int .i64 old,.ptr 0 j1 o1,.ptr 0 j2 o2,.bool asked,.bool done] =>
    some (j1,j2,⟨id,sl,ba,nodes,ct,cs,ch,st,ss,sh,old,a,b,asked,done⟩,Nat.beq o1 mapO && Nat.beq o2 mapO)
  | _=>none
theorem prR_some {a b:List Int} {cs:List AV} {x:Nat × Nat × PrS} (h:prR a b cs = some (x.1,x.2.1,x.2.2,true)):Ob.cells cs = .cells (prCj x.1 x.2.1 x.2.2) ∧ x.2.2.pm = a ∧ x.2.2.am = b:=by
  unfold prR at h
  split at h
  · simp only [Option.some.injEq,Prod.mk.injEq,Bool.and_eq_true,beq_iff] at h
    obtain ⟨rfl,rfl,h3,rfl,rfl⟩:=h
    rw [← h3]
    exact ⟨rfl,rfl,rfl⟩
  · cases h
def hdR:List AV → Option (List MsI)
  | [.row [.ptr 0 2 0,.ptr 0 8 0,.ptr 0 14 0] .own,.row [.ptr 0 6 0,.ptr 0 12 0,.ptr 0 18 0] .own,.slice (.pair (.int .i64) (.pair (.int .i64) (.pair (.int .i64) (.pair (.int .i64) (.pair (.int .i64) (.pair (.int .i64) (.pair .bool (.pair (.pair (.pair (.int .i64) (.int .i64)) (.pair (.slice (.int .i64)) .str)) (.pair (.pair (.int .i64) (.pair (.int .i64) (.pair (.slice (.int .i64)) (.pair (.int .i64) (.pair (.int .i64) (.int .i64)))))) (.pair (.int .i64) (.pair (.int .i64) (.pair (.int .i64) (.pair (.slice (.int .i64)) (.slice (.slice (.int .i64)))))))))))))))) w .own]=>some w
  | _=>none
theorem hdR_some {cs:List AV} {w:List MsI} (h:hdR cs = some w):Ob.cells cs = wHd w .own:=by
  unfold hdR at h
  split at h
  · cases h; rfl
  · cases h
def seatR (j:Nat):List Ob → Option ((AcS × PrS × Cf) × Bool)
  | [.cells s,.cells a,.cells c,.map pm,.map am,.cells p]=>match stR s,acR a,coR c,prR pm am p with
    | some s,some a,some c,some p=>some ((⟨a.2.1,a.2.2.1,a.2.2.2,s.1,s.2.1,s.2.2⟩,p.2.2.1,c),Nat.beq a.1 j && (Nat.beq p.1 (j + 3) && (Nat.beq p.2.1 (j + 4) && p.2.2.2)))
    | _,_,_,_=>none
  | _=>none
theorem seatR_some {j:Nat} {l:List Ob} {x:AcS × PrS × Cf} (h:seatR j l = some (x,true)):l = wOb j x.1 x.2.1 x.2.2:=by
  unfold seatR at h
  split at h
  · split at h
    · rename_i s a c pm am p _ _ _ _ s' a' c' p' h1 h2 h3 h4
      simp only [Option.some.injEq,Prod.mk.injEq,Bool.and_eq_true,beq_iff] at h
      obtain ⟨rfl,h5,h6,h7,h8⟩:=h
      obtain ⟨j1,j2,q,o⟩:=p'
      simp only at h6 h7 h8
      subst h6 h7 h8
      obtain ⟨e1,e2,e3⟩:=prR_some (x:=(j + 3,j + 4,q)) h4
      rw [stR_some h1,acR_some h2,coR_some h3,e1,h5,← e2,← e3]
    · cases h
  · cases h
def wOf:List Ob → Option ((List MsI × WS) × Bool)
  | [.cells hd,o1,o2,o3,o4,o5,o6,o7,o8,o9,o10,o11,o12,o13,o14,o15,o16,o17,o18]=>match hdR hd,seatR 1 [o1,o2,o3,o4,o5,o6],seatR 7 [o7,o8,o9,o10,o11,o12],seatR 13 [o13,o14,o15,o16,o17,o18] with
    | some w,some x,some y,some z=>some ((w,⟨x.1.1,y.1.1,z.1.1,x.1.2.1,y.1.2.1,z.1.2.1,x.1.2.2,y.1.2.2,z.1.2.2⟩),x.2 && (y.2 && z.2))
    | _,_,_,_=>none
  | _=>none
theorem wOf_some {l:List Ob} {x:List MsI × WS} (h:wOf l = some (x,true)):l = wObs x.1 .own x.2:=by
  unfold wOf at h
  split at h
  · split at h
    · rename_i w x y z h1 h2 h3 h4
      simp only [Option.some.injEq,Prod.mk.injEq,Bool.and_eq_true] at h
      obtain ⟨rfl,h5,h6,h7⟩:=h
      obtain ⟨x,xb⟩:=x
      obtain ⟨y,yb⟩:=y
      obtain ⟨z,zb⟩:=z
      simp only at h5 h6 h7
      subst h5 h6 h7
      have e1:=seatR_some h2
      have e2:=seatR_some h3
      have e3:=seatR_some h4
      simp only [List.cons.injEq,and_true] at e1 e2 e3
      obtain ⟨rfl,rfl,rfl,rfl,rfl,rfl⟩:=e1
      obtain ⟨rfl,rfl,rfl,rfl,rfl,rfl⟩:=e2
      obtain ⟨rfl,rfl,rfl,rfl,rfl,rfl⟩:=e3
      rw [hdR_some h1]
      rfl
    · cases h
  · cases h
end Go.Crc
namespace Go.Crc
open Go.Vm Go.Pack Go.Rec Go.RowKit
noncomputable def ECm:List (Ent PR A):=[heE,aptE]
abbrev idQ (p y:PrS):PrS:={ y with id:=p.id,sl:=p.sl,nodes:=p.nodes,ct:=p.ct,cs:=p.cs,ch:=p.ch }
def cmC (p:PrS):Bool:=decide (p.nodes.length ≤ 100000) && (smC p.ss p.sh && (decide (p.pm.length ≤ 1000000) && decide (p.am.length ≤ 1000000)))
def cmH (p:PrS) (m:Msg) (w:List MsI) (k:PrS → List MsI → Option Res):Option Res :=
  bif (decide (p.nodes.length ≤ 100000) && (smC p.ss p.sh && (decide (p.pm.length ≤ 1000000) && decide (p.am.length ≤ 1000000)))) then
    bif decide ((w.length + (ofMs (heL p m)).length) * 248 ≤ 140737488355328) then k (idQ p (heZ p m)) (w ++ ofMs (heL p m)) else none
  else none
def cmT (a:AcS) (m:Msg) (w:List MsI) (no:AcS → Option Res) (ok:AcS → List MsI → Option Res):Option Res :=
  bif goodA a then bif ptkE a m == 0 then
    bif decide ((w.length + 1) * 248 ≤ 140737488355328) then ok (idA a (ptkZ a m)) (w ++ [ofM (ptkM a m)]) else none
  else no (idA a (ptkZ a m)) else none
theorem cm_eq (m:Msg) (w:List MsI) (z:WS) (x:List Ob) (r:Ob):body PR (cfE ECm) cfgPx lf0 n_law_world_comes [.ptr 1 0 0,msgA m] [x,app (wObs w .own z) [r]] some =
    (let B:Option Res:=bif decide (m.t < 0) then some (.tuple [],[],[x,app (wObs w .own z) [r]]) else bif decide (m.t > 2) then some (.tuple [],[],[x,app (wObs w .own z) [r]]) else
        bif decide (m.t = 0) then cmT z.a0 m w (fun a=>some (.tuple [],[(1,2),(1,1)],[x,app (wObs w .own { z with a0:=a }) [r]])) (fun a w=>some (.tuple [],[(1,0),(1,2),(1,1)],[x,app (wObs w .own { z with a0:=a }) [r]]))
        else bif decide (m.t = 1) then cmT z.a1 m w (fun a=>some (.tuple [],[(1,8),(1,7)],[x,app (wObs w .own { z with a1:=a }) [r]])) (fun a w=>some (.tuple [],[(1,0),(1,8),(1,7)],[x,app (wObs w .own { z with a1:=a }) [r]]))
        else bif decide (m.t = 2) then cmT z.a2 m w (fun a=>some (.tuple [],[(1,14),(1,13)],[x,app (wObs w .own { z with a2:=a }) [r]])) (fun a w=>some (.tuple [],[(1,0),(1,14),(1,13)],[x,app (wObs w .own { z with a2:=a }) [r]]))
        else none
    bif decide (m.t ≥ 3) then bif decide (m.t < 6) then
        bif decide (IntKind.i64.wrap (m.t - 3) = 0) then cmH z.p0 m w (fun p w=>some (.tuple [],[(1,0),(1,6),(1,4),(1,5)],[x,app (wObs w .own { z with p0:=p }) [r]]))
        else bif decide (IntKind.i64.wrap (m.t - 3) = 1) then cmH z.p1 m w (fun p w=>some (.tuple [],[(1,0),(1,12),(1,10),(1,11)],[x,app (wObs w .own { z with p1:=p }) [r]]))
        else bif decide (IntKind.i64.wrap (m.t - 3) = 2) then cmH z.p2 m w (fun p w=>some (.tuple [],[(1,0),(1,18),(1,16),(1,17)],[x,app (wObs w .own { z with p2:=p }) [r]]))
        else none
      else B else B):=by kernel_rfl
def getA (i:Int) (z:WS):AcS:=bif decide (i = 0) then z.a0 else bif decide (i = 1) then z.a1 else z.a2
def getP (i:Int) (z:WS):PrS:=bif decide (i = 0) then z.p0 else bif decide (i = 1) then z.p1 else z.p2
def setA (i:Int) (a:AcS) (z:WS):WS:=bif decide (i = 0) then { z with a0:=a } else bif decide (i = 1) then { z with a1:=a } else { z with a2:=a }
def setP (i:Int) (p:PrS) (z:WS):WS:=bif decide (i = 0) then { z with p0:=p } else bif decide (i = 1) then { z with p1:=p } else { z with p2:=p }
abbrev isP (m:Msg):Bool:=decide (m.t ≥ 3) && decide (m.t < 6)
abbrev isA (m:Msg):Bool:=!decide (m.t < 0) && !decide (m.t > 2)
def roomW (w:List MsI) (n:Nat):Bool:=decide ((w.length + n) * 248 ≤ 140737488355328)
def cmW (m:Msg) (w:List MsI) (z:WS):List MsI :=
  bif isP m then w ++ ofMs (heL (getP (m.t - 3) z) m) else bif isA m then (bif ptkE (getA m.t z) m == 0 then w ++ [ofM (ptkM (getA m.t z) m)] else w) else w
def cmZ (m:Msg) (z:WS):WS :=
  bif isP m then setP (m.t - 3) (idQ (getP (m.t - 3) z) (heZ (getP (m.t - 3) z) m)) z else bif isA m then setA m.t (idA (getA m.t z) (ptkZ (getA m.t z) m)) z else z
def cmOk (m:Msg) (w:List MsI) (z:WS):Bool :=
  bif isP m then cmC (getP (m.t - 3) z) && roomW w (ofMs (heL (getP (m.t - 3) z) m)).length else bif isA m then goodA (getA m.t z) && (!(ptkE (getA m.t z) m == 0) || roomW w 1) else true
abbrev cmWr:Wr:=[(1,0),(1,1),(1,2),(1,4),(1,5),(1,6),(1,7),(1,8),(1,10),(1,11),(1,12),(1,13),(1,14),(1,16),(1,17),(1,18)]
theorem cmH_ok {p:PrS} {m:Msg} {w:List MsI} (h:cmC p = true) (hr:roomW w (ofMs (heL p m)).length = true) (k:PrS → List MsI → Option Res):cmH p m w k = k (idQ p (heZ p m)) (w ++ ofMs (heL p m)):=by
  unfold cmH
  unfold cmC at h
  unfold roomW at hr
  rw [h,hr]; rfl
theorem cmT_ok {a:AcS} {m:Msg} {w:List MsI} (h:goodA a = true) (hr:(!(ptkE a m == 0) || roomW w 1) = true) (no:AcS → Option Res) (ok:AcS → List MsI → Option Res) :
    cmT a m w no ok = bif ptkE a m == 0 then ok (idA a (ptkZ a m)) (w ++ [ofM (ptkM a m)]) else no (idA a (ptkZ a m)):=by
  unfold cmT
  rw [h]
  cases he:ptkE a m == 0 with
  | false=>rfl
  | true =>
    rw [he] at hr
    simp only [Bool.not_true,Bool.false_or] at hr
    unfold roomW at hr
    rw [hr]; rfl
theorem cm_res {m:Msg} {w:List MsI} {z:WS} (h:cmOk m w z = true) (x:List Ob) (r:Ob):∃ wr,subW wr cmWr = true ∧ body PR (cfE ECm) cfgPx lf0 n_law_world_comes [.ptr 1 0 0,msgA m] [x,app (wObs w .own z) [r]] some = some (.tuple [],wr,[x,app (wObs (cmW m w z) .own (cmZ m z)) [r]]):=by
  rw [cm_eq]
  unfold cmOk at h
  unfold cmW cmZ
  by_cases hP:isP m = true
  · rw [hP] at h ⊢
    simp only [cond_true] at h ⊢
    obtain ⟨h1,h2⟩:=Bool.and_eq_true_iff.1 h
    obtain ⟨g1,g2⟩:=Bool.and_eq_true_iff.1 hP
    have e1:=of_decide_eq_true g1
    have e2:=of_decide_eq_true g2
    rw [g1,g2]
    simp only [cond_true]
    rw [wrap_i64 (n:=m.t - 3) (by omega) (by omega)]
    by_cases t0:m.t - 3 = 0
    · have d:decide (m.t - 3 = 0) = true:=decide_eq_true t0
      simp only [getP,setP,d,cond_true] at h1 h2 ⊢
      rw [cmH_ok h1 h2]
      exact ⟨_,rfl,rfl⟩
    · have d:decide (m.t - 3 = 0) = false:=decide_eq_false t0
      by_cases t1:m.t - 3 = 1
      · have d1:decide (m.t - 3 = 1) = true:=decide_eq_true t1
        simp only [getP,setP,d,d1,cond_true,cond_false] at h1 h2 ⊢
        rw [cmH_ok h1 h2]
        exact ⟨_,rfl,rfl⟩
      · have d1:decide (m.t - 3 = 1) = false:=decide_eq_false t1
        have d2:decide (m.t - 3 = 2) = true:=decide_eq_true (by omega)
        simp only [getP,setP,d,d1,d2,cond_true,cond_false] at h1 h2 ⊢
        rw [cmH_ok h1 h2]
        exact ⟨_,rfl,rfl⟩
  · have hP':isP m = false:=by simpa using hP
    rw [hP'] at h ⊢
    simp only [cond_false] at h ⊢
    have hB:∀ B:Option Res,∀ X:Option Res,(bif decide (m.t ≥ 3) then bif decide (m.t < 6) then X else B else B) = B:=by
      intro B X
      cases g1:decide (m.t ≥ 3) with
      | false=>rfl
      | true =>
        cases g2:decide (m.t < 6) with
        | false=>rfl
        | true=>unfold isP at hP'; rw [g1,g2] at hP'; cases hP'
    rw [hB]
    by_cases l0:m.t < 0
    · have hA:isA m = false:=by unfold isA; rw [decide_eq_true l0]; rfl
      rw [decide_eq_true l0,hA]
      exact ⟨[],rfl,rfl⟩
    · by_cases l2:m.t > 2
      · have hA:isA m = false:=by unfold isA; rw [decide_eq_false l0,decide_eq_true l2]; rfl
        rw [decide_eq_false l0,decide_eq_true l2,hA]
        exact ⟨[],rfl,rfl⟩
      · have hA:isA m = true:=by unfold isA; rw [decide_eq_false l0,decide_eq_false l2]; rfl
        rw [decide_eq_false l0,decide_eq_false l2]
        rw [hA] at h ⊢
        simp only [cond_true,cond_false] at h ⊢
        obtain ⟨h1,h2⟩:=Bool.and_eq_true_iff.1 h
        by_cases t0:m.t = 0
        · have d:decide (m.t = 0) = true:=decide_eq_true t0
          simp only [getA,setA,d,cond_true] at h1 h2 ⊢
          rw [cmT_ok h1 h2]
          cases ptkE z.a0 m == 0 <;> exact ⟨_,rfl,rfl⟩
        · have d:decide (m.t = 0) = false:=decide_eq_false t0
          by_cases t1:m.t = 1
          · have d1:decide (m.t = 1) = true:=decide_eq_true t1
            simp only [getA,setA,d,d1,cond_true,cond_false] at h1 h2 ⊢
            rw [cmT_ok h1 h2]
            cases ptkE z.a1 m == 0 <;> exact ⟨_,rfl,rfl⟩
          · have d1:decide (m.t = 1) = false:=decide_eq_false t1
            have d2:decide (m.t = 2) = true:=decide_eq_true (by omega)
            simp only [getA,setA,d,d1,d2,cond_true,cond_false] at h1 h2 ⊢
            rw [cmT_ok h1 h2]
            cases ptkE z.a2 m == 0 <;> exact ⟨_,rfl,rfl⟩
def wOf1:List Ob → Option ((List MsI × WS × Ob) × Bool)
  | [o0,o1,o2,o3,o4,o5,o6,o7,o8,o9,o10,o11,o12,o13,o14,o15,o16,o17,o18,r]=>match wOf [o0,o1,o2,o3,o4,o5,o6,o7,o8,o9,o10,o11,o12,o13,o14,o15,o16,o17,o18] with
    | some (x,ok)=>some ((x.1,x.2,r),ok)
    | none=>none
  | _=>none
theorem wOf1_some {l:List Ob} {x:List MsI × WS × Ob} (h:wOf1 l = some (x,true)):l = app (wObs x.1 .own x.2.1) [x.2.2]:=by
  unfold wOf1 at h
  split at h
  · split at h
    · rename_i y ok hy
      simp only [Option.some.injEq,Prod.mk.injEq] at h
      obtain ⟨rfl,rfl⟩:=h
      have e:=wOf_some hy
      simp only [wObs,wOb,app,List.cons.injEq,and_true] at e
      simp only [wObs,wOb,app,List.cons.injEq,and_true]
      exact e
    · cases h
  · cases h
def cmF:List AV → Stack → Tr Res
  | [.ptr 1 0 0,.agg mc],[x,h]=>match msgOf mc,wOf1 h with
    | some m,some (y,ok)=>.br (ok && cmOk m y.1 y.2.1) (.yes (.tuple [],cmWr,[x,app (wObs (cmW m y.1 y.2.1) .own (cmZ m y.2.1)) [y.2.2]])) .no
    | _,_=>.no
  | _,_=>.no
theorem cm_keep1 {w w':List MsI} {z z':WS} {r:Ob} (hu:z'.u0 = z.u0 ∧ z'.u1 = z.u1 ∧ z'.u2 = z.u2):∀ (i:Nat),memWr 1 i cmWr = false → ObE (nth (app (wObs w' .own z') [r]) i) (nth (app (wObs w .own z) [r]) i)
    | 0,h=>by cases h
    | 1,h=>by cases h
    | 2,h=>by cases h
    | 3,h=>by
      show ObE (some (coOb z'.u0.1 z'.u0.2.1 z'.u0.2.2)) (some (coOb z.u0.1 z.u0.2.1 z.u0.2.2))
      rw [hu.1]; exact copyvs_refl_ObE _
    | 4,h=>by cases h
    | 5,h=>by cases h
    | 6,h=>by cases h
    | 7,h=>by cases h
    | 8,h=>by cases h
    | 9,h=>by
      show ObE (some (coOb z'.u1.1 z'.u1.2.1 z'.u1.2.2)) (some (coOb z.u1.1 z.u1.2.1 z.u1.2.2))
      rw [hu.2.1]; exact copyvs_refl_ObE _
    | 10,h=>by cases h
    | 11,h=>by cases h
    | 12,h=>by cases h
    | 13,h=>by cases h
    | 14,h=>by cases h
    | 15,h=>by
      show ObE (some (coOb z'.u2.1 z'.u2.2.1 z'.u2.2.2)) (some (coOb z.u2.1 z.u2.2.1 z.u2.2.2))
      rw [hu.2.2]; exact copyvs_refl_ObE _
    | 16,h=>by cases h
    | 17,h=>by cases h
    | 18,h=>by cases h
    | 19,h=>copyvs_refl_ObE _
    | k + 20,h=>copyvs_refl_ObE _
theorem cm_keep {x:List Ob} {w w':List MsI} {z z':WS} {r:Ob} (hu:z'.u0 = z.u0 ∧ z'.u1 = z.u1 ∧ z'.u2 = z.u2):∀ (l i:Nat),memWr l i cmWr = false → ObE (getH [x,app (wObs w' .own z') [r]] l i) (getH [x,app (wObs w .own z) [r]] l i)
  | 0,i,h=>copyvs_refl_ObE _
  | 1,i,h=>cm_keep1 hu i h
  | l + 2,i,h=>copyvs_refl_ObE _
theorem setA_u (i:Int) (a:AcS) (z:WS):(setA i a z).u0 = z.u0 ∧ (setA i a z).u1 = z.u1 ∧ (setA i a z).u2 = z.u2:=by
  unfold setA
  cases decide (i = 0) <;> cases decide (i = 1) <;> exact ⟨rfl,rfl,rfl⟩
theorem setP_u (i:Int) (a:PrS) (z:WS):(setP i a z).u0 = z.u0 ∧ (setP i a z).u1 = z.u1 ∧ (setP i a z).u2 = z.u2:=by
  unfold setP
  cases decide (i = 0) <;> cases decide (i = 1) <;> exact ⟨rfl,rfl,rfl⟩
theorem cmZ_u (m:Msg) (z:WS):(cmZ m z).u0 = z.u0 ∧ (cmZ m z).u1 = z.u1 ∧ (cmZ m z).u2 = z.u2:=by
  unfold cmZ
  cases isP m with
  | true=>exact setP_u _ _ _
  | false =>
    cases isA m with
    | true=>exact setA_u _ _ _
    | false=>exact ⟨rfl,rfl,rfl⟩
theorem cm_ok:Con PR A n_law_world_comes (shapeC cmF):=by
  refine shapeC_ok fun args S res hv=>?_
  unfold cmF at hv
  split at hv
  · rename_i mc x h
    split at hv
    · rename_i m y ok hm hy
      have:=msgOf_some hm
      subst this
      obtain ⟨hc,hv2⟩:=Tr.br_no hv
      cases hv2
      obtain ⟨hok,hc⟩:=Bool.and_eq_true_iff.1 hc
      subst hok
      have:=wOf1_some hy
      subst this
      obtain ⟨wr,h1,h2⟩:=cm_res hc x y.2.2
      refine ⟨fun _ _=>SimCall.wr (fun_call _ mixed (by kernel_rfl) (by kernel_rfl) (no_loops (by kernel_rfl)) h2) (subW_le h1),fun l i hl=>.inl (cm_keep (cmZ_u m y.2.1) l i hl)⟩
    · cases hv
  · cases hv
def cmE:Ent PR A:=⟨n_law_world_comes,_,cm_ok⟩
end Go.Crc
namespace Go.Crc
open Go.Vm Go.Pack Go.Rec Go.RowKit
noncomputable def ESt:List (Ent PR A):=[staE,acrE,cmE]
abbrev stWho (who:Int):Int:=(IntKind.i64.wrap (who.tmod 3 + 3)).tmod 3
def stSt (p:PrS) (n:Int) (w:List MsI) (no:PrS → Option Res) (k:PrS → List MsI → Option Res):Option Res :=
  bif decide (p.nodes.length ≤ 100000) then bif stE p n == 0 then bif decide ((w.length + (ofMs (stL p n)).length) * 248 ≤ 140737488355328) then k (idQ p (stZ p n)) (w ++ ofMs (stL p n)) else none
  else no (idQ p (stZ p n)) else none
def stCut (w:List MsI) (n:Int):List MsI:=(w.take n.toNat).drop 0 ++ (w.take w.length).drop (IntKind.i64.wrap (n + 1)).toNat
abbrev stEnd (w:List MsI) (z:WS) (r:Ob) (wr:Wr):Option Res:=some (.tuple [],wr,[app (wObs w .own z) [r]])
def stMsg (kd n:Int) (w:List MsI) (z:WS) (r:Ob):Option Res :=
  (at? w n).bind fun y =>
    bif !(kd == 3) then
      bif (decide (0 ≤ n) && decide (n ≤ (w.length:Int))) && decide (n = n) then bif decide (0 ≤ IntKind.i64.wrap (n + 1)) && decide (IntKind.i64.wrap (n + 1) ≤ (w.length:Int)) then
        bif decide ((((w.take n.toNat).drop 0).length + ((w.take w.length).drop (IntKind.i64.wrap (n + 1)).toNat).length) * 248 ≤ 140737488355328) then
          bif !(kd == 2) then bif cmOk (toM y) (stCut w n) z then stEnd (cmW (toM y) (stCut w n) z) (cmZ (toM y) z) r (outer (app cmWr [(1,0)])) else none
          else stEnd (stCut w n) z r [(0,0)]
        else none
      else none else none
    else bif !(kd == 2) then bif cmOk (toM y) w z then stEnd (cmW (toM y) w z) (cmZ (toM y) z) r (outer cmWr) else none else stEnd w z r []
def stGo (kd who n:Int) (w:List MsI) (z:WS) (r:Ob) (msg:Option Res):Option Res :=
  bif kd == 0 then
    bif decide (stWho who = 0) then stSt z.p0 n w (fun p=>stEnd w { z with p0:=p } r [(0,6),(0,4),(0,5)]) (fun p w=>stEnd w { z with p0:=p } r [(0,0),(0,6),(0,4),(0,5)])
    else bif decide (stWho who = 1) then stSt z.p1 n w (fun p=>stEnd w { z with p1:=p } r [(0,12),(0,10),(0,11)]) (fun p w=>stEnd w { z with p1:=p } r [(0,0),(0,12),(0,10),(0,11)])
    else bif decide (stWho who = 2) then stSt z.p2 n w (fun p=>stEnd w { z with p2:=p } r [(0,18),(0,16),(0,17)]) (fun p w=>stEnd w { z with p2:=p } r [(0,0),(0,18),(0,16),(0,17)])
    else none
  else bif kd == 4 then
    bif decide (stWho who = 0) then bif goodA z.a0 then stEnd w { z with a0:=idA z.a0 (pcrZ z.a0 n) } r [(0,2),(0,1)] else none
    else bif decide (stWho who = 1) then bif goodA z.a1 then stEnd w { z with a1:=idA z.a1 (pcrZ z.a1 n) } r [(0,8),(0,7)] else none
    else bif decide (stWho who = 2) then bif goodA z.a2 then stEnd w { z with a2:=idA z.a2 (pcrZ z.a2 n) } r [(0,14),(0,13)] else none
    else none
  else bif decide (kd ≥ 1) then bif decide (kd ≤ 3) then msg else stEnd w z r [] else stEnd w z r []
theorem st_eq (kd who n:Int) (w:List MsI) (z:WS) (r:Ob):body PR (cfE ESt) cfgPx lf0 n_law_world_step [.ptr 0 0 0,.agg [.int .i64 kd,.int .i64 who,.int .i64 n]] [app (wObs w .own z) [r]] some =
    (bif decide (n ≥ 0) then stGo kd who n w z r (bif decide (n < (w.length:Int)) then stMsg kd n w z r else stEnd w z r []) else stGo kd who n w z r (stEnd w z r [])):=by kernel_rfl
theorem stWho_in (who:Int):stWho who = 0 ∨ stWho who = 1 ∨ stWho who = 2:=by
  have h1:-3 < who.tmod 3 ∧ who.tmod 3 < 3:=by
    constructor
    · rcases Int.le_total 0 who with h | h
      · have:=Int.tmod_nonneg 3 h; omega
      · have e:who = -(-who):=by omega
        rw [e,Int.neg_tmod]
        have:=Int.tmod_lt_of_pos (-who) (show (0:Int) < 3 by decide)
        omega
    · exact Int.tmod_lt_of_pos who (by decide)
  unfold stWho
  rw [wrap_i64 (by omega) (by omega),Int.tmod_eq_emod_of_nonneg (by omega)]
  omega
abbrev stHas (kd n:Int) (w:List MsI):Bool:=decide (kd ≥ 1) && (decide (kd ≤ 3) && (decide (n ≥ 0) && decide (n < (w.length:Int))))
def stRest (kd n:Int) (w:List MsI):List MsI:=bif kd == 3 then w else stCut w n
def stM (n:Int) (w:List MsI):Msg:=toM ((at? w n).getD default)
def stW (kd who n:Int) (w:List MsI) (z:WS):List MsI :=
  bif kd == 0 then (bif stE (getP (stWho who) z) n == 0 then w ++ ofMs (stL (getP (stWho who) z) n) else w) else bif kd == 4 then w
  else bif stHas kd n w then (bif kd == 2 then stRest kd n w else cmW (stM n w) (stRest kd n w) z) else w
def stZ2 (kd who n:Int) (w:List MsI) (z:WS):WS :=
  bif kd == 0 then setP (stWho who) (idQ (getP (stWho who) z) (stZ (getP (stWho who) z) n)) z else bif kd == 4 then setA (stWho who) (idA (getA (stWho who) z) (pcrZ (getA (stWho who) z) n)) z
  else bif stHas kd n w then (bif kd == 2 then z else cmZ (stM n w) z) else z
def stOk (kd who n:Int) (w:List MsI) (z:WS):Bool :=
  decide (w.length ≤ 100000) && bif kd == 0 then decide ((getP (stWho who) z).nodes.length ≤ 100000) && decide ((stL (getP (stWho who) z) n).length ≤ 100000) else bif kd == 4 then goodA (getA (stWho who) z)
  else bif stHas kd n w then (bif kd == 2 then true else cmOk (stM n w) (stRest kd n w) z) else true
abbrev stWr:Wr:=[(0,0),(0,1),(0,2),(0,4),(0,5),(0,6),(0,7),(0,8),(0,10),(0,11),(0,12),(0,13),(0,14),(0,16),(0,17),(0,18)]
theorem stSt_ok {p:PrS} {n:Int} {w:List MsI} (h:decide (p.nodes.length ≤ 100000) = true) (hr:(stL p n).length ≤ 100000) (hw:w.length ≤ 100000) (no:PrS → Option Res) (k:PrS → List MsI → Option Res) :
    stSt p n w no k = bif stE p n == 0 then k (idQ p (stZ p n)) (w ++ ofMs (stL p n)) else no (idQ p (stZ p n)):=by
  unfold stSt
  have:(ofMs (stL p n)).length = (stL p n).length:=by unfold ofMs; rw [List.length_map]
  rw [h,this,decide_eq_true (show (w.length + (stL p n).length) * 248 ≤ 140737488355328 by omega)]; rfl
theorem stMsg_ok {kd n:Int} {w:List MsI} {z:WS} {r:Ob} (hw:w.length ≤ 100000) (h0:n ≥ 0) (h1:n < (w.length:Int)) (hok:(bif kd == 2 then true else cmOk (stM n w) (stRest kd n w) z) = true) (hz:(kd == 3 && kd == 2) = false) :
    ∃ wr,subW wr stWr = true ∧ stMsg kd n w z r = stEnd (bif kd == 2 then stRest kd n w else cmW (stM n w) (stRest kd n w) z) (bif kd == 2 then z else cmZ (stM n w) z) r wr:=by
  have hlt:n.toNat < w.length:=by omega
  have hx:w[n.toNat]? = some w[n.toNat]:=List.getElem?_eq_getElem hlt
  have hat:at? w n = some w[n.toNat]:=by
    have:=at_some hx
    rwa [Int.toNat_of_nonneg h0] at this
  unfold stMsg
  unfold stM at hok ⊢
  rw [hat] at hok ⊢
  simp only [Option.bind_some,Option.getD_some] at hok ⊢
  generalize w[n.toNat] = y at *
  unfold stRest at hok ⊢
  rw [wrap_i64 (n:=n + 1) (by omega) (by omega),decide_eq_true (show 0 ≤ n by omega),decide_eq_true (show n ≤ (w.length:Int) by omega),decide_true,decide_eq_true (show 0 ≤ n + 1 by omega),decide_eq_true (show n + 1 ≤ (w.length:Int) by omega),
    decide_eq_true (show (((w.take n.toNat).drop 0).length + ((w.take w.length).drop (n + 1).toNat).length) * 248 ≤ 140737488355328 by simp only [List.length_drop,List.length_take]; omega)]
  cases h3:kd == 3 with
  | true =>
    cases h2:kd == 2 with
    | true=>rw [h3,h2] at hz; cases hz
    | false =>
      rw [h3,h2] at hok
      simp only [cond_true,cond_false] at hok
      simp only [Bool.not_true,Bool.not_false,cond_true,cond_false,hok]
      exact ⟨_,rfl,rfl⟩
  | false =>
    cases h2:kd == 2 with
    | true=>exact ⟨_,rfl,rfl⟩
    | false =>
      rw [h3,h2] at hok
      simp only [cond_true,cond_false] at hok
      simp only [Bool.not_false,cond_true,cond_false,Bool.and_self,hok]
      exact ⟨_,rfl,rfl⟩
theorem st_res {kd who n:Int} {w:List MsI} {z:WS} (h:stOk kd who n w z = true) (r:Ob):∃ wr,subW wr stWr = true ∧ body PR (cfE ESt) cfgPx lf0 n_law_world_step [.ptr 0 0 0,.agg [.int .i64 kd,.int .i64 who,.int .i64 n]] [app (wObs w .own z) [r]] some = some (.tuple [],wr,[app (wObs (stW kd who n w z) .own (stZ2 kd who n w z)) [r]]):=by
  rw [st_eq]
  unfold stOk at h
  obtain ⟨hw,h⟩:=Bool.and_eq_true_iff.1 h
  have hw:=of_decide_eq_true hw
  have key:∀ msg,(∃ wr,subW wr stWr = true ∧ (bif decide (kd ≥ 1) then bif decide (kd ≤ 3) then msg else stEnd w z r [] else stEnd w z r []) = stEnd (bif stHas kd n w then (bif kd == 2 then stRest kd n w else cmW (stM n w) (stRest kd n w) z) else w) (bif stHas kd n w then (bif kd == 2 then z else cmZ (stM n w) z) else z) r wr) →
      ∃ wr,subW wr stWr = true ∧ stGo kd who n w z r msg = some (.tuple [],wr,[app (wObs (stW kd who n w z) .own (stZ2 kd who n w z)) [r]]):=by
    intro msg hmsg
    unfold stGo stW stZ2
    cases h0:kd == 0 with
    | true =>
      rw [h0] at h
      simp only [cond_true] at h ⊢
      obtain ⟨h1,h2⟩:=Bool.and_eq_true_iff.1 h
      have h2:=of_decide_eq_true h2
      rcases stWho_in who with e | e | e
      all_goals
        rw [e] at h1 h2 ⊢
        simp only [getP,setP,decide_true,decide_false,cond_true,cond_false,show decide ((1:Int) = 0) = false from rfl,show decide ((2:Int) = 0) = false from rfl,show decide ((2:Int) = 1) = false from rfl] at h1 h2 ⊢
        rw [stSt_ok h1 h2 hw]
        first
        | (cases stE z.p0 n == 0 <;> exact ⟨_,rfl,rfl⟩)
        | (cases stE z.p1 n == 0 <;> exact ⟨_,rfl,rfl⟩)
        | (cases stE z.p2 n == 0 <;> exact ⟨_,rfl,rfl⟩)
    | false =>
      rw [h0] at h
      simp only [cond_false] at h ⊢
      cases h4:kd == 4 with
      | true =>
        rw [h4] at h
        simp only [cond_true] at h ⊢
        rcases stWho_in who with e | e | e
        all_goals
          rw [e] at h ⊢
          simp only [getA,setA,decide_true,decide_false,cond_true,cond_false,show decide ((1:Int) = 0) = false from rfl,show decide ((2:Int) = 0) = false from rfl,show decide ((2:Int) = 1) = false from rfl] at h ⊢
          rw [h]
          exact ⟨_,rfl,rfl⟩
      | false=>exact hmsg
  cases hn:decide (n ≥ 0) with
  | false =>
    refine key _ ?_
    have hH:stHas kd n w = false:=by unfold stHas; rw [hn]; simp
    rw [hH]
    refine ⟨[],rfl,?_⟩
    cases decide (kd ≥ 1) <;> cases decide (kd ≤ 3) <;> rfl
  | true =>
    refine key _ ?_
    cases hl:decide (n < (w.length:Int)) with
    | false =>
      have hH:stHas kd n w = false:=by unfold stHas; rw [hl]; simp
      rw [hH]
      refine ⟨[],rfl,?_⟩
      cases decide (kd ≥ 1) <;> cases decide (kd ≤ 3) <;> rfl
    | true =>
      cases k1:decide (kd ≥ 1) with
      | false =>
        have hH:stHas kd n w = false:=by unfold stHas; rw [k1]; rfl
        rw [hH]
        exact ⟨[],rfl,rfl⟩
      | true =>
        cases k3:decide (kd ≤ 3) with
        | false =>
          have hH:stHas kd n w = false:=by unfold stHas; rw [k3]; simp
          rw [hH]
          exact ⟨[],rfl,rfl⟩
        | true =>
          have hH:stHas kd n w = true:=by unfold stHas; rw [k1,k3,hn,hl]; rfl
          have e1:=of_decide_eq_true k1
          have e3:=of_decide_eq_true k3
          have h0:(kd == 0) = false:=beq_false_of_ne (by omega)
          have h4:(kd == 4) = false:=beq_false_of_ne (by omega)
          rw [h0,h4,hH] at h
          simp only [cond_true,cond_false] at h
          rw [hH]
          simp only [cond_true]
          refine stMsg_ok hw (of_decide_eq_true hn) (of_decide_eq_true hl) h ?_
          cases h3:kd == 3 with
          | false=>rfl
          | true =>
            have:=beq_iff_eq.1 h3
            subst this
            rfl
theorem st_keep0 {w w':List MsI} {z z':WS} {r:Ob} (hu:z'.u0 = z.u0 ∧ z'.u1 = z.u1 ∧ z'.u2 = z.u2):∀ (i:Nat),memWr 0 i stWr = false → ObE (nth (app (wObs w' .own z') [r]) i) (nth (app (wObs w .own z) [r]) i)
    | 0,h=>by cases h
    | 1,h=>by cases h
    | 2,h=>by cases h
    | 3,h=>by
      show ObE (some (coOb z'.u0.1 z'.u0.2.1 z'.u0.2.2)) (some (coOb z.u0.1 z.u0.2.1 z.u0.2.2))
      rw [hu.1]; exact copyvs_refl_ObE _
    | 4,h=>by cases h
    | 5,h=>by cases h
    | 6,h=>by cases h
    | 7,h=>by cases h
    | 8,h=>by cases h
    | 9,h=>by
      show ObE (some (coOb z'.u1.1 z'.u1.2.1 z'.u1.2.2)) (some (coOb z.u1.1 z.u1.2.1 z.u1.2.2))
      rw [hu.2.1]; exact copyvs_refl_ObE _
    | 10,h=>by cases h
    | 11,h=>by cases h
    | 12,h=>by cases h
    | 13,h=>by cases h
    | 14,h=>by cases h
    | 15,h=>by
      show ObE (some (coOb z'.u2.1 z'.u2.2.1 z'.u2.2.2)) (some (coOb z.u2.1 z.u2.2.1 z.u2.2.2))
      rw [hu.2.2]; exact copyvs_refl_ObE _
    | 16,h=>by cases h
    | 17,h=>by cases h
    | 18,h=>by cases h
    | 19,h=>copyvs_refl_ObE _
    | k + 20,h=>copyvs_refl_ObE _
theorem st_keep {w w':List MsI} {z z':WS} {r:Ob} (hu:z'.u0 = z.u0 ∧ z'.u1 = z.u1 ∧ z'.u2 = z.u2):∀ (l i:Nat),memWr l i stWr = false → ObE (getH [app (wObs w' .own z') [r]] l i) (getH [app (wObs w .own z) [r]] l i)
  | 0,i,h=>st_keep0 hu i h
  | l + 1,i,h=>copyvs_refl_ObE _
theorem stZ2_u (kd who n:Int) (w:List MsI) (z:WS):(stZ2 kd who n w z).u0 = z.u0 ∧ (stZ2 kd who n w z).u1 = z.u1 ∧ (stZ2 kd who n w z).u2 = z.u2:=by
  unfold stZ2
  cases kd == 0 with
  | true=>exact setP_u _ _ _
  | false =>
    cases kd == 4 with
    | true=>exact setA_u _ _ _
    | false =>
      cases stHas kd n w with
      | false=>exact ⟨rfl,rfl,rfl⟩
      | true =>
        cases kd == 2 with
        | true=>exact ⟨rfl,rfl,rfl⟩
        | false=>exact cmZ_u _ _
def stF:List AV → Stack → Tr Res
  | [.ptr 0 0 0,.agg [.int .i64 kd,.int .i64 who,.int .i64 n]],[h]=>match wOf1 h with
    | some (y,ok)=>.br (ok && stOk kd who n y.1 y.2.1) (.yes (.tuple [],stWr,[app (wObs (stW kd who n y.1 y.2.1) .own (stZ2 kd who n y.1 y.2.1)) [y.2.2]])) .no
    | none=>.no
  | _,_=>.no
theorem st_ok:Con PR A n_law_world_step (shapeC stF):=by
  refine shapeC_ok fun args S res hv=>?_
  unfold stF at hv
  split at hv
  · rename_i kd who n h
    split at hv
    · rename_i y ok hy
      obtain ⟨hc,hv2⟩:=Tr.br_no hv
      cases hv2
      obtain ⟨hok,hc⟩:=Bool.and_eq_true_iff.1 hc
      subst hok
      have:=wOf1_some hy
      subst this
      obtain ⟨wr,h1,h2⟩:=st_res hc y.2.2
      exact ⟨fun _ _=>SimCall.wr (fun_call _ mixed (by kernel_rfl) (by kernel_rfl) (no_loops (by kernel_rfl)) h2) (subW_le h1),fun l i hl=>.inl (st_keep (stZ2_u kd who n y.1 y.2.1) l i hl)⟩
    · cases hv
  · cases hv
def stEn:Ent PR A:=⟨n_law_world_step,_,st_ok⟩
end Go.Crc
namespace Go.Crc
open Go.Vm Go.Pack Go.Rec Go.RowKit
def vOf (z:WS) (i:Int):AcV:=bif decide (i = 0) then z.a0.v else bif decide (i = 1) then z.a1.v else bif decide (i = 2) then z.a2.v else av0
def pOf (z:WS) (j:Int):PrS:=bif decide (j = 3) then z.p0 else bif decide (j = 4) then z.p1 else bif decide (j = 5) then z.p2 else pr0 0
theorem vOf_get (z:WS) {i:Int} (h:In3 i):vOf z i = (getA i z).v:=by
  rcases h with rfl | rfl | rfl <;> rfl
theorem pOf_get (z:WS) {j:Int} (h:In3 j):pOf z (j + 3) = getP j z:=by
  rcases h with rfl | rfl | rfl <;> rfl
theorem vOf_set (z:WS) {i:Int} (a:AcS) (h:In3 i):vOf (setA i a z) = upI (vOf z) i a.v:=by
  funext k
  unfold upI vOf
  rcases h with rfl | rfl | rfl
  · by_cases hk:k = 0
    · subst hk; rfl
    · rw [if_neg hk,decide_eq_false hk]; rfl
  · by_cases hk:k = 1
    · subst hk; rfl
    · rw [if_neg hk,decide_eq_false hk]; rfl
  · by_cases hk:k = 2
    · subst hk; rfl
    · rw [if_neg hk,decide_eq_false hk]; rfl
theorem pOf_set (z:WS) {j:Int} (p:PrS) (h:In3 j):pOf (setP j p z) = upI (pOf z) (j + 3) p:=by
  funext k
  unfold upI pOf
  rcases h with rfl | rfl | rfl
  · by_cases hk:k = 3
    · subst hk; rfl
    · rw [if_neg (show ¬ k = 0 + 3 from hk),decide_eq_false hk]; rfl
  · by_cases hk:k = 4
    · subst hk; rfl
    · rw [if_neg (show ¬ k = 1 + 3 from hk),decide_eq_false hk]; rfl
  · by_cases hk:k = 5
    · subst hk; rfl
    · rw [if_neg (show ¬ k = 2 + 3 from hk),decide_eq_false hk]; rfl
theorem vOf_setP (z:WS) (j:Int) (p:PrS):vOf (setP j p z) = vOf z:=by
  funext k
  unfold setP
  cases decide (j = 0) <;> cases decide (j = 1) <;> rfl
theorem pOf_setA (z:WS) (j:Int) (a:AcS):pOf (setA j a z) = pOf z:=by
  funext k
  unfold setA
  cases decide (j = 0) <;> cases decide (j = 1) <;> rfl
theorem getA_setP (z:WS) (i j:Int) (p:PrS):getA i (setP j p z) = getA i z:=by
  unfold setP
  cases decide (j = 0) <;> cases decide (j = 1) <;> rfl
theorem getP_setA (z:WS) (i j:Int) (a:AcS):getP i (setA j a z) = getP i z:=by
  unfold setA
  cases decide (j = 0) <;> cases decide (j = 1) <;> rfl
theorem getA_setA (z:WS) {i j:Int} (a:AcS) (hi:In3 i) (hj:In3 j):getA i (setA j a z) = if i = j then a else getA i z:=by
  rcases hi with rfl | rfl | rfl <;> rcases hj with rfl | rfl | rfl <;> rfl
theorem getP_setP (z:WS) {i j:Int} (p:PrS) (hi:In3 i) (hj:In3 j):getP i (setP j p z) = if i = j then p else getP i z:=by
  rcases hi with rfl | rfl | rfl <;> rcases hj with rfl | rfl | rfl <;> rfl
structure WInv (G:Gh) (w:List MsI) (z:WS):Prop where
  px:PxW G (vOf z) (pOf z)
  ac:∀ i,In3 i → ∃ F,PxSyn (getA i z) F
  id:∀ i,In3 i → (getA i z).id = i
  sm:∀ j,In3 j → smC (getP j z).cs (getP j z).ch = true ∧ smC (getP j z).ss (getP j z).sh = true
  msg:∀ y ∈ w,MOK G (toM y)
theorem tk_cases (a:AcS) (m:Msg):(ptkE a m = 0 ∧ tkMine a m = true ∧ a.v.pr ≤ m.ba ∧ (ptkZ a m).v = tkX a m ∧ ptkM a m = tkOut a m) ∨ ((ptkE a m == 0) = false ∧ (ptkZ a m).v = a.v):=by
  unfold ptkM
  unfold ptkE ptkZ
  cases hm:tkMine a m with
  | false=>exact .inr ⟨rfl,rfl⟩
  | true =>
  cases hd:decide (m.ba < a.v.pr) with
  | true=>exact .inr ⟨rfl,rfl⟩
  | false =>
  have hb:a.v.pr ≤ m.ba:=by have:=of_decide_eq_false hd; omega
  simp only [cond_true,cond_false]
  cases he:tkE0 a m == 0 with
  | false=>exact .inr ⟨rfl,rfl⟩
  | true =>
    left
    refine ⟨beq_iff_eq.1 he,trivial,hb,?_,?_⟩
    case refine_2=>rfl
    show (tkZ0 a m).v = tkX a m
    unfold tkZ0
    unfold tkE0 at he
    cases hn:tkNew a m with
    | true =>
      rw [hn] at he
      simp only [cond_true] at he ⊢
      unfold wrE at he
      unfold wrZ
      cases ha:appOK a.b (acB (tkX a m)) a.o with
      | true=>rfl
      | false=>rw [ha] at he; rw [cond_false,err_ne] at he; cases he
    | false =>
      simp only [cond_false]
      unfold tkNew at hn
      simp only [Bool.or_eq_false_iff,bne_eq_false_iff_eq,Bool.not_eq_false',Bool.and_eq_true,beq_iff_eq] at hn
      obtain ⟨h1,h2,h3,h4,h5⟩:=hn
      cases hx:tkX a m
      rw [hx] at h1 h2 h3 h4 h5
      cases hv:a.v
      rw [hv] at h1 h2 h3 h4 h5
      simp only at h1 h2 h3 h4 h5
      rw [h1,h2,h3,h4,h5]
theorem idA_tk2 (z:AcS) (m:Msg):idA z (ptkZ z m) = ptkZ z m:=by
  obtain ⟨h1,h2⟩:=ptkZ_ids z m
  cases h:ptkZ z m with
  | mk i s v b n o =>
    rw [h] at h1 h2
    simp only at h1 h2
    rw [h1,h2]
theorem WInv.setA {G G':Gh} {w:List MsI} {z:WS} (h:WInv G w z) {i:Int} (hi:In3 i) {a:AcS} (hg:GhLe G G') (hp:PxW G' (upI (vOf z) i a.v) (pOf z)) (ha:∃ F,PxSyn a F) (hid:a.id = (getA i z).id):WInv G' w (Go.Crc.setA i a z):=by
  refine ⟨by rw [vOf_set z a hi,pOf_setA]; exact hp,fun k hk=>?_,fun k hk=>?_,fun k hk=>by rw [getP_setA]; exact h.sm k hk,fun y hy=>(h.msg y hy).le hg⟩
  · rw [getA_setA z a hk hi]
    split
    · exact ha
    · exact h.ac k hk
  · rw [getA_setA z a hk hi]
    split
    · rename_i e; rw [hid,e]; exact h.id i hi
    · exact h.id k hk
theorem WInv.setP {G G':Gh} {w:List MsI} {z:WS} (h:WInv G w z) {j:Int} (hj:In3 j) {p:PrS} (hg:GhLe G G') (hp:PxW G' (vOf z) (upI (pOf z) (j + 3) p)) (hs:smC p.cs p.ch = true ∧ smC p.ss p.sh = true):WInv G' w (Go.Crc.setP j p z):=by
  refine ⟨by rw [pOf_set z p hj,vOf_setP]; exact hp,fun k hk=>by rw [getA_setP]; exact h.ac k hk,fun k hk=>by rw [getA_setP]; exact h.id k hk,fun k hk=>?_,fun y hy=>(h.msg y hy).le hg⟩
  rw [getP_setP z p hk hj]
  split
  · exact hs
  · exact h.sm k hk
theorem WInv.way {G:Gh} {w w':List MsI} {z:WS} (h:WInv G w z) (hw:∀ y ∈ w',MOK G (toM y)):WInv G w' z:=⟨h.px,h.ac,h.id,h.sm,hw⟩
theorem WInv.takes {G:Gh} {w:List MsI} {z:WS} (h:WInv G w z) {i:Int} (hi:In3 i) {m:Msg} (hm:MOK G m) :
    ∃ G',GhLe G G' ∧ WInv G' (bif ptkE (getA i z) m == 0 then w ++ [ofM (ptkM (getA i z) m)] else w) (Go.Crc.setA i (idA (getA i z) (ptkZ (getA i z) m)) z):=by
  obtain ⟨F,hF⟩:=h.ac i hi
  rw [idA_tk2]
  have hsyn:∃ F,PxSyn (ptkZ (getA i z) m) F:=⟨_,hF.tk m⟩
  have hids:=(ptkZ_ids (getA i z) m).1
  have hv:=vOf_get z hi
  rcases tk_cases (getA i z) m with ⟨e1,e2,e3,e4,e5⟩ | ⟨e1,e2⟩
  · have e0:(ptkE (getA i z) m == 0) = true:=by rw [e1]; rfl
    rw [e0,cond_true]
    unfold tkMine at e2
    simp only [Bool.and_eq_true,Bool.or_eq_true,beq_iff_eq] at e2
    obtain ⟨hk,_⟩:=e2
    by_cases h9:m.k = 9
    · have hk9:(m.k == 9) = true:=by rw [h9]; rfl
      have hp:=hm.acc h9
      have hpx:=h.px.accept hi (b:=m.ba) (c:=cfM m) (by rw [hv]; exact e3) hp (x:=(ptkZ (getA i z) m).v) (by rw [e4]; unfold tkX; rw [hk9]; exact ⟨rfl,rfl,rfl⟩)
      refine ⟨_,addAcd_le G i m.ba,(h.setA hi (addAcd_le G i m.ba) hpx hsyn hids).way fun y hy=>?_⟩
      rcases List.mem_append.1 hy with hy | hy
      · exact (h.msg y hy).le (addAcd_le _ _ _)
      · rw [List.mem_singleton.1 hy,toM_of,e5]
        unfold tkOut
        rw [hk9]
        refine ⟨fun hh=>?_,fun hh=>?_,fun _=>.inr ⟨h.id i hi,rfl⟩⟩
        · exact absurd hh (by show ¬ (10:Int) = 9; decide)
        · exact absurd hh (by show ¬ (10:Int) = 8; decide)
    · have hk9:(m.k == 9) = false:=beq_false_of_ne h9
      have hpx:=h.px.promise hi (b:=m.ba) (by rw [hv]; exact e3) (x:=(ptkZ (getA i z) m).v) (by rw [e4,hv]; unfold tkX; rw [hk9]; exact ⟨rfl,rfl,rfl⟩)
      refine ⟨_,addProm_le G i m.ba _ _,(h.setA hi (addProm_le _ _ _ _ _) hpx hsyn hids).way fun y hy=>?_⟩
      rcases List.mem_append.1 hy with hy | hy
      · exact (h.msg y hy).le (addProm_le _ _ _ _ _)
      · rw [List.mem_singleton.1 hy,toM_of,e5]
        unfold tkOut
        rw [hk9]
        refine ⟨fun hh=>?_,fun _=>.inr ⟨h.id i hi,rfl,by rw [hv]; rfl,by rw [hv]; rfl⟩,fun hh=>?_⟩
        · exact absurd hh (by show ¬ (8:Int) = 9; decide)
        · exact absurd hh (by show ¬ (8:Int) = 10; decide)
  · rw [e1,cond_false]
    refine ⟨G,GhLe.refl G,h.setA hi (GhLe.refl G) ?_ hsyn hids⟩
    have:upI (vOf z) i (ptkZ (getA i z) m).v = vOf z:=by
      funext k
      by_cases hk:k = i
      · subst hk; rw [upI_same,e2,hv]
      · rw [upI_ne _ _ hk]
    rw [this]
    exact h.px
theorem WInv.crashes {G:Gh} {w:List MsI} {z:WS} (h:WInv G w z) {i:Int} (hi:In3 i) (n:Int):WInv G w (Go.Crc.setA i (idA (getA i z) (pcrZ (getA i z) n)) z):=by
  obtain ⟨F,hF⟩:=h.ac i hi
  obtain ⟨g1,g2⟩:=hF.cs n
  have e:idA (getA i z) (pcrZ (getA i z) n) = pcrZ (getA i z) n:=rfl
  rw [e]
  refine h.setA hi (GhLe.refl G) ?_ ⟨F,g1⟩ rfl
  have:upI (vOf z) i (pcrZ (getA i z) n).v = vOf z:=by
    funext k
    by_cases hk:k = i
    · subst hk; rw [upI_same,g2,vOf_get z hi]
    · rw [upI_ne _ _ hk]
  rw [this]
  exact h.px
theorem jn_of {j:Int} (h:In3 j):Jn3 (j + 3):=by unfold In3 at h; unfold Jn3; omega
theorem idQ_st (p:PrS) (n:Int):idQ p (stZ p n) = stZ p n:=by
  unfold stZ
  cases stOK p n <;> rfl
theorem idQ_he (p:PrS) (m:Msg):idQ p (heZ p m) = heZ p m:=by
  obtain ⟨h1,h2,h3,h4,h5,h6⟩:=heZ_ids p m
  cases h:heZ p m
  rw [h] at h1 h2 h3 h4 h5 h6
  simp only at h1 h2 h3 h4 h5 h6
  unfold idQ
  rw [h1,h2,h3,h4,h5,h6]
theorem WInv.starts {G:Gh} {w:List MsI} {z:WS} (h:WInv G w z) {j:Int} (hj:In3 j) (n:Int) :
    WInv G (bif stE (getP j z) n == 0 then w ++ ofMs (stL (getP j z) n) else w) (Go.Crc.setP j (idQ (getP j z) (stZ (getP j z) n)) z):=by
  rw [idQ_st]
  have hp:=pOf_get z hj
  have hsm:=h.sm j hj
  obtain ⟨b1,b2,b3,b4⟩:=h.px.bal (j + 3) (jn_of hj)
  rw [hp] at b1 b2 b3 b4
  generalize getP j z = p at *
  unfold stE stL stZ
  cases hK:stOK p n with
  | false =>
    show WInv G w (Go.Crc.setP j p z)
    refine h.setP hj (GhLe.refl G) ?_ hsm
    have:upI (pOf z) (j + 3) p = pOf z:=by
      funext k
      by_cases hk:k = j + 3
      · subst hk; rw [upI_same,hp]
      · rw [upI_ne _ _ hk]
    rw [this]; exact h.px
  | true =>
    simp only [cond_true]
    unfold stOK at hK
    simp only [Bool.and_eq_true,Bool.not_eq_true',decide_eq_false_iff_not] at hK
    obtain ⟨k1,k2,k3⟩:=hK
    have hB:stB p n = n * 16 + (j + 3) + 1:=by
      unfold In3 at hj
      unfold stB
      rw [b1,wrap_i64 (n:=n * 16) (by omega) (by omega),wrap_i64 (n:=n * 16 + (j + 3)) (by omega) (by omega),wrap_i64 (by omega) (by omega)]
    have hpx:=h.px.start (jn_of hj) (b:=stB p n) (by rw [hp]; omega) (by rw [hB]; unfold In3 at hj; omega) (q:={ p with ba:=stB p n,st:=p.ct,ss:=p.cs,sh:=p.ch,old:=0,pm:=[],am:=[],asked:=false,done:=false }) (by rw [hp]; exact ⟨rfl,rfl,rfl,rfl,rfl,rfl,rfl,rfl⟩)
    refine (h.setP hj (GhLe.refl G) hpx ⟨hsm.1,hsm.1⟩).way fun y hy=>?_
    rcases List.mem_append.1 hy with hy | hy
    · exact h.msg y hy
    · unfold ofMs allM at hy
      simp only [List.map_map,List.mem_map] at hy
      obtain ⟨x,_,rfl⟩:=hy
      refine ⟨fun hh=>?_,fun hh=>?_,fun hh=>?_⟩
      · exact absurd hh (by show ¬ (7:Int) = 9; decide)
      · exact absurd hh (by show ¬ (7:Int) = 8; decide)
      · exact absurd hh (by show ¬ (7:Int) = 10; decide)
theorem WInv.hears {G:Gh} {w:List MsI} {z:WS} (h:WInv G w z) {j:Int} (hj:In3 j) {m:Msg} (hm:MOK G m) :
    ∃ G',GhLe G G' ∧ WInv G' (w ++ ofMs (heL (getP j z) m)) (Go.Crc.setP j (idQ (getP j z) (heZ (getP j z) m)) z):=by
  rw [idQ_he]
  have hp:=pOf_get z hj
  have hsm:=h.sm j hj
  obtain ⟨b1,b2,b3,b4⟩:=h.px.bal (j + 3) (jn_of hj)
  rw [hp] at b1 b2 b3 b4
  have hsame:∀ q,q = getP j z → upI (pOf z) (j + 3) q = pOf z:=fun q hq=>by
    funext k
    by_cases hk:k = j + 3
    · subst hk; rw [upI_same,hp,hq]
    · rw [upI_ne _ _ hk]
  have hno:heL (getP j z) m = [] → heZ (getP j z) m = getP j z → ∃ G',GhLe G G' ∧ WInv G' (w ++ ofMs (heL (getP j z) m)) (Go.Crc.setP j (heZ (getP j z) m) z):=fun e1 e2=>by
    rw [e1,e2]
    refine ⟨G,GhLe.refl G,?_⟩
    have:w ++ ofMs [] = w:=List.append_nil w
    rw [this]
    exact h.setP hj (GhLe.refl G) (by rw [hsame _ rfl]; exact h.px) hsm
  cases hM:heMine (getP j z) m with
  | false=>exact hno (by unfold heL; rw [hM]; rfl) (by unfold heZ; rw [hM]; rfl)
  | true =>
  have hM2:=hM
  unfold heMine at hM2
  simp only [Bool.and_eq_true,beq_iff_eq] at hM2
  obtain ⟨hr,_,_,hba,_⟩:=hM2
  have hba1:∀ (hk:m.k = 8 ∨ m.k = 9 ∨ m.k = 10),0 < m.ba:=fun hk=>by
    have:=(right_p hr).ba (by omega)
    omega
  cases hP:heIsP (getP j z) m with
  | true =>
    unfold heIsP at hP
    simp only [Bool.and_eq_true,beq_iff_eq,Bool.not_eq_true'] at hP
    obtain ⟨h8,hask⟩:=hP
    have hP:heIsP (getP j z) m = true:=by unfold heIsP; rw [h8,hask]; rfl
    have hpr:=hm.prom h8
    have hpx:=h.px.heardP (jn_of hj) hpr (by rw [hp]; exact hba) (by rw [hp]; exact hask)
    rw [hp] at hpx
    have hids:(heP2 (heP1 (getP j z) m) m).nodes = (getP j z).nodes ∧ (heP2 (heP1 (getP j z) m) m).ba = (getP j z).ba ∧ (heP2 (heP1 (getP j z) m) m).asked = false ∧ (heP2 (heP1 (getP j z) m) m).cs = (getP j z).cs ∧ (heP2 (heP1 (getP j z) m) m).ch = (getP j z).ch ∧ smC (heP2 (heP1 (getP j z) m) m).ss (heP2 (heP1 (getP j z) m) m).sh = true:=by
      unfold heP2
      cases decide (m.ol > (heP1 (getP j z) m).old) with
      | true=>exact ⟨rfl,rfl,hask,rfl,rfl,smM hr⟩
      | false=>exact ⟨rfl,rfl,hask,rfl,rfl,hsm.2⟩
    obtain ⟨i2,i3,i4,i5,i6,i7⟩:=hids
    cases hE:enoughB (heP2 (heP1 (getP j z) m) m).pm.length (getP j z).nodes.length with
    | false =>
      have e1:heL (getP j z) m = []:=by unfold heL; rw [hM,hP,hE]; rfl
      have e2:heZ (getP j z) m = heP2 (heP1 (getP j z) m) m:=by unfold heZ heP; rw [hM,hP,hE]; rfl
      rw [e1,e2]
      have:w ++ ofMs [] = w:=List.append_nil w
      rw [this]
      exact ⟨G,GhLe.refl G,h.setP hj (GhLe.refl G) hpx ⟨by rw [i5,i6]; exact hsm.1,i7⟩⟩
    | true =>
      have e2:heZ (getP j z) m = { heP2 (heP1 (getP j z) m) m with asked:=true }:=by unfold heZ heP; rw [hM,hP,hE]; rfl
      have e1:heL (getP j z) m = allM { heP2 (heP1 (getP j z) m) m with asked:=true } (accM { heP2 (heP1 (getP j z) m) m with asked:=true }):=by unfold heL heP; rw [hM,hP,hE]; rfl
      have hlen:2 ≤ (heP2 (heP1 (getP j z) m) m).pm.length:=by
        rcases Nat.lt_or_ge (heP2 (heP1 (getP j z) m) m).pm.length 2 with hlt | hge
        · exfalso
          unfold enoughB at hE
          rw [b2] at hE
          have hE:=of_decide_eq_true hE
          rw [wrap_i64 (by omega) (by omega)] at hE
          simp only [List.length_cons,List.length_nil] at hE
          omega
        · exact hge
      rw [e1,e2]
      generalize heP2 (heP1 (getP j z) m) m = q at *
      have hq:upI (pOf z) (j + 3) q (j + 3) = q:=upI_same _ _ _
      have hask2:=hpx.asks (jn_of hj) (by rw [hq]; exact i4) (by rw [hq,i3,← hba]; exact hba1 (.inl h8)) (by rw [hq]; exact hlen)
      rw [hq] at hask2
      have hup:upI (upI (pOf z) (j + 3) q) (j + 3) { q with asked:=true } = upI (pOf z) (j + 3) { q with asked:=true }:=by
        funext k
        by_cases hk:k = j + 3
        · subst hk; rw [upI_same,upI_same]
        · rw [upI_ne _ _ hk,upI_ne _ _ hk,upI_ne _ _ hk]
      rw [hup] at hask2
      refine ⟨_,addProp_le G q.ba (cfP q),(h.setP hj (addProp_le _ _ _) hask2 ⟨by show smC q.cs q.ch = true; rw [i5,i6]; exact hsm.1,i7⟩).way fun y hy=>?_⟩
      rcases List.mem_append.1 hy with hy | hy
      · exact (h.msg y hy).le (addProp_le _ _ _)
      · unfold ofMs allM at hy
        simp only [List.map_map,List.mem_map] at hy
        obtain ⟨x,_,rfl⟩:=hy
        refine ⟨fun _=>.inr ⟨rfl,rfl⟩,fun hh=>?_,fun hh=>?_⟩
        · exact absurd hh (by show ¬ (9:Int) = 8; decide)
        · exact absurd hh (by show ¬ (9:Int) = 10; decide)
  | false =>
    have e1:heL (getP j z) m = []:=by unfold heL; rw [hM,hP]; rfl
    cases hA:heIsA (getP j z) m with
    | false=>exact hno e1 (by unfold heZ; rw [hM,hP,hA]; rfl)
    | true =>
      have e2:heZ (getP j z) m = heA (getP j z) m:=by unfold heZ; rw [hM,hP,hA]; rfl
      unfold heIsA at hA
      simp only [Bool.and_eq_true,beq_iff_eq] at hA
      obtain ⟨h10,hask,_⟩:=hA
      have hpx:=h.px.heardA (jn_of hj) (hm.acd h10) (by rw [hp]; exact hba) (by rw [hp]; exact hask)
      rw [hp] at hpx
      rw [e1,e2]
      have:w ++ ofMs [] = w:=List.append_nil w
      rw [this]
      exact ⟨G,GhLe.refl G,h.setP hj (GhLe.refl G) hpx hsm⟩
theorem WInv.comes {G:Gh} {w:List MsI} {z:WS} (h:WInv G w z) {m:Msg} (hm:MOK G m):∃ G',GhLe G G' ∧ WInv G' (cmW m w z) (cmZ m z):=by
  unfold cmW cmZ
  cases hP:isP m with
  | true =>
    unfold isP at hP
    simp only [Bool.and_eq_true,decide_eq_true_eq] at hP
    exact h.hears (show In3 (m.t - 3) by unfold In3; omega) hm
  | false =>
    cases hA:isA m with
    | true =>
      unfold isA at hA
      simp only [Bool.and_eq_true,Bool.not_eq_true',decide_eq_false_iff_not] at hA
      exact h.takes (show In3 m.t by unfold In3; omega) hm
    | false=>exact ⟨G,GhLe.refl G,h⟩
theorem allM_len (p:PrS) (m:Msg):(allM p m).length = p.nodes.length:=by unfold allM; rw [List.length_map]
theorem stL_len {p:PrS} (hn:p.nodes.length ≤ 3) (n:Int):(stL p n).length ≤ 3:=by
  unfold stL
  cases hK:stOK p n with
  | true =>
    simp only [cond_true]
    rw [allM_len]
    unfold stZ
    rw [hK]; exact hn
  | false=>simp
theorem heL_len {p:PrS} (hn:p.nodes.length ≤ 3) (m:Msg):(heL p m).length ≤ 3:=by
  unfold heL
  cases heMine p m && (heIsP p m && enoughB (heP2 (heP1 p m) m).pm.length p.nodes.length) with
  | true =>
    simp only [cond_true]
    rw [allM_len]
    have:(heP p m).nodes = p.nodes:=by
      unfold heP
      cases enoughB (heP2 (heP1 p m) m).pm.length p.nodes.length <;> (unfold heP2; cases decide (m.ol > (heP1 p m).old) <;> rfl)
    rw [this]; exact hn
  | false=>simp
theorem nodup3 {l:List Int} (hn:l.Nodup) (h:∀ i ∈ l,In3 i):l.length ≤ 3:=by
  match l,hn,h with
  | [],_,_=>simp
  | [_],_,_=>simp
  | [_,_],_,_=>simp
  | [_,_,_],_,_=>simp
  | a :: b :: c :: d :: r,hn,h =>
    exfalso
    simp only [List.nodup_cons,List.mem_cons,not_or] at hn
    have ha:=h a (by simp)
    have hb:=h b (by simp)
    have hc:=h c (by simp)
    have hd:=h d (by simp)
    unfold In3 at ha hb hc hd
    omega
theorem ofMs_len2 (a:List Msg):(ofMs a).length = a.length:=by unfold ofMs; rw [List.length_map]
theorem WInv.nodes {G:Gh} {w:List MsI} {z:WS} (h:WInv G w z) {j:Int} (hj:In3 j):(getP j z).nodes = [0,1,2]:=by
  have:=(h.px.bal (j + 3) (jn_of hj)).2.1
  rwa [pOf_get z hj] at this
theorem WInv.cmC {G:Gh} {w:List MsI} {z:WS} (h:WInv G w z) {j:Int} (hj:In3 j):Go.Crc.cmC (getP j z) = true:=by
  have hp:=pOf_get z hj
  have h1:=h.nodes hj
  obtain ⟨h2,h3⟩:=h.px.pm (j + 3) (jn_of hj)
  obtain ⟨h4,h5⟩:=h.px.am (j + 3) (jn_of hj)
  rw [hp] at h2 h3 h4 h5
  have l1:=nodup3 h2 h3
  have l2:=nodup3 h4 fun i hi=>(h5 i hi).1
  unfold Go.Crc.cmC
  rw [h1,(h.sm j hj).2,decide_eq_true (show (getP j z).pm.length ≤ 1000000 by omega),decide_eq_true (show (getP j z).am.length ≤ 1000000 by omega)]
  rfl
theorem WInv.cmOk {G:Gh} {w:List MsI} {z:WS} (h:WInv G w z) {w':List MsI} (hw:w'.length ≤ 100000) (m:Msg):Go.Crc.cmOk m w' z = true ∧ (cmW m w' z).length ≤ w'.length + 3:=by
  unfold Go.Crc.cmOk cmW
  cases hP:isP m with
  | true =>
    unfold isP at hP
    simp only [Bool.and_eq_true,decide_eq_true_eq] at hP
    have hj:In3 (m.t - 3):=by unfold In3; omega
    have hl:=heL_len (p:=getP (m.t - 3) z) (by rw [h.nodes hj]; decide) m
    simp only [cond_true]
    rw [h.cmC hj]
    unfold roomW
    rw [ofMs_len2,decide_eq_true (show (w'.length + (heL (getP (m.t - 3) z) m).length) * 248 ≤ 140737488355328 by omega)]
    refine ⟨rfl,?_⟩
    rw [List.length_append,ofMs_len2]; omega
  | false =>
    cases hA:isA m with
    | true =>
      unfold isA at hA
      simp only [Bool.and_eq_true,Bool.not_eq_true',decide_eq_false_iff_not] at hA
      have hi:In3 m.t:=by unfold In3; omega
      obtain ⟨F,hF⟩:=h.ac m.t hi
      simp only [cond_true,cond_false]
      rw [hF.inv.good]
      unfold roomW
      rw [decide_eq_true (show (w'.length + 1) * 248 ≤ 140737488355328 by omega)]
      cases ptkE (getA m.t z) m == 0 with
      | true=>refine ⟨rfl,?_⟩; simp only [cond_true,List.length_append,List.length_cons,List.length_nil]; omega
      | false=>refine ⟨rfl,?_⟩; simp only [cond_false]; omega
    | false=>refine ⟨rfl,?_⟩; simp only [cond_false]; omega
theorem stCut_sub {w:List MsI} {n:Int} {y:MsI} (h:y ∈ stCut w n):y ∈ w:=by
  unfold stCut at h
  rcases List.mem_append.1 h with h | h
  · exact List.mem_of_mem_take (List.mem_of_mem_drop h)
  · exact List.mem_of_mem_take (List.mem_of_mem_drop h)
theorem stCut_len (w:List MsI) {n:Int} (h0:0 ≤ n) (h1:n < (w.length:Int)) (hw:w.length ≤ 100000):(stCut w n).length ≤ w.length:=by
  unfold stCut
  rw [wrap_i64 (by omega) (by omega)]
  simp only [List.length_append,List.length_drop,List.length_take]
  omega
theorem WInv.step {G:Gh} {w:List MsI} {z:WS} (h:WInv G w z) (hw:w.length ≤ 50000) (kd who n:Int):stOk kd who n w z = true ∧ (stW kd who n w z).length ≤ w.length + 3 ∧ ∃ G',GhLe G G' ∧ WInv G' (stW kd who n w z) (stZ2 kd who n w z):=by
  have hi:In3 (stWho who):=stWho_in who
  unfold stOk stW stZ2
  rw [decide_eq_true (show w.length ≤ 100000 by omega)]
  cases h0:kd == 0 with
  | true =>
    simp only [cond_true,Bool.true_and]
    have hl:=stL_len (p:=getP (stWho who) z) (by rw [h.nodes hi]; decide) n
    refine ⟨?_,?_,G,GhLe.refl G,h.starts hi n⟩
    · rw [h.nodes hi,decide_eq_true (show (stL (getP (stWho who) z) n).length ≤ 100000 by omega)]; rfl
    · cases stE (getP (stWho who) z) n == 0 with
      | true=>simp only [cond_true,List.length_append,ofMs_len2]; omega
      | false=>simp only [cond_false]; omega
  | false =>
  cases h4:kd == 4 with
  | true =>
    simp only [cond_true,cond_false,Bool.true_and]
    obtain ⟨F,hF⟩:=h.ac _ hi
    exact ⟨hF.inv.good,by omega,G,GhLe.refl G,h.crashes hi n⟩
  | false =>
  cases hH:stHas kd n w with
  | false =>
    simp only [cond_false,Bool.true_and]
    exact ⟨trivial,by omega,G,GhLe.refl G,h⟩
  | true =>
    unfold stHas at hH
    simp only [Bool.and_eq_true,decide_eq_true_eq] at hH
    obtain ⟨_,_,n0,n1⟩:=hH
    have hx:w[n.toNat]? = some w[n.toNat]:=List.getElem?_eq_getElem (by omega)
    have hat:at? w n = some w[n.toNat]:=by
      have:=at_some hx
      rwa [Int.toNat_of_nonneg n0] at this
    have hmo:MOK G (stM n w):=by
      unfold stM
      rw [hat]
      exact h.msg _ (List.getElem_mem _)
    have hrest:(∀ y ∈ stRest kd n w,MOK G (toM y)) ∧ (stRest kd n w).length ≤ w.length:=by
      unfold stRest
      cases kd == 3 with
      | true=>exact ⟨h.msg,Nat.le_refl _⟩
      | false=>exact ⟨fun y hy=>h.msg y (stCut_sub hy),stCut_len w n0 n1 (by omega)⟩
    have hr:=h.way hrest.1
    simp only [cond_true,cond_false,Bool.true_and]
    cases kd == 2 with
    | true=>exact ⟨rfl,by have:=hrest.2; simp only [cond_true]; omega,G,GhLe.refl G,hr⟩
    | false =>
      simp only [cond_false]
      obtain ⟨c1,c2⟩:=hr.cmOk (w':=stRest kd n w) (by have:=hrest.2; omega) (stM n w)
      have:=hrest.2
      exact ⟨c1,by omega,hr.comes hmo⟩
end Go.Crc
