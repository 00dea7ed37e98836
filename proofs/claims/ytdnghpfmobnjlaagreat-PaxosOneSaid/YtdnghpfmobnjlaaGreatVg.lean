/- A part of an evaluator of loaded programs and of the proof that it is right. Conditions: none. -/
import Derived.Test.YtdnghpfmobnjlaaGreatVf
import Derived.Laws.LoneSync
import Derived.Test.YtdnghpfmobnjlaaGreatVa
import Derived.KernelRfl
import Derived.Orders
import Derived.RangeFuncOwn
set_option linter.unusedVariables false
set_option linter.unusedSimpArgs false
namespace Go.Vm
open Go.RowKit (Below)
variable {P:Program} {cf:CallK} {cfg:Cfg} {A:AbsR} {e:Env} {w:World}
theorem Invokes.mono {g:FuncId} {vs:Array Value} {R R':Value → World → Prop} (h:Invokes P g vs w R) (hr:∀ v w',R v w' → R' v w'):Invokes P g vs w R' :=
  fun o a next Q hk=>h o a next Q fun v w' hx=>hk v w' (hr v w' hx)
theorem Invokes.of_value {g:FuncId} {vs:Array Value} {R:Value → World → Prop} {v:Value} {w':World} (h:(callFunc g vs).run P w = .ok (.value v) w') (hr:R v w'):Invokes P g vs w R:=by
  intro o a next Q hk
  rw [h]
  exact hk v w' hr
def rsOf (S:Stack):RS:={ fr:=fun _=>.undef,als:=noAls,H:=S,wr:=[],lds:=noLds }
def noPtrOb:Ob → Bool
  | .cells cs=>noPtr.noPtrs cs
  | .abs _ _=>true
  | .map _=>true
theorem noPtrs_get:∀ {as:List AV},noPtr.noPtrs as = true → ∀ (i:Nat) (a:AV),as[i]? = some a → noPtr a = true
  | [],_,i,a,h=>by simp at h
  | x :: r,hn,i,a,h=>by
    simp only [noPtr.noPtrs,Bool.and_eq_true] at hn
    cases i with
    | zero=>simp at h; subst h; exact hn.1
    | succ i=>exact noPtrs_get hn.2 i a (by simpa using h)
def lonF (l i:Nat):Pl → Pl
  | .ob l' i'=>if l' = l ∧ i' = i then .ob 1 0 else .hid (.ob l' i')
  | .cell l' i' o=>if l' = l ∧ i' = i then .cell 1 0 o else .hid (.cell l' i' o)
  | .io a b=>.io a b
  | p=>.hid p
def outF1 (l i:Nat):Pl → Pl
  | .ob 1 0=>.ob l i
  | .cell 1 0 o=>.cell l i o
  | .hid p=>p
  | .io a b=>.io a b
  | p=>.hid p
instance (l i:Nat):ObF (lonF l i):=⟨fun p=>by
  unfold lonF
  repeat' split
  all_goals rfl⟩
instance (l i:Nat):ObF (outF1 l i):=⟨fun p=>by
  unfold outF1
  repeat' split
  all_goals rfl⟩
theorem ob_ren {l i l0 i0 b:Nat} {x:Ob} {e1 e2:Env} {f:Pl → Pl} {w':World} (hx:noPtrOb x = true) (h:ObR A e1 w' l0 i0 b x) (hf:f (.ob l0 i0) = .ob l i) (hc:∀ o,f (.cell l0 i0 o) = .cell l i o) (ho:e2.own = (e1.ren f).own) (hcl:e2.cl = e1.cl):ObR A e2 w' l i b x:=by
  obtain ⟨c,ty,fz,h1,h2,h3,h4⟩:=h
  refine ⟨c,ty,fz,h1,by rw [ho,Env.ren_own h2,hf],by rw [hcl]; exact h3,?_⟩
  cases x with
  | abs k d=>exact h4
  | map _=>trivial
  | cells cs =>
    refine ⟨h4.1,fun o av u ha hu=>?_⟩
    have hv:=h4.2 o av u ha hu
    have hv2:VR ((e1.dr l0).ren f) (some (.cell l i o)) none av u:=VR.ren (f:=f) (by simp [hc]) (by simp) hv
    exact VR.noPtr (e:=(e1.dr l0).ren f) (e':=e2.dr l) hcl ho av _ _ u (noPtrs_get hx o av ha) hv2
theorem frame1 {g:FuncId} {o:Nat} {rest:List AV} {x x':Ob} {v:AV} {wr0:Wr} (hrest:noPtr.noPtrs rest = true) (hv:noPtr v = true) (hx:noPtrOb x = true) (hx':noPtrOb x' = true)
    (h:SimCall P A g (.ptr 1 0 o :: rest) [[],[x]] (v,wr0,[[],[x']])) {l i:Nat} {S:Stack} (hg:getH S l i = some x) :
    SimCall P A g (.ptr l i o :: rest) S (v,bif memWr 1 0 wr0 then [(l,i)] else [],setH S l i x'):=by
  intro e vs w hw hH hA
  obtain ⟨b,hb,hob⟩:=hH.ob l i x hg
  have hown:∃ n,e.own b = some (.ob l i,n):=by obtain ⟨c,ty,fz,h1,h2,_⟩:=hob; exact ⟨_,h2⟩
  obtain ⟨nb,hown⟩:=hown
  let e0:Env:={ rho:=[[],[b]],own:=(e.ren (lonF l i)).own,cl:=e.cl }
  have hw0:WOK e0 w:=⟨hw.holds,(hw.ren (f:=lonF l i)).free⟩
  have hH0:HR A e0 [[],[x]] w:=by
    refine ⟨⟨rfl,rfl,trivial⟩,fun l' i' y hy=>?_⟩
    match l',i',hy with
    | 0,i',hy=>simp [getH,nth] at hy
    | 1,0,hy =>
      simp only [getH,nth,Option.some.injEq] at hy
      subst hy
      exact ⟨b,rfl,ob_ren hx hob (by simp [lonF]) (by simp [lonF]) rfl rfl⟩
    | 1,i' + 1,hy=>simp [getH,nth] at hy
    | l' + 2,i',hy=>simp [getH] at hy
  have hA0:ArgsR e0 (.ptr 1 0 o :: rest) vs.toList:=by
    obtain ⟨g1,g2⟩:=hA
    refine ⟨by simpa using g1,fun j y u hy hu=>?_⟩
    cases j with
    | zero =>
      simp only [List.getElem?_cons_zero,Option.some.injEq] at hy
      subst hy
      have:=g2 0 (.ptr l i o) u rfl hu
      simp only [VR] at this ⊢
      obtain ⟨b',h1,h2⟩:=this
      rw [hb] at h1; cases h1
      exact ⟨b,rfl,h2⟩
    | succ j =>
      have hy':rest[j]? = some y:=by simpa using hy
      have:=g2 (j + 1) y u (by simpa using hy') hu
      exact VR.noPtr (e:=e.ren (lonF l i)) (e':=e0) rfl rfl y _ _ u (noPtrs_get hrest j y hy') (VR.ren (by simp [lonF]) (by simp [lonF]) this)
  refine (h e0 vs w hw0 hH0 hA0).mono fun val w' hE=>?_
  obtain ⟨e1,k1,k2,k3,k4,k5⟩:=hE
  have hb1:rhoAt e1.rho 1 0 = some b:=k5 1 0 b rfl
  let e2:Env:={ rho:=e.rho,own:=(e1.ren (outF1 l i)).own,cl:=e1.cl }
  have hnot:∀ l' i' b',rhoAt e.rho l' i' = some b' → ¬ (l' = l ∧ i' = i) → b' < w.heap.size ∧ ∃ n,e.own b' = some (.ob l' i',n) ∧ e0.own b' = some (.hid (.ob l' i'),n):=by
    intro l' i' b' hb' hne
    obtain ⟨n,hn⟩:=HR.noown (s:=rsOf S) hH hb'
    exact ⟨hw.own_lt hn,n,hn,by show (e.ren (lonF l i)).own b' = _; rw [Env.ren_own hn]; simp [lonF,hne]⟩
  refine ⟨e2,⟨k1.holds,(k1.ren (f:=outF1 l i)).free⟩,⟨hH.par.setH _ _ _,fun l' i' y hy=>?_⟩,?_,?_,fun _ _ _ h=>h⟩
  · by_cases hne:l' = l ∧ i' = i
    · obtain ⟨rfl,rfl⟩:=hne
      rw [getH_setH_same _ _ _ _ _ hg] at hy
      cases hy
      obtain ⟨b1,hb1',hob1⟩:=k2.ob 1 0 x' rfl
      rw [hb1] at hb1'; cases hb1'
      exact ⟨b,hb,ob_ren hx' hob1 (by simp [outF1]) (by simp [outF1]) rfl rfl⟩
    · have hne':l' ≠ l ∨ i' ≠ i:=by
        by_cases hl:l' = l
        · exact .inr fun hi=>hne ⟨hl,hi⟩
        · exact .inl hl
      rw [getH_setH_ne _ _ _ _ _ _ hne'] at hy
      obtain ⟨b2,hb2,c,ty,fz,g1,g2,g3,g4⟩:=hH.ob l' i' y hy
      obtain ⟨q1,n,q2,q3⟩:=hnot l' i' b2 hb2 hne
      obtain ⟨s1,s2,s3⟩:=k4.stay b2 q1 (.inr ⟨_,_,q3⟩)
      rw [g2] at q2
      simp only [Option.some.injEq,Prod.mk.injEq,true_and] at q2
      refine ⟨b2,hb2,c,ty,fz,by rw [s1]; exact g1,?_,fun o=>(s3 o).trans (g3 o),?_⟩
      · show (e1.ren (outF1 l i)).own b2 = _
        rw [q3] at s2
        rw [Env.ren_own s2]
        simp [outF1,q2]
      · cases y with
        | abs k d=>exact g4
        | map _=>trivial
        | cells cs =>
          refine ⟨g4.1,fun o av u ha hu=>?_⟩
          refine VR.mono (e:=e.dr l') (e':=e2.dr l') (fun _ _ _ h=>h) k4.cl av _ _ none none u (fun p hp=>?_) (by simp) (g4.2 o av u ha hu)
          cases hp
          refine ⟨_,rfl,⟨fun b3 m hm=>?_⟩⟩
          have hm':e.own b3 = some (.cell l' i' o,m):=hm
          have h0:e0.own b3 = some (.hid (.cell l' i' o),m):=by
            show (e.ren (lonF l i)).own b3 = _
            rw [Env.ren_own hm']
            simp [lonF,hne]
          obtain ⟨t1,t2,t3⟩:=k4.stay b3 (hw.own_lt hm') (.inr ⟨_,_,h0⟩)
          rw [h0] at t2
          exact ⟨by show (e1.ren (outF1 l i)).own b3 = _; rw [Env.ren_own t2]; rfl,fun o' ho=>(t3 o').trans ho⟩
  · exact VR.noPtr (e:=e1.ren (outF1 l i)) (e':=e2) rfl rfl v _ _ val hv (VR.ren (by simp [outF1]) (by simp [outF1]) k3)
  · refine ⟨k4.os,k4.tape,k4.output,k4.size,k4.cl,fun b' hb' ho=>?_,fun _ _ _ h=>h,fun l' i' b' hb' hm=>?_⟩
    · rcases ho with ho | ⟨p,n,ho⟩
      · have h0:e0.own b' = none:=by show (e.ren (lonF l i)).own b' = _; simp [Env.ren,ho]
        obtain ⟨t1,t2,t3⟩:=k4.stay b' hb' (.inl h0)
        rw [h0] at t2
        exact ⟨t1,by show (e1.ren (outF1 l i)).own b' = _; simp [Env.ren,t2,ho],t3⟩
      · have h0:e0.own b' = some (.hid (.hid p),n):=by show (e.ren (lonF l i)).own b' = _; rw [Env.ren_own ho]; rfl
        obtain ⟨t1,t2,t3⟩:=k4.stay b' hb' (.inr ⟨_,_,h0⟩)
        rw [h0] at t2
        exact ⟨t1,by show (e1.ren (outF1 l i)).own b' = _; rw [Env.ren_own t2,ho]; rfl,t3⟩
    · by_cases hne:l' = l ∧ i' = i
      · obtain ⟨rfl,rfl⟩:=hne
        rw [hb] at hb'; cases hb'
        refine k4.obs 1 0 b rfl ?_
        cases hmw:memWr 1 0 wr0 with
        | false=>rfl
        | true=>rw [hmw] at hm; simp [memWr,(beq_iff _ _).2 rfl] at hm
      · obtain ⟨q1,n,q2,q3⟩:=hnot l' i' b' hb' hne
        exact (k4.stay b' q1 (.inr ⟨_,_,q3⟩)).1
def IntsR (cs:List AV) (c:List Value):Prop :=
  cs.length = c.length ∧ ∀ (o:Nat) av u,cs[o]? = some av → c[o]? = some u → ∃ k n,av = .int k n ∧ u = .int k n ∧ k.has n
def intsB:List AV → Bool
  | []=>true
  | .int _ _ :: r=>intsB r
  | _=>false
theorem intsB_get:∀ {cs:List AV},intsB cs = true → ∀ (o:Nat) av,cs[o]? = some av → ∃ k n,av = .int k n
  | [],_,o,av,h=>by simp at h
  | a :: r,hb,o,av,h=>by
    cases a with
    | int k n =>
      cases o with
      | zero=>simp at h; exact ⟨k,n,h.symm⟩
      | succ o=>exact intsB_get (cs:=r) hb o av (by simpa using h)
    | _=>simp [intsB] at hb
theorem IntsR.cells {l i:Nat} {cs:List AV} {c:List Value} (h:IntsR cs c):CellsR e l i cs c:=by
  refine ⟨h.1,fun o av u ha hu=>?_⟩
  obtain ⟨k,n,rfl,rfl,h3⟩:=h.2 o av u ha hu
  simp only [VR]
  exact ⟨trivial,h3⟩
theorem IntsR.of_cells {l i:Nat} {cs:List AV} {c:List Value} (hb:intsB cs = true) (h:CellsR e l i cs c):IntsR cs c:=by
  refine ⟨h.1,fun o av u ha hu=>?_⟩
  obtain ⟨k,n,rfl⟩:=intsB_get hb o av ha
  have:=h.2 o _ u ha hu
  simp only [VR] at this
  exact ⟨k,n,rfl,this.1,this.2⟩
abbrev Kinds:=Nat → List Int → List AV → Prop
def absOf (K:Kinds):AbsR:=fun k d c=>∃ cs,K k d cs ∧ IntsR cs c
theorem HR.ofAbs {K:Kinds} {S:Stack} {l i k:Nat} {d:List Int} (hH:HR (absOf K) e S w) (hg:getH S l i = some (.abs k d)):∃ cs,K k d cs ∧ HR (absOf K) e (setH S l i (.cells cs)) w:=by
  obtain ⟨b,hb,c,ty,fz,h1,h2,h3,cs,h4,h5⟩:=hH.ob l i _ hg
  refine ⟨cs,h4,hH.par.setH _ _ _,fun l' i' y hy=>?_⟩
  by_cases hne:l' = l ∧ i' = i
  · obtain ⟨rfl,rfl⟩:=hne
    rw [getH_setH_same _ _ _ _ _ hg] at hy
    cases hy
    exact ⟨b,hb,c,ty,fz,h1,h2,h3,h5.cells⟩
  · rw [getH_setH_ne _ _ _ _ _ _ (by by_cases hl:l' = l; exact .inr fun hi=>hne ⟨hl,hi⟩; exact .inl hl)] at hy
    exact hH.ob l' i' y hy
theorem Par.unsetH:∀ {R:Rho} {H:Stack} (l i:Nat) (y:Ob),Par R (Vm.setH H l i y) → Par R H
  | [],[],_,_,_,h=>by simp [Par]
  | r :: R,a :: S,0,i,y,h=>by simp only [Vm.setH,Par,setAt_eq,List.length_set] at h ⊢; exact h
  | r :: R,a :: S,l + 1,i,y,h=>by simp only [Vm.setH,Par] at h ⊢; exact ⟨h.1,Par.unsetH l i y h.2⟩
  | [],_ :: _,0,_,_,h=>by simp [Vm.setH,Par] at h
  | [],_ :: _,_ + 1,_,_,h=>by simp [Vm.setH,Par] at h
  | _ :: _,[],_,_,_,h=>by simp [Vm.setH,Par] at h
theorem HR.toAbs {K:Kinds} {S:Stack} {l i k:Nat} {d:List Int} {cs:List AV} {x:Ob} (hg0:getH S l i = some x) (hH:HR (absOf K) e (setH S l i (.cells cs)) w) (hk:K k d cs) (hi:intsB cs = true):HR (absOf K) e (setH S l i (.abs k d)) w:=by
  refine ⟨(hH.par.unsetH _ _ _).setH _ _ _,fun l' i' y hy=>?_⟩
  by_cases hne:l' = l ∧ i' = i
  · obtain ⟨rfl,rfl⟩:=hne
    rw [getH_setH_same _ _ _ _ _ hg0] at hy
    cases hy
    obtain ⟨b,hb,c,ty,fz,h1,h2,h3,h4⟩:=hH.ob l' i' (.cells cs) (getH_setH_same _ _ _ _ _ hg0)
    exact ⟨b,hb,c,ty,fz,h1,h2,h3,cs,hk,IntsR.of_cells hi h4⟩
  · have hn:l' ≠ l ∨ i' ≠ i:=by by_cases hl:l' = l; exact .inr fun hi=>hne ⟨hl,hi⟩; exact .inl hl
    rw [getH_setH_ne _ _ _ _ _ _ hn] at hy
    exact hH.ob l' i' y (by rw [getH_setH_ne _ _ _ _ _ _ hn]; exact hy)
theorem abs1 {K:Kinds} {g:FuncId} {args:List AV} {k k':Nat} {d d':List Int} {v:AV} {wr:Wr}
    (h:∀ cs,K k d cs → ∃ cs',K k' d' cs' ∧ intsB cs' = true ∧ SimCall P (absOf K) g args [[],[.cells cs]] (v,wr,[[],[.cells cs']])) :
    SimCall P (absOf K) g args [[],[.abs k d]] (v,wr,[[],[.abs k' d']]):=by
  intro e vs w hw hH hA
  obtain ⟨cs,hk,hH2⟩:=HR.ofAbs (l:=1) (i:=0) hH rfl
  obtain ⟨cs',hk',hi',hs⟩:=h cs hk
  refine (hs e vs w hw hH2 hA).mono fun val w' ⟨e',k1,k2,k3,k4,k5⟩=>?_
  exact ⟨e',k1,HR.toAbs (S:=[[],[.cells cs']]) (l:=1) (i:=0) (x:=.cells cs') rfl k2 hk' hi',k3,k4,k5⟩
theorem abs_new {K:Kinds} {g:FuncId} {args:List AV} {k':Nat} {d':List Int} {v:AV} {wr:Wr} {l:List Ob} {S:Stack} {cs':List AV} (hk:K k' d' cs') (hi:intsB cs' = true)
    (h:SimCall P (absOf K) g args (l :: S) (v,wr,app l [.cells cs'] :: S)):SimCall P (absOf K) g args (l :: S) (v,wr,app l [.abs k' d'] :: S):=by
  intro e vs w hw hH hA
  refine (h e vs w hw hH hA).mono fun val w' ⟨e',k1,k2,k3,k4,k5⟩=>?_
  refine ⟨e',k1,?_,k3,k4,k5⟩
  have hg:getH (app l [.cells cs'] :: S) 0 l.length = some (.cells cs'):=by simp [getH,nth_eq,app_eq]
  have hset:∀ y,setH (app l [.cells cs'] :: S) 0 l.length y = app l [y] :: S:=by
    intro y
    simp [setH,setAt_eq,app_eq]
  have:=HR.toAbs (cs:=cs') (l:=0) (i:=l.length) hg (by rw [hset]; exact k2) hk hi
  rwa [hset] at this
end Go.Vm
namespace Go.Vm
variable {P:Program} {cf:CallK} {cfg:Cfg} {A:AbsR} {e:Env} {w:World}
abbrev Contract:=List AV → Stack → (Res → Option Res) → Option Res
def Con (P:Program) (A:AbsR) (g:Nat) (c:Contract):Prop :=
  ∀ args S k r,c args S k = some r → ∃ res,(∀ k',c args S k' = k' res) ∧ k res = some r ∧ SimCall P A g args S res ∧ ∀ l i,memWr l i res.2.1 = false → ObE (getH res.2.2 l i) (getH S l i) ∨ (l = 0 ∧ headLen S ≤ i)
structure Ent (P:Program) (A:AbsR) where
  g:Nat
  c:Contract
  ok:Con P A g c
def cfE:List (Ent P A) → CallK
  | [],_,_,_,_=>none
  | x :: r,g,args,S,k=>bif Nat.beq g x.g then x.c args S k else cfE r g args S k
theorem cfE_ok:∀ (l:List (Ent P A)),CfOK P A (cfE l)
  | []=>⟨fun g args S k r h=>(nomatch h),fun g args S res h=>(nomatch h),fun g args S res h=>(nomatch h)⟩
  | x :: r=>by
    have ih:=cfE_ok r
    refine ⟨fun g args S k q h=>?_,fun g args S res h=>?_,fun g args S res h=>?_⟩
    · simp only [cfE] at h ⊢
      cases hb:Nat.beq g x.g with
      | true =>
        rw [hb] at h
        obtain ⟨res,h1,h2,_⟩:=x.ok args S k q h
        exact ⟨res,by simpa using h1 some,h2⟩
      | false=>rw [hb] at h; simpa using ih.nat g args S k q h
    · simp only [cfE] at h
      cases hb:Nat.beq g x.g with
      | true =>
        rw [hb] at h
        obtain ⟨res',h1,h2,h3,_⟩:=x.ok args S some res h
        cases h2
        rw [(beq_iff _ _).1 hb]; exact h3
      | false=>rw [hb] at h; exact ih.sim g args S res h
    · simp only [cfE] at h
      cases hb:Nat.beq g x.g with
      | true =>
        rw [hb] at h
        obtain ⟨res',h1,h2,_,h3⟩:=x.ok args S some res h
        cases h2
        exact h3
      | false=>rw [hb] at h; exact ih.frame g args S res h
theorem SimCall.ranged {g:FuncId} {args:List AV} {S:Stack} {res:Res} (h:okAVs args → okH S → SimCall P A g args S res):SimCall P A g args S res:=by
  intro e vs w h1 h2 h3
  refine h ?_ h2.ok e vs w h1 h2 h3
  rw [okAVs_iff]
  intro v hv
  obtain ⟨i,hi⟩:=List.getElem?_of_mem hv
  have hlt:i < vs.toList.length:=by rw [← h3.1]; exact (List.getElem?_eq_some_iff.1 hi).1
  exact VR.ok v _ _ _ (h3.2 i v _ hi (List.getElem?_eq_getElem hlt))
theorem SimCall.wr {g:FuncId} {args:List AV} {S S':Stack} {v:AV} {wr wr':Wr} (h:SimCall P A g args S (v,wr,S')) (hw:WLe wr wr'):SimCall P A g args S (v,wr',S'):=by
  intro e vs w h1 h2 h3
  exact (h e vs w h1 h2 h3).mono fun val w' ⟨e',k1,k2,k3,k4,k5⟩=>⟨e',k1,k2,k3,k4.weaken hw,k5⟩
def pureC (f:List AV → Tr AV):Contract:=fun args S k=>(f args).run fun v=>k (v,[],S)
theorem copyvs_refl_ObE (x:Option Ob):ObE x x:=by
  cases x with
  | none=>rfl
  | some x=>cases x <;> rfl
theorem pureC_ok {g:Nat} {f:List AV → Tr AV} (h:∀ args v,(f args).val = some v → okAVs args → ∀ S,SimCall P A g args S (v,[],S)):Con P A g (pureC f):=by
  intro args S k r hc
  obtain ⟨v,h1,h2,h3⟩:=Tr.run_val hc
  refine ⟨(v,[],S),fun k'=>?_,h2,SimCall.ranged fun ho _=>h args v h1 ho S,fun l i _=>.inl (copyvs_refl_ObE _)⟩
  exact h3 fun v=>k' (v,[],S)
def objC (off:Nat) (f:Ob → List AV → Tr (AV × Bool × Ob)):Contract:=fun args S k=>match args with
  | .ptr l i o :: rest=>bif Nat.beq o off then (match getH S l i with
      | some x=>(f x rest).run fun y=>match y with | (v,wrote,x')=>k (v,bif wrote then [(l,i)] else [],bif wrote then setH S l i x' else S)
      | none=>none) else none
  | _=>none
theorem setH_same:∀ {S:Stack} {l i:Nat} {x:Ob},getH S l i = some x → setH S l i x = S
  | [],_,_,_,h=>by simp [getH] at h
  | a :: S,0,i,x,h=>by
    simp only [getH,nth_eq] at h
    simp only [setH,setAt_eq]
    congr 1
    refine List.ext_getElem? fun j=>?_
    rw [List.getElem?_set]
    by_cases hij:i = j
    · subst hij
      rw [if_pos rfl]
      have:i < a.length:=(List.getElem?_eq_some_iff.1 h).1
      rw [if_pos this,h]
    · rw [if_neg hij]
  | a :: S,l + 1,i,x,h=>by
    simp only [getH] at h
    simp only [setH]
    rw [setH_same h]
theorem objC_ok {g off:Nat} {f:Ob → List AV → Tr (AV × Bool × Ob)}
    (h:∀ x rest v wrote x',(f x rest).val = some (v,wrote,x') → noPtrOb x = true ∧ noPtr.noPtrs rest = true ∧ noPtr v = true ∧ noPtrOb x' = true ∧ (wrote = false → x' = x) ∧
      (okAVs rest → okH [[],[x]] → SimCall P A g (.ptr 1 0 off :: rest) [[],[x]] (v,bif wrote then [(1,0)] else [],[[],[x']]))):Con P A g (objC off f):=by
  intro args S k r hc
  unfold objC at hc ⊢
  split at hc
  · rename_i l i o rest
    cases hb:Nat.beq o off with
    | false=>simp only [hb,cond_false] at hc; cases hc
    | true =>
    have ho:=(beq_iff _ _).1 hb
    subst ho
    cases hg:getH S l i with
    | none=>simp only [hb,hg,cond_true] at hc; cases hc
    | some x =>
      simp only [hb,hg,cond_true] at hc
      obtain ⟨⟨v,wrote,x'⟩,h1,h2,h3⟩:=Tr.run_val hc
      obtain ⟨g1,g2,g3,g4,g5,g6⟩:=h x rest v wrote x' h1
      refine ⟨(v,bif wrote then [(l,i)] else [],bif wrote then setH S l i x' else S),fun k'=>?_,h2,?_,fun l' i' hm=>?_⟩
      · simp only [hb,cond_true,hg]
        exact h3 _
      · refine SimCall.ranged fun ha hh=>?_
        have hok:okH [[],[x]]:=by
          intro l' i' cs hcs
          match l',i',hcs with
          | 0,i',hcs=>simp [getH,nth] at hcs
          | 1,0,hcs =>
            simp only [getH,nth,Option.some.injEq] at hcs
            subst hcs
            exact hh l i cs hg
          | 1,i' + 1,hcs=>simp [getH,nth] at hcs
          | l' + 2,i',hcs=>simp [getH] at hcs
        have hs:=frame1 g2 g3 g1 g4 (g6 (by simp only [okAVs] at ha; exact ha.2) hok) hg
        cases wrote with
        | true=>simpa [memWr,(beq_iff _ _).2 rfl] using hs
        | false =>
          rw [g5 rfl] at hs
          rw [setH_same hg] at hs
          simpa [memWr] using hs
      · cases wrote with
        | false=>exact .inl (copyvs_refl_ObE _)
        | true =>
          simp only [cond_true] at hm ⊢
          refine .inl ?_
          have hne:l' ≠ l ∨ i' ≠ i:=by
            simp only [memWr,Bool.or_false,Bool.and_eq_false_iff,beq_false] at hm
            exact hm
          rw [getH_setH_ne _ _ _ _ _ _ hne]
          exact copyvs_refl_ObE _
  · cases hc
def newC (f:List AV → Tr Ob):Contract:=fun args S k=>match S with
  | l :: S'=>(f args).run fun x=>k (.ptr 0 (lenN l) 0,[],app l [x] :: S')
  | []=>none
theorem newC_ok {g:Nat} {f:List AV → Tr Ob} (h:∀ args x,(f args).val = some x → okAVs args → ∀ l S,SimCall P A g args (l :: S) (.ptr 0 (lenN l) 0,[],app l [x] :: S)):Con P A g (newC f):=by
  intro args S k r hc
  unfold newC at hc ⊢
  cases S with
  | nil=>cases hc
  | cons l S =>
    obtain ⟨x,h1,h2,h3⟩:=Tr.run_val hc
    refine ⟨(.ptr 0 (lenN l) 0,[],app l [x] :: S),fun k'=>h3 _,h2,SimCall.ranged fun ho _=>h args x h1 ho l S,fun l' i' _=>?_⟩
    cases l' with
    | succ l'=>exact .inl (copyvs_refl_ObE _)
    | zero =>
      simp only [headLen,lenN_eq]
      rcases Nat.lt_or_ge i' l.length with hi | hi
      · left
        simp only [getH,nth_eq,app_eq]
        rw [List.getElem?_append_left hi]
        exact copyvs_refl_ObE _
      · exact .inr ⟨trivial,hi⟩
def sumT (f:List AV → Stack → Tr (Ex × List AV × Stack × Wr)):List AV → Stack → Wr → (Ex → List AV → Stack → Wr → Option Res) → Option Res :=
  fun vs H wr k=>(f vs H).run fun y=>match y with | (ex,vs',H',w)=>k ex vs' H' (app w wr)
def loopT (live outs:List Nat) (f:List AV → Stack → Tr (Ex × List AV × Stack × Wr)):LoopSum:=⟨live,outs,sumT f⟩
theorem loopT_ok {n:Nat} {body:Fr → Stack → Wr → Kont → Option Res} {live outs:List Nat} {f:List AV → Stack → Tr (Ex × List AV × Stack × Wr)} (hlt:∀ t ∈ live,t < n)
    (h:∀ vs H wr ex vs' H' w,(f vs H).val = some (ex,vs',H',w) → okAVs vs → okH H → ∃ N,∀ k:Ex → List AV → Stack → Wr → Option Res,loopC body live (headLen H) N vs H wr (fun ex fr H' wr'=>k ex (pickAll fr outs) H' wr') = k ex vs' H' (app w wr)):LoopOK n body (loopT live outs f) where
  lt:=hlt
  nat:=fun vs H wr k r hs=>by
    obtain ⟨⟨ex,vs',H',w⟩,h1,h2,h3⟩:=Tr.run_val hs
    exact ⟨ex,vs',H',app w wr,WLe.right w wr,h2⟩
  ok:=fun vs H wr k r hs ha hh=>by
    obtain ⟨⟨ex,vs',H',w⟩,h1,h2,h3⟩:=Tr.run_val hs
    obtain ⟨N,hN⟩:=h vs H wr ex vs' H' w h1 ha hh
    exact ⟨N,(hN k).trans h2⟩
def lcode (P:Program) (g j:Nat):Code:=match nth (funLoops P g) j with | some x=>x.2 | none=>.skip
def lpos (P:Program) (g:Nat):List Nat:=mapN (·.1) (funLoops P g)
def lfOf:List (Nat × LoopSum) → Nat → Option LoopSum
  | [],_=>none
  | (p,L) :: r,q=>bif Nat.beq q p then some L else lfOf r q
theorem no_loops {g:Nat} {lf:Nat → Option LoopSum} (h:lpos P g = []):∀ x ∈ funLoops P g,∀ L,lf x.1 = some L → LoopOK (ntm P g) (fun fr H wr k=>code P cf cfg lf (cfg.live g) x.2 (2 * x.1) fr H wr k) L:=by
  have:funLoops P g = []:=by
    unfold lpos at h
    rw [mapN_eq] at h
    simpa using h
  rw [this]
  intro x hx
  cases hx
theorem all_loops {g:Nat} {lf:Nat → Option LoopSum} {ps:List Nat} (h:lpos P g = ps) (hall:∀ j p,ps[j]? = some p → ∀ L,lf p = some L → LoopOK (ntm P g) (fun fr H wr k=>code P cf cfg lf (cfg.live g) (lcode P g j) (2 * p) fr H wr k) L) :
    ∀ x ∈ funLoops P g,∀ L,lf x.1 = some L → LoopOK (ntm P g) (fun fr H wr k=>code P cf cfg lf (cfg.live g) x.2 (2 * x.1) fr H wr k) L:=by
  intro x hx L hL
  obtain ⟨j,hj⟩:=List.getElem?_of_mem hx
  have hp:ps[j]? = some x.1:=by
    rw [← h]
    unfold lpos
    rw [mapN_eq,List.getElem?_map,hj]
    rfl
  have:=hall j x.1 hp L hL
  unfold lcode at this
  rwa [nth_eq,hj] at this
theorem one_loop {g p:Nat} {L:LoopSum} {lf:Nat → Option LoopSum} (hlf:lf p = some L) (h:lpos P g = [p]) (hL:LoopOK (ntm P g) (fun fr H wr k=>code P cf cfg lf (cfg.live g) (lcode P g 0) (2 * p) fr H wr k) L) :
    ∀ x ∈ funLoops P g,∀ L,lf x.1 = some L → LoopOK (ntm P g) (fun fr H wr k=>code P cf cfg lf (cfg.live g) x.2 (2 * x.1) fr H wr k) L:=by
  refine all_loops h fun j q hq L' hL'=>?_
  cases j with
  | zero =>
    simp at hq
    subst hq
    rw [hlf] at hL'
    cases hL'
    exact hL
  | succ j=>simp at hq
theorem fun_call (l : List (Ent P A)) (hm : P.follows .mixedOrders = true) {lf : Nat → Option LoopSum} {g : Nat} {args : List AV} {S : Stack} {res : Res} (hn : ((P.funcs[g]?).map fun fn => fn.name == "runtime.NumGoroutine") = some false) (hb : funB P g = true)
    (hl:∀ x ∈ funLoops P g,∀ L,lf x.1 = some L → LoopOK (ntm P g) (fun fr H wr k=>code P (cfE l) cfg lf (cfg.live g) x.2 (2 * x.1) fr H wr k) L) (h:body P (cfE l) cfg lf g args S some = some res):SimCall P A g args S res :=
  fun_invokes (cfE_ok l) hm hn hb hl h
end Go.Vm
namespace Go.Vm
open Go.RowKit (Below)
variable {P:Program} {A:AbsR} {e:Env} {w:World}
theorem Free.frozen {b n o:Nat} {p:Pl} (h:Free w b p n) (ho:o < n):w.frozen? ⟨b,o,none⟩ = false:=by
  obtain ⟨c,ty,lo,hi,h1,h2,h3⟩:=h
  rcases h1 with h1 | ⟨_,h1,_⟩
  case inr=>subst h1; subst h2; simp at ho
  simp only [World.frozen?,h1]
  rcases h3 with h3 | h3
  · simp; omega
  · simp; omega
theorem HR.cell {S:Stack} {l i:Nat} {cs:List AV} (hw:WOK e w) (hH:HR A e S w) (hg:getH S l i = some (.cells cs)):∃ b,rhoAt e.rho l i = some b ∧ ∀ o k n,cs[o]? = some (.int k n) → w.cell? ⟨b,o,none⟩ = some (.int k n) ∧ k.has n ∧ w.frozen? ⟨b,o,none⟩ = false:=by
  obtain ⟨b,hb,c,ty,fz,h1,h2,h3,h4⟩:=hH.ob l i _ hg
  simp only [HB] at h1
  refine ⟨b,hb,fun o k n ho=>?_⟩
  have hlt:o < c.toList.length:=by rw [← h4.1]; exact (List.getElem?_eq_some_iff.1 ho).1
  have hv:=h4.2 o _ _ ho (List.getElem?_eq_getElem hlt)
  simp only [VR] at hv
  refine ⟨?_,hv.2,(hw.free b _ _ h2).frozen (by simpa using hlt)⟩
  simp only [World.cell?,h1]
  have hs:o < c.size:=by simpa using hlt
  simp only [Option.isSome_none,Bool.false_eq_true,if_false]
  rw [Array.getElem?_eq_getElem hs]
  simpa using hv.1
theorem store1 {S:Stack} {l i o:Nat} {cs:List AV} {k:IntKind} {n:Int} {b:Nat} (hw:WOK e w) (hH:HR A e S w) (hg:getH S l i = some (.cells cs)) (hb:rhoAt e.rho l i = some b) (ho:o < cs.length) (hk:k.has n) :
    ∃ e',WOK e' (w.setCell ⟨b,o,none⟩ (.int k n)) ∧ HR A e' (setH S l i (.cells (setAt cs o (.int k n)))) (w.setCell ⟨b,o,none⟩ (.int k n)) ∧ Grow e w e' (w.setCell ⟨b,o,none⟩ (.int k n)) [(l,i)] ∧ RhoLe e e':=by
  obtain ⟨b',hb',c,ty,fz,h1,h2,h3,h4⟩:=hH.ob l i _ hg
  simp only [HB] at h1
  rw [hb] at hb'; cases hb'
  have hr:RR 0 A e (rsOf S) ⟨#[],[]⟩ w:=⟨hw,hH,⟨rfl,fun t ht=>absurd ht (by omega)⟩,fun t src ht=>absurd ht (by omega)⟩
  have hx:∀ q,q ≠ b → (w.setCell ⟨b,o,none⟩ (.int k n)).heap[q]? = w.heap[q]?:=fun q hq=>Go.RowKit.Below.heap_setCell _ _ _ _ hq
  have hc:(w.setCell ⟨b,o,none⟩ (.int k n)).heap[b]? = some (.cells (putL c.toList o (Value.int k n).cells.toList).toArray ty fz):=by
    simp only [World.setCell]
    rw [Array.getElem?_modify,if_pos rfl,h1]
    simp only [Option.map_some,Option.some.injEq]
    have hco:o < c.size:=by
      have:=h4.1
      simp at this
      omega
    simp only [Value.cells,putL]
    congr 1
    apply Array.ext'
    simp
  have hw2:=RR.write (off:=o) (v:=.int k n) (u:=.int k n) hr hb hg h1 hc hx rfl (by simp only [VR]; exact ⟨trivial,hk⟩) (by simp [cellsOf]; omega) (by simp [noPtr])
  refine ⟨_,hw2.wok,?_,Grow.write (s:=rsOf S) hH (f:=stF l i o) (fun p=>rfl) hb hx rfl rfl rfl (by simp [World.setCell]) ,fun _ _ _ h=>h⟩
  have:=hw2.hr
  simpa [rsOf,putCells,cellsOf] using this
theorem drew_ok (hw:WOK e w):WOK e w.drew:=⟨hw.holds,hw.free⟩
theorem HR.drewW {S:Stack} (h:HR A e S w):HR A e S w.drew:=⟨h.par,h.ob⟩
theorem args2 {g:FuncId} {l i o:Nat} {k:IntKind} {x:Int} {vs:Array Value} {b:Nat} (hb:rhoAt e.rho l i = some b) (h:ArgsR e [.ptr l i o,.int k x] vs.toList) (hlo:Nat.blt o mapO = true:=by rfl):vs = #[.pointer (some ⟨b,o,none⟩),.int k x] ∧ k.has x:=by
  obtain ⟨h1,h2⟩:=h
  obtain ⟨l0⟩:=vs
  match l0,h1 with
  | [v0,v1],_ =>
    have g0:=h2 0 _ v0 rfl rfl
    have g1:=h2 1 _ v1 rfl rfl
    simp only [VR] at g0 g1
    obtain ⟨b',q1,q2⟩:=g0
    rw [hb] at q1; cases q1
    rw [q2,g1.1,pval_lt hlo]
    exact ⟨rfl,g1.2⟩
theorem ext_add {f : FuncId} {fn : Func} (hf : P.funcs[f]? = some fn) (hname : (fn.name == "runtime.NumGoroutine") = false) (hb : fn.body.isNone = true) (hn : Extern.findNext fn = none) (k : IntKind)
    (he:Extern.find fn = some (Extern.Atomic.update (Op.intArith .add) k true)) {S:Stack} {l i o:Nat} {cs:List AV} {n x:Int} (hg:getH S l i = some (.cells cs)) (hc:cs[o]? = some (.int k n)) (hlo:Nat.blt o mapO = true:=by rfl) :
    SimCall P A f [.ptr l i o,.int k x] S (.int k (k.wrap (n + x)),[(l,i)],setH S l i (.cells (setAt cs o (.int k (k.wrap (n + x)))))):=by
  intro e vs w hw hH hA
  obtain ⟨b,hb',hcell⟩:=HR.cell hw hH hg
  obtain ⟨g1,g2,g3⟩:=hcell o k n hc
  obtain ⟨rfl,hx⟩:=args2 (g:=f) hb' hA hlo
  obtain ⟨e',k1,k2,k3,k4⟩:=store1 hw hH hg hb' (List.getElem?_eq_some_iff.1 hc).1 (wrap_has k (n + x))
  exact Invokes.of_value (run_call_add hf hname hb hn k he g1 g3 (s:=k.wrap (n + x)) rfl) ⟨e',k1,k2,by simp only [VR]; exact ⟨trivial,wrap_has _ _⟩,k3,k4⟩
end Go.Vm
namespace Go.Vm
theorem wrap_of {k:IntKind} {n:Int} (h1:k.min ≤ n) (h2:n ≤ k.max):k.wrap n = n:=by
  cases k <;> simp [IntKind.wrap,IntKind.min,IntKind.max,IntKind.signed,IntKind.bits] at * <;> omega
theorem bvNat (w a:Nat) (h:a < 2 ^ w):(BitVec.ofInt w (a:Int)).toNat = a:=by
  rw [BitVec.ofInt_natCast,BitVec.toNat_ofNat,Nat.mod_eq_of_lt h]
theorem xor_u {w a b:Nat} (ha:a < 2 ^ w) (hb:b < 2 ^ w):(BitVec.ofInt w (a:Int) ^^^ BitVec.ofInt w (b:Int)).toNat = a ^^^ b:=by
  rw [BitVec.toNat_xor,bvNat w a ha,bvNat w b hb]
theorem and_u {w a b:Nat} (ha:a < 2 ^ w) (hb:b < 2 ^ w):(BitVec.ofInt w (a:Int) &&& BitVec.ofInt w (b:Int)).toNat = a &&& b:=by
  rw [BitVec.toNat_and,bvNat w a ha,bvNat w b hb]
theorem or_u {w a b:Nat} (ha:a < 2 ^ w) (hb:b < 2 ^ w):(BitVec.ofInt w (a:Int) ||| BitVec.ofInt w (b:Int)).toNat = a ||| b:=by
  rw [BitVec.toNat_or,bvNat w a ha,bvNat w b hb]
theorem natCast_toNat {n:Int} (h:0 ≤ n):((n.toNat:Nat):Int) = n:=Int.toNat_of_nonneg h
theorem bitop_xor_u32 {a b:Nat} (ha:a < 2 ^ 32) (hb:b < 2 ^ 32):bitop .xor .u32 (a:Int) (b:Int) = ((a ^^^ b:Nat):Int):=by
  have:a ^^^ b < 2 ^ 32:=Nat.xor_lt_two_pow ha hb
  show IntKind.u32.wrap _ = _
  rw [show IntKind.u32.bits = 32 from rfl,xor_u ha hb]
  exact wrap_of (by simp [IntKind.min,IntKind.signed]) (by simp [IntKind.max,IntKind.signed,IntKind.bits]; omega)
theorem bitop_and_u32 {a b:Nat} (ha:a < 2 ^ 32) (hb:b < 2 ^ 32):bitop .and .u32 (a:Int) (b:Int) = ((a &&& b:Nat):Int):=by
  have:a &&& b < 2 ^ 32:=Nat.and_lt_two_pow _ hb
  show IntKind.u32.wrap _ = _
  rw [show IntKind.u32.bits = 32 from rfl,and_u ha hb]
  exact wrap_of (by simp [IntKind.min,IntKind.signed]) (by simp [IntKind.max,IntKind.signed,IntKind.bits]; omega)
theorem bitop_xor_u8 {a b:Nat} (ha:a < 2 ^ 8) (hb:b < 2 ^ 8):bitop .xor .u8 (a:Int) (b:Int) = ((a ^^^ b:Nat):Int):=by
  have:a ^^^ b < 2 ^ 8:=Nat.xor_lt_two_pow ha hb
  show IntKind.u8.wrap _ = _
  rw [show IntKind.u8.bits = 8 from rfl,xor_u ha hb]
  exact wrap_of (by simp [IntKind.min,IntKind.signed]) (by simp [IntKind.max,IntKind.signed,IntKind.bits]; omega)
theorem shiftR_nat (k:IntKind) (a j:Nat) (hj:j ≤ k.bits):shiftR k (a:Int) (j:Int) = ((a / 2 ^ j:Nat):Int):=by
  unfold shiftR
  rw [Int.toNat_natCast,Nat.min_eq_left hj,Int.fdiv_eq_ediv_of_nonneg _ (by exact_mod_cast Nat.zero_le _)]
  norm_cast
theorem u32_lt {n:Int} (h:IntKind.u32.min ≤ n ∧ n ≤ IntKind.u32.max):0 ≤ n ∧ n.toNat < 2 ^ 32:=by
  simp [IntKind.min,IntKind.max,IntKind.signed,IntKind.bits] at h
  omega
theorem wrap_i64 {n:Int} (h1:-9223372036854775808 ≤ n) (h2:n ≤ 9223372036854775807):IntKind.i64.wrap n = n :=
  wrap_of (by simp [IntKind.min,IntKind.signed,IntKind.bits]; omega) (by simp [IntKind.max,IntKind.signed,IntKind.bits]; omega)
theorem wrap_u8 {n:Int} (h1:0 ≤ n) (h2:n ≤ 255):IntKind.u8.wrap n = n :=
  wrap_of (by simp [IntKind.min,IntKind.signed]; omega) (by simp [IntKind.max,IntKind.signed,IntKind.bits]; omega)
theorem wrap_u8_nat (a:Nat):IntKind.u8.wrap (a:Int) = ((a % 256:Nat):Int):=by
  simp [IntKind.wrap,IntKind.signed,IntKind.bits]
end Go.Vm
namespace Go.Vm
def look (l:List (Nat × List Nat)) (g:Nat):Option (List Nat) :=
  match l with
  | []=>none
  | (h,x) :: r=>bif Nat.beq g h then some x else look r g
def look2 (l:List (Nat × Nat × List Nat)) (g p:Nat):Option (List Nat) :=
  match l with
  | []=>none
  | (h,q,x) :: r=>bif Nat.beq g h && Nat.beq p q then some x else look2 r g p
def cfgOf (own:List (Nat × List Nat)) (res:List Nat) (live:List (Nat × Nat × List Nat)):Cfg :=
  { ownArgs:=fun g=>match look own g with | some l=>l | none=>[],ownRes:=fun g=>memN g res,live:=look2 live }
end Go.Vm
namespace Go.Vm
variable {P:Program} {A:AbsR} {e:Env} {w:World}
def LC (P:Program) (cf:CallK) (cfg:Cfg) (lf:Nat → Option LoopSum) (g j p:Nat) (live outs:List Nat) (N:Nat) (vs:List AV) (H:Stack) (wr:Wr) (k:Ex → List AV → Stack → Wr → Option Res):Option Res :=
  loopC (fun fr H wr k=>code P cf cfg lf (cfg.live g) (lcode P g j) (2 * p) fr H wr k) live (headLen H) N vs H wr (fun ex fr H' wr'=>k ex (pickAll fr outs) H' wr')
theorem setH_setH:∀ (S:Stack) (l i:Nat) (x y:Ob),setH (setH S l i x) l i y = setH S l i y
  | [],_,_,_,_=>rfl
  | a :: S,0,i,x,y=>by simp [setH,setAt_eq]
  | a :: S,l + 1,i,x,y=>by simp [setH,setH_setH S l i x y]
theorem Invokes.calls {g : FuncId} {fn : Func} {c : Code} {vs : Array Value} {R : Value → World → Prop} (hf : P.funcs[g]? = some fn) (hname : (fn.name == "runtime.NumGoroutine") = false) (hb : fn.body = some c) (h : Invokes P g vs w R) :
    Calls P g vs w fun | .returned v,w'=>R v w' | _,_=>False:=by
  have := h { dst := some 0, op := .move (.tmp 0), type := 0, pos := "", after := #[], guard := none } ⟨#[undef], []⟩ (fun a w' => R (a.tmps.getD 0 undef) w') (fun _ _ _ => False) (fun v w' hr => by simpa [Act.put] using hr)
  rw [MuLone.run_callFunc_enter hf hname hb,Oper.upon_enter] at this
  refine this.mono fun x w' hx=>?_
  cases x with
  | returned v=>simpa [Act.put] using hx
  | panicked ch=>exact hx
  | outgrown=>obtain ⟨_,_,hx⟩:=hx; exact hx
theorem memWr_rep (l i a b:Nat):∀ n,memWr l i [(a,b)] = false → memWr l i (repApp n [(a,b)]) = false
  | 0,_=>rfl
  | n + 1,h=>by
    simp only [repApp,memWr_app,memWr_rep l i a b n h,h,Bool.or_self]
theorem cond_eq {α:Type} {b:Bool} {x y:α} (h:b = true):(bif b then x else y) = x:=by rw [h]; rfl
theorem cond_ne {α:Type} {b:Bool} {x y:α} (h:b = false):(bif b then x else y) = y:=by rw [h]; rfl
theorem at_some {α:Type} {xs:List α} {i:Nat} {x:α} (h:xs[i]? = some x):at? xs (i:Int) = some x:=by
  unfold at?
  rw [if_pos (by omega)]
  simpa using h
def stripI:List AV → List AV → Option (List AV)
  | [],cs=>some cs
  | .int k n :: r,.int k' n' :: r'=>match kindEq k k',n == n' with | some _,true=>stripI r r' | _,_=>none
  | _,_=>none
theorem stripI_some:∀ {p cs r:List AV},stripI p cs = some r → cs = p ++ r
  | [],cs,r,h=>by cases h; rfl
  | .int k n :: p,.int k' n' :: cs,r,h=>by
    simp only [stripI] at h
    split at h
    · rename_i q hq hn
      cases q with
      | up h0 =>
        subst h0
        have:=stripI_some h
        rw [this]
        simp only [beq_iff_eq] at hn
        subst hn
        rfl
    · cases h
  | .int _ _ :: _,[],_,h=>by cases h
  | .undef :: _,_,_,h=>by cases h
  | .bool _ :: _,_,_,h=>by cases h
  | .str _ :: _,_,_,h=>by cases h
  | .slice _ _ _ :: _,_,_,h=>by cases h
  | .ptr _ _ _ :: _,_,_,h=>by cases h
  | .nilp :: _,_,_,h=>by cases h
  | .cptr _ _ :: _,_,_,h=>by cases h
  | .func _ _ _ :: _,_,_,h=>by cases h
  | .nilf :: _,_,_,h=>by cases h
  | .agg _ :: _,_,_,h=>by cases h
  | .tuple _ :: _,_,_,h=>by cases h
  | .row _ _ :: _,_,_,h=>by cases h
  | .int _ _ :: _,.undef :: _,_,h=>by cases h
  | .int _ _ :: _,.bool _ :: _,_,h=>by cases h
  | .int _ _ :: _,.str _ :: _,_,h=>by cases h
  | .int _ _ :: _,.slice _ _ _ :: _,_,h=>by cases h
  | .int _ _ :: _,.ptr _ _ _ :: _,_,h=>by cases h
  | .int _ _ :: _,.nilp :: _,_,h=>by cases h
  | .int _ _ :: _,.cptr _ _ :: _,_,h=>by cases h
  | .int _ _ :: _,.func _ _ _ :: _,_,h=>by cases h
  | .int _ _ :: _,.nilf :: _,_,h=>by cases h
  | .int _ _ :: _,.agg _ :: _,_,h=>by cases h
  | .int _ _ :: _,.tuple _ :: _,_,h=>by cases h
  | .int _ _ :: _,.row _ _ :: _,_,h=>by cases h
end Go.Vm
namespace Go.Vm
variable {P:Program} {A:AbsR}
theorem SimCall.nilsplit {g:FuncId} {T:Ty} {xs:List T.interp} {rest:List AV} {S:Stack} {res:Res} (h1:SimCall P A g (.slice T xs .nn :: rest) S res) (h2:xs = [] → SimCall P A g (.slice T xs .nilv :: rest) S res):SimCall P A g (.slice T xs .view :: rest) S res:=by
  intro e vs w hw hH hA
  obtain ⟨g1,g2⟩:=hA
  have hl:0 < vs.toList.length:=by rw [← g1]; simp
  have hv:=g2 0 _ _ rfl (List.getElem?_eq_getElem hl)
  simp only [VR] at hv
  obtain ⟨⟨a,len,cap,q1,q2,q3,q4,q5,q6⟩,_⟩:=hv
  have key:∀ lv,LvR e (some (.io 0 0)) T.size (vs.toList[0]) lv → ArgsR e (.slice T xs lv :: rest) vs.toList:=by
    intro lv hlv
    refine ⟨by simpa using g1,fun i x v hx hv=>?_⟩
    cases i with
    | zero =>
      simp at hx; subst hx
      rw [List.getElem?_eq_getElem hl] at hv; cases hv
      simp only [VR]
      exact ⟨⟨a,len,cap,q1,q2,q3,q4,q5,q6⟩,hlv⟩
    | succ i=>exact g2 (i + 1) x v (by simpa using hx) hv
  cases a with
  | none =>
    have hc:cap = 0:=q5 rfl
    have hx:xs = []:=List.eq_nil_of_length_eq_zero (by omega)
    have hlen:len = 0:=by omega
    exact h2 hx e vs w hw hH (key .nilv (by rw [q1,hc,hlen]; rfl))
  | some ad=>exact h1 e vs w hw hH (key .nn ⟨ad,len,cap,q1⟩)
end Go.Vm
namespace Go.Vm
def foldK {α σ:Type} (step:Int → α → σ → (σ → Option Res) → Option Res) (E:σ → Option Res):Nat → List α → σ → Option Res
  | _,[],s=>E s
  | j,x :: r,s=>step (j:Int) x s fun s'=>foldK step E (j + 1) r s'
theorem wrap_next {j n:Nat} (h:j < n) (hn:n ≤ maxInt):IntKind.i64.wrap ((j:Int) + 1) = ((j + 1:Nat):Int):=by
  simp only [maxInt] at hn
  rw [wrap_i64 (by omega) (by omega)]; omega
theorem fold_loop {α σ:Type} {F:Nat → Int → σ → Option Res} {xs:List α} {m:Int} {step:Int → α → σ → (σ → Option Res) → Option Res} {E:σ → Option Res} (hm:m = (xs.length:Int)) (hl:xs.length ≤ maxInt)
    (h:∀ N i s,F (N + 1) i s = bif decide (i < m) then (at? xs i).bind fun x=>step i x s fun s'=>F N (IntKind.i64.wrap (i + 1)) s' else E s) :
    ∀ (q j:Nat) (s:σ),j + q = xs.length → F (q + 1) (j:Int) s = foldK step E j (xs.drop j) s
  | 0,j,s,hj=>by
    rw [h,cond_ne (decide_eq_false (by omega)),List.drop_of_length_le (by omega)]
    rfl
  | q + 1,j,s,hj=>by
    have hlt:j < xs.length:=by omega
    rw [h,cond_eq (decide_eq_true (by omega)),at_some (List.getElem?_eq_getElem hlt),Option.bind_some,List.drop_eq_getElem_cons hlt,wrap_next hlt hl]
    have:(fun s'=>F (q + 1) ((j + 1:Nat):Int) s') = fun s'=>foldK step E (j + 1) (xs.drop (j + 1)) s':=funext fun s'=>fold_loop hm hl h q (j + 1) s' (by omega)
    rw [this]
    rfl
theorem eq_loop {α:Type} [BEq α] [LawfulBEq α] {F:Nat → Int → Option Res} {xs ys:List α} {m:Int} {R E:Option Res} (hm:m = (xs.length:Int)) (hy:xs.length = ys.length) (hl:xs.length ≤ maxInt)
    (h:∀ N i,F (N + 1) i = bif decide (i < m) then (at? xs i).bind fun x=>(at? ys i).bind fun y=>bif x != y then R else F N (IntKind.i64.wrap (i + 1)) else E) :
    ∀ (q j:Nat),j + q = xs.length → F (q + 1) (j:Int) = bif xs.drop j == ys.drop j then E else R
  | 0,j,hj=>by
    rw [h,cond_ne (decide_eq_false (by omega)),List.drop_of_length_le (by omega),List.drop_of_length_le (by omega)]
    rfl
  | q + 1,j,hj=>by
    have hlt:j < xs.length:=by omega
    have hlt2:j < ys.length:=by omega
    rw [h,cond_eq (decide_eq_true (by omega)),at_some (List.getElem?_eq_getElem hlt),Option.bind_some,at_some (List.getElem?_eq_getElem hlt2),Option.bind_some,List.drop_eq_getElem_cons hlt,List.drop_eq_getElem_cons hlt2,wrap_next hlt hl,eq_loop hm hy hl h q (j + 1) (by omega)]
    show _ = bif (xs[j] == ys[j] && xs.drop (j + 1) == ys.drop (j + 1)) then E else R
    cases hx:xs[j] == ys[j] with
    | true=>simp only [bne,hx,Bool.not_true,cond_false,Bool.true_and]
    | false=>simp only [bne,hx,Bool.not_false,cond_true,Bool.false_and,cond_false]
def idxP {α:Type} (p:α → Bool):Nat → List α → Option Nat
  | _,[]=>none
  | j,x :: r=>bif p x then some j else idxP p (j + 1) r
theorem find_loop {α:Type} {F:Nat → Int → Option Res} {xs:List α} {m:Int} {p:α → Bool} {R:Int → Option Res} {E:Option Res} (hm:m = (xs.length:Int)) (hl:xs.length ≤ maxInt)
    (h:∀ N i,F (N + 1) i = bif decide (i < m) then (at? xs i).bind fun x=>bif p x then R i else F N (IntKind.i64.wrap (i + 1)) else E) :
    ∀ (q j:Nat),j + q = xs.length → F (q + 1) (j:Int) = match idxP p j (xs.drop j) with | some k=>R (k:Int) | none=>E
  | 0,j,hj=>by
    rw [h,cond_ne (decide_eq_false (by omega)),List.drop_of_length_le (by omega)]
    rfl
  | q + 1,j,hj=>by
    have hlt:j < xs.length:=by omega
    rw [h,cond_eq (decide_eq_true (by omega)),at_some (List.getElem?_eq_getElem hlt),Option.bind_some,List.drop_eq_getElem_cons hlt,wrap_next hlt hl,find_loop hm hl h q (j + 1) (by omega)]
    simp only [idxP]
    cases p xs[j] <;> rfl
theorem idxP_any {α:Type} (p:α → Bool):∀ (xs:List α) (j:Nat),(idxP p j xs).isSome = xs.any p
  | [],_=>rfl
  | x :: r,j=>by
    simp only [idxP,List.any_cons]
    cases p x with
    | true=>rfl
    | false=>simpa using idxP_any p r (j + 1)
theorem pure_con {P : Program} {A : AbsR} (l : List (Ent P A)) {cfg : Cfg} {lf : Nat → Option LoopSum} {g : Nat} {f : List AV → Tr AV} (hm : P.follows .mixedOrders = true) (hn : ((P.funcs[g]?).map fun fn => fn.name == "runtime.NumGoroutine") = some false) (hb : funB P g = true)
    (hl:∀ x ∈ funLoops P g,∀ L,lf x.1 = some L → LoopOK (ntm P g) (fun fr H wr k=>code P (cfE l) cfg lf (cfg.live g) x.2 (2 * x.1) fr H wr k) L)
    (h:∀ args v,(f args).val = some v → okAVs args → ∀ S,body P (cfE l) cfg lf g args S some = some (v,[],S)):Con P A g (pureC f) :=
  pureC_ok fun args v hv ha S=>fun_call l hm hn hb hl (h args v hv ha S)
def lf0:Nat → Option LoopSum:=fun _=>none
theorem pure_con0 {P : Program} {A : AbsR} (l : List (Ent P A)) {cfg : Cfg} {g : Nat} {f : List AV → Tr AV} (hm : P.follows .mixedOrders = true) (hn : ((P.funcs[g]?).map fun fn => fn.name == "runtime.NumGoroutine") = some false) (hb : funB P g = true) (hl : lpos P g = [])
    (h:∀ args v,(f args).val = some v → okAVs args → ∀ S,body P (cfE l) cfg lf0 g args S some = some (v,[],S)):Con P A g (pureC f) :=
  pureC_ok fun args v hv ha S=>fun_call l hm hn hb (no_loops hl) (h args v hv ha S)
end Go.Vm
namespace Go.Vm
def iterK {σ:Type} (step:σ → (σ → Option Res) → Option Res) (E:σ → Option Res):Nat → σ → Option Res
  | 0,s=>E s
  | q + 1,s=>step s fun s'=>iterK step E q s'
theorem count_loop {σ:Type} {F:Nat → Int → σ → Option Res} {m:Int} {step:σ → (σ → Option Res) → Option Res} {E:σ → Option Res} (hl:m ≤ maxInt)
    (h:∀ N i s,F (N + 1) i s = bif decide (i < m) then step s fun s'=>F N (IntKind.i64.wrap (i + 1)) s' else E s) :
    ∀ (q j:Nat) (s:σ),((j + q:Nat):Int) = m → F (q + 1) (j:Int) s = iterK step E q s
  | 0,j,s,hj=>by
    rw [h,cond_ne (decide_eq_false (by omega))]
    rfl
  | q + 1,j,s,hj=>by
    rw [h,cond_eq (decide_eq_true (by omega)),wrap_next (n:=m.toNat) (by omega) (by omega)]
    have:(fun s'=>F (q + 1) ((j + 1:Nat):Int) s') = fun s'=>iterK step E q s':=funext fun s'=>count_loop hl h q (j + 1) s' (by omega)
    rw [this]
    rfl
end Go.Vm
namespace Go.Vm
end Go.Vm
namespace Go.Vm
open Go.RowKit (Below)
variable {K:Nat → Prop} {P:Program} {n:Nat} {A:AbsR} {e e0:Env} {s:RS} {a a0:Act} {w w0:World} {o:Oper} {cf:CallK} {cfg:Cfg}
structure GL (e0:Env) (w0:World) (e:Env) (w:World):Prop where
  os:w.os = w0.os
  tape:w.tape = w0.tape
  output:w.output = w0.output
  size:w0.heap.size ≤ w.heap.size
  blk:∀ b,b < w0.heap.size → w.heap[b]? = w0.heap[b]? ∧ e.own b = none ∧ ∀ o,e.cl b o = e0.cl b o
theorem GL.grow {e':Env} {w':World} {wr:Wr} (h:GL e0 w0 e w) (g:Grow1 e w e' w' wr):GL e0 w0 e' w' where
  os:=g.os.trans h.os
  tape:=g.tape.trans h.tape
  output:=g.output.trans h.output
  size:=Nat.le_trans h.size g.size
  blk:=fun b hb=>by
    obtain ⟨h1,h2,h3⟩:=h.blk b hb
    obtain ⟨g1,g2,g3⟩:=g.stay b (Nat.lt_of_lt_of_le hb h.size) (.inl h2)
    exact ⟨g1.trans h1,g2.trans h2,fun o=>(g3 o).trans (h3 o)⟩
theorem GL.put {D:Nat} {o:Obj} (h:GL e0 w0 e w) (hD:w0.heap.size ≤ D):GL e0 w0 e (w.putObj D o) where
  os:=h.os
  tape:=h.tape
  output:=h.output
  size:=by rw [World.putObj_size]; exact h.size
  blk:=fun b hb=>by
    obtain ⟨h1,h2,h3⟩:=h.blk b hb
    exact ⟨by rw [World.putObj_heap_other (by omega)]; exact h1,h2,h3⟩
def CPostL (K:Nat → Prop) (n:Nat) (A:AbsR) (e0:Env) (a0:Act) (w0:World) (ex:Ex) (fr:Fr) (H:Stack) (x:Exit) (a':Act) (w':World):Prop :=
  exMatch ex x ∧ ∃ e',CR n A e' fr H a' w' ∧ GL e0 w0 e' w' ∧ Kept K a0 w0 e' a' w'
abbrev Est:=Nat → Option (List Oper → Fr → Stack → Wr → Kont → Option Res)
def BodyL (K:Nat → Prop) (P:Program) (n:Nat) (A:AbsR) (e0:Env) (a0:Act) (w0:World) (c:Code) (bodyC:Fr → Stack → Wr → Kont → Option Res):Prop :=
  ∀ fr H wr (k:Kont) r,bodyC fr H wr k = some r → ∃ ex fr' H' wr',k ex fr' H' wr' = some r ∧ ∀ e a w,CR n A e fr H a w → GL e0 w0 e w → Kept K a0 w0 e a w → c.wp P (CPostL K n A e0 a0 w0 ex fr' H') a w
theorem BodyOK.law {c:Code} {bodyC:Fr → Stack → Wr → Kont → Option Res} (h:BodyOK K P n A c bodyC):BodyL K P n A e0 a0 w0 c bodyC:=fun fr H wr k r hr=>by
  obtain ⟨ex,fr',H',wr',h1,_,h3⟩:=h fr H wr k r hr
  refine ⟨ex,fr',H',wr',h1,fun e a w hC hG hK=>wp_mono (h3 e a w hC) fun x a' w' hq=>?_⟩
  obtain ⟨hx,e1,g1,g2,g3,g4⟩:=hq
  exact ⟨hx,e1,g1,hG.grow g2,g4.trans hK hG.size g2⟩
def keepI:AV → AV
  | .bool b=>.bool b
  | .int k n=>.int k n
  | .str s=>.str s
  | .ptr l i o=>.ptr l i o
  | .nilp=>.nilp
  | _=>.undef
def dropOb:Ob → Ob
  | .cells cs=>.cells (mapN keepI cs)
  | o=>o
theorem dropOb_hb {x:Ob} {q:Option Obj} {c:Array Value} {ty:TypeId} {fz:Nat × Nat} (k:HB q c ty fz x):HB q c ty fz (dropOb x):=by
  cases x <;> exact k
def dropH:Stack → Stack
  | []=>[]
  | l :: S=>mapN dropOb l :: dropH S
theorem keepI_VR {e e':Env} {p p':Option Pl} {q q':Option (Nat → Pl)} (hr:RhoLe e e'):∀ {x:AV} {v:Value},VR e p q x v → VR e' p' q' (keepI x) v
  | .undef,_,_=>by simp [keepI,VR]
  | .bool _,_,h=>by simpa [keepI,VR] using h
  | .int _ _,_,h=>by simpa [keepI,VR] using h
  | .str _,_,h=>by simpa [keepI,VR] using h
  | .slice _ _ _,_,_=>by simp [keepI,VR]
  | .ptr _ _ _,_,h=>by
    simp only [keepI,VR] at h ⊢
    obtain ⟨b,h1,h2⟩:=h
    exact ⟨b,hr _ _ _ h1,h2⟩
  | .nilp,_,h=>by simpa [keepI,VR] using h
  | .cptr _ _,_,_=>by simp [keepI,VR]
  | .func _ _ _,_,_=>by simp [keepI,VR]
  | .nilf,_,_=>by simp [keepI,VR]
  | .agg _,_,_=>by simp [keepI,VR]
  | .tuple _,_,_=>by simp [keepI,VR]
  | .row _ _,_,_=>by simp [keepI,VR]
theorem getH_drop:∀ (H:Stack) (l i:Nat),getH (dropH H) l i = (getH H l i).map dropOb
  | [],l,i=>by simp [dropH,getH]
  | a :: S,0,i=>by simp only [dropH,getH,nth_eq,mapN_eq,List.getElem?_map]
  | a :: S,l + 1,i=>by simp only [dropH,getH]; exact getH_drop S l i
theorem Par.drop:∀ {R:Rho} {H:Stack},Par R H → Par R (dropH H)
  | [],[],_=>trivial
  | r :: R,l :: S,h=>by simp only [Par,dropH,mapN_eq,List.length_map] at h ⊢; exact ⟨h.1,Par.drop h.2⟩
  | [],_ :: _,h=>h.elim
  | _ :: _,[],h=>h.elim
def estFr (fr0 fr:Fr) (ks:List Nat) (sl tP:Nat) (v:AV):Fr:=fun t=>bif Nat.beq t tP then .undef else bif Nat.beq t sl then v else bif memN t ks then strip (fr0 t) else keepI (fr t)
def estE (P:Program) (cf:CallK) (cfg:Cfg) (n:Nat) (fr0:Fr) (ks:List Nat) (pre ops:List Oper) (tS tI tV tP:Nat):Fr → Stack → Wr → Kont → Option Res:=fun fr H wr k =>
  opers P cf cfg false ops pre { fr,als:=noAls,H,wr:=[],lds:=noLds } fun s =>
    match s.als tS,s.fr tI,s.fr tV with
    | some (.slot sl),.int _ i,.int .u8 v=>match s.fr sl with
      | .slice (.int .u8) xs .mine=>bif (decide (0 ≤ i) && decide (i < (xs.length:Int))) && Nat.blt sl n then
          k .normal (estFr fr0 s.fr ks sl tP (.slice (.int .u8) (setAt xs i.toNat v) .mine)) (dropH s.H) wr
        else none
      | _=>none
    | _,_,_=>none
def estAt (P:Program) (cf:CallK) (cfg:Cfg) (n:Nat) (fr0:Fr) (ks:List Nat) (q tS tI tV tP:Nat):List Oper → Fr → Stack → Wr → Kont → Option Res:=fun ops=>estE P cf cfg n fr0 ks (tkN q ops) ops tS tI tV tP
def dstIs (o:Oper) (t:Nat):Bool:=match o.dst with | some d=>Nat.beq d t | none=>false
def noDst (ks:List Nat):List Oper → Bool
  | []=>true
  | o :: r=>(match o.dst with | some d=>!memN d ks | none=>true) && noDst ks r
theorem noDst_ok {ks:List Nat}:∀ {l:List Oper},noDst ks l = true → ∀ o ∈ l,∀ d,o.dst = some d → d ∉ ks
  | [],_,o,ho=>by cases ho
  | x :: r,h,o,ho=>fun d hd=>by
    simp only [noDst,Bool.and_eq_true] at h
    rcases List.mem_cons.1 ho with rfl | ho
    · have h1:=h.1
      rw [hd] at h1
      exact memN_false h1
    · exact noDst_ok h.2 o ho d hd
def isA (oA:Oper) (xt tS tI:Nat):Bool:=match oA.op with | .indexAddr x (.tmp a) (.tmp b)=>Nat.beq x xt && (Nat.beq a tS && Nat.beq b tI) | _=>false
structure StoreAt where
  p:Nat
  xt:Nat
  et:Nat
  q:Nat
  tS:Nat
  tI:Nat
  tV:Nat
  tP:Nat
def estL (P:Program) (cf:CallK) (cfg:Cfg) (g:Nat) (fr0:Fr) (ks:List Nat):List StoreAt → Est
  | [],_=>none
  | x :: r,p=>bif Nat.beq p x.p then some (estAt P cf cfg (ntm P g) fr0 ks x.q x.tS x.tI x.tV x.tP) else estL P cf cfg g fr0 ks r p
end Go.Vm
namespace Go.Vm
open Go.RowKit
variable {K:Nat → Prop} {P:Program} {n:Nat} {A:AbsR} {e e0:Env} {s:RS} {a a0:Act} {w w0:World} {o:Oper} {cf:CallK} {cfg:Cfg}
def fen (ro:Option Nat):Fence:={ Fence.wide with round:=ro }
theorem callsIn_fen {ro:Option Nat} {m:Nat} {f:FuncId} {args:Array Value} {R:Ending → World → Prop} (h:Calls P f args w R):CallsIn (fen ro) m P f args w R:=(callsIn_wide (n:=m)).2 h
theorem rowsIn_fen {ro:Option Nat} {m:Nat} {row:String} {args:Array Value} {R:Value → World → Prop} (h:Rows P row args w R):RowsIn (fen ro) m P row args w R:=fun c cs _=>by
  obtain ⟨v,w',h1,h2⟩:=h c cs
  exact ⟨v,w',h1,stepsIn_wide.2 h2⟩
theorem uponIn_of {ro:Option Nat} {m:Nat} {next:Act → World → Prop} {Q:Exit → Act → World → Prop} {r:Result Next} (h:o.upon P a next (fun _ _ _=>False) r):o.uponIn (fen ro) m P a next Q r:=by
  cases r with
  | ok nx w' =>
    cases nx with
    | value v=>exact h
    | skip=>exact h
    | defer d=>exact h
    | enter f args=>exact ⟨(fun hh=>by cases hh),callsIn_fen (Calls.mono h fun x w'' he=>by
        cases x with
        | returned v=>exact he
        | panicked ch=>exact he.elim
        | outgrown=>obtain ⟨_,_,hf⟩:=he; exact hf.elim)⟩
    | row row args=>exact ⟨(fun hh=>by cases hh),rowsIn_fen h⟩
    | _=>exact h.elim
  | halt x w'=>cases x <;> exact h.elim
theorem wpIn_of {ro:Option Nat} {m:Nat} {next:Act → World → Prop} {Q:Exit → Act → World → Prop} (hd:∀ c,o.op ≠ .defer c) (h:o.wp P a w next (fun _ _ _=>False)):o.wpIn (fen ro) m P a w next Q:=by
  refine ⟨fun _ _=>trivial,?_⟩
  rw [show (fen ro).round = ro from rfl,Oper.semAt_eq _ _ _ hd]
  exact uponIn_of h
theorem plan_defer {dr:Bool} {c:Call} (h:o.op = .defer c):plan P cfg dr o s = .no:=by
  unfold plan; rw [h]
theorem steps_simIn {ops:Array Oper} {ro:Option Nat} {m:Nat} (hcf:CfOK P A cf) (hb:opsB n ops.toList = true) (hK:∀ o ∈ ops.toList,∀ d,o.dst = some d → ¬ K d) {Q:Exit → Act → World → Prop} {l2:List Nat}:∀ (l:List Nat) (e:Env) (s:RS) (a:Act) (w:World) (s':RS),RR n A e s a w → steps P cf cfg false ops.toList l s = some s' →
    (∀ a' w',Post K n A e a w s' a' w' → wpOpsIn (fen ro) m P ops Q l2 a' w') → wpOpsIn (fen ro) m P ops Q (l ++ l2) a w
  | [],e,s,a,w,s',h,hs,hQ=>by
    simp only [steps,Option.some.injEq] at hs
    subst hs
    exact hQ a w ⟨e,h,Grow.refl _ _ _,fun _ _ _ h=>h,Keep.refl _ _⟩
  | i :: r,e,s,a,w,s',h,hs,hQ=>by
    simp only [steps] at hs
    rw [List.cons_append]
    simp only [wpOpsIn]
    have hget:ops[i]? = ops.toList[i]?:=by simp
    rw [hget]
    cases ho:ops.toList[i]? with
    | none=>rw [ho] at hs; exact steps_simIn hcf hb hK r e s a w s' h hs hQ
    | some o =>
      rw [ho] at hs
      simp only at hs ⊢
      cases h1:step1 P cf cfg false ops.toList o s with
      | none=>rw [h1] at hs; cases hs
      | some s1 =>
        rw [h1] at hs
        simp only at hs
        have hob:=opsB_get hb ho
        have hwr:=steps_wr r s1 s' hs
        unfold step1 at h1
        split at h1
        · rename_i hw
          rw [if_pos (wanted_sim h hb hw)]
          split at h1
          · rename_i s2 v l hr
            cases h1
            have hnd:∀ c,o.op ≠ .defer c:=fun c hc=>by rw [plan_defer hc] at hr; cases hr
            refine wpIn_of hnd (run1_after hcf h hob.1 hr _ _ fun e' w' u g1 g2 g3 g4 g5=>?_)
            obtain ⟨e2,k1,k2,k3⟩:=g1.putOp (o:=o) hob.2 g2 g3
            refine steps_simIn hcf hb hK r e2 _ _ w' s' k1 hs fun a' w'' hP=>hQ a' w'' ?_
            obtain ⟨e3,m1,m2,m3,m4⟩:=hP
            have hw2:WrLe s2 s':=fun x i hx=>by have:=hwr x i hx; rwa [put_wr] at this
            exact ⟨e3,m1,((g4.trans k2 g5 (fun _ _ h=>h)).trans m2 (fun x i b hb=>k3 _ _ _ (g5 _ _ _ hb)) hw2),fun x i b hb=>m3 _ _ _ (k3 _ _ _ (g5 _ _ _ hb)),m4.trans (Keep.put _ _ (hK _ (List.mem_of_getElem? ho)))⟩
          · cases h1
        · rename_i hw
          rw [if_neg (by rw [wanted_sim h hb hw]; simp)]
          cases h1
          obtain ⟨e2,k1,k2,k3⟩:=h.putOp (o:=o) (v:=.tuple []) (u:=undef) (l:=none) hob.2 (by simp only [VR]; exact ⟨#[],rfl,by simp [VRs]⟩) (by simp)
          refine ⟨fun _ _=>trivial,steps_simIn hcf hb hK r e2 _ _ w s' k1 hs fun a' w'' hP=>hQ a' w'' ?_⟩
          obtain ⟨e3,m1,m2,m3,m4⟩:=hP
          have hw2:WrLe s s':=fun x i hx=>by have:=hwr x i hx; rwa [put_wr] at this
          exact ⟨e3,m1,k2.trans m2 k3 hw2,fun x i b hb=>m3 _ _ _ (k3 _ _ _ hb),m4.trans (Keep.put _ _ (hK _ (List.mem_of_getElem? ho)))⟩
        · cases h1
def FPost (K:Nat → Prop) (n:Nat) (A:AbsR) (e:Env) (a:Act) (w:World) (ex:Ex) (fr:Fr) (H:Stack) (wr:Wr) (x:Exit) (a':Act) (w':World):Prop :=
  exMatch ex x ∧ ∃ e',CR n A e' fr H a' w' ∧ Grow e w e' w' wr ∧ RhoLe e e' ∧ Keep K a a'
theorem FPost.trans {e1:Env} {a1 a2:Act} {w1 w2:World} {ex:Ex} {fr:Fr} {H:Stack} {wr wr1:Wr} {x:Exit} (hg:Grow e w e1 w1 wr1) (hr:RhoLe e e1) (hd:Keep K a a1) (hw:WLe wr1 wr) (h:FPost K n A e1 a1 w1 ex fr H wr x a2 w2):FPost K n A e a w ex fr H wr x a2 w2:=by
  obtain ⟨h1,e2,h2,h3,h4,h5⟩:=h
  exact ⟨h1,e2,h2,hg.trans h3 hr hw,fun l i b hb=>h4 l i b (hr l i b hb),h5.trans hd⟩
theorem CR.refl_full {fr:Fr} {H:Stack} {wr:Wr} {ex:Ex} {x:Exit} (h:CR n A e fr H a w) (hx:exMatch ex x):FPost K n A e a w ex fr H wr x a w :=
  ⟨hx,e,h,Grow.refl _ _ _,fun _ _ _ h=>h,Keep.refl _ _⟩
theorem region_simIn (hcf:CfOK P A cf) {id:Nat} {ops:Array Oper} {fr:Fr} {H:Stack} {wr:Wr} {k:Kont} {r:Res} (hb:opsB n ops.toList = true) (hK:∀ o ∈ ops.toList,∀ d,o.dst = some d → ¬ K d) (hr:region P cf cfg false ops.toList fr H wr k = some r) :
    ∃ fr' H' wr',k .normal fr' H' wr' = some r ∧ WLe wr wr' ∧ ∀ (ro:Option Nat) (m:Nat) e a w,CR n A e fr H a w → (Code.region id ops false).wpIn (fen ro) m P (FPost K n A e a w .normal fr' H' wr') a w:=by
  unfold region at hr
  obtain ⟨s',h1,h2⟩:=opers_steps hcf ops.toList 0 _ (by simp) hr
  rw [← List.range_eq_range'] at h1
  refine ⟨s'.fr,s'.H,app s'.wr wr,h2,WLe.right _ _,fun ro m e a w h=>wpIn_region ?_⟩
  have:=steps_simIn (K:=K) (ro:=ro) (m:=m) (Q:=FPost K n A e a w .normal s'.fr s'.H (app s'.wr wr)) (l2:=[]) hcf hb hK (List.range ops.toList.length) e _ a w s' ⟨h.wok,h.hr,h.fr,fun t src _ hs=>by simp [noAls] at hs⟩ h1 (fun a' w' hP=>by
    obtain ⟨e',k1,k2,k3,k4⟩:=hP
    exact ⟨trivial,e',⟨k1.wok,k1.hr,k1.fr⟩,k2.weaken (WLe.left _ _),k3,k4⟩)
  simpa using this
def inB (n:Nat) (ks:List Nat):Code → Bool
  | .region _ ops dr=>!dr && (opsB n ops.toList && noDst ks ops.toList)
  | .seq x y=>inB n ks x && inB n ks y
  | .cond c x y=>opdB n c && (inB n ks x && inB n ks y)
  | .block _ c=>inB n ks c
  | .skip=>true
  | .ret=>true
  | .exit _=>true
  | _=>false
def BodyIn (K:Nat → Prop) (P:Program) (n:Nat) (A:AbsR) (c:Code) (bodyC:Fr → Stack → Wr → Kont → Option Res):Prop :=
  ∀ fr H wr (k:Kont) r,bodyC fr H wr k = some r → ∃ ex fr' H' wr',k ex fr' H' wr' = some r ∧ WLe wr wr' ∧ ∀ (ro:Option Nat) (m:Nat) e a w,CR n A e fr H a w → c.wpIn (fen ro) m P (FPost K n A e a w ex fr' H' wr') a w
theorem codeIn_sim (hcf:CfOK P A cf) {lf:Nat → Option LoopSum} {live:Nat → Option (List Nat)} {ks:List Nat}:∀ (c:Code) (p:Nat),inB n ks c = true → BodyIn (fun t=>t ∈ ks) P n A c (fun fr H wr k=>code P cf cfg lf live c p fr H wr k)
  | .skip,p,hc,fr,H,wr,k,r,h=>⟨.normal,fr,H,wr,h,WLe.refl _,fun ro m e a w hC=>wpIn_skip (hC.refl_full trivial)⟩
  | .ret,p,hc,fr,H,wr,k,r,h=>⟨.ret,fr,H,wr,h,WLe.refl _,fun ro m e a w hC=>wpIn_ret (hC.refl_full trivial)⟩
  | .exit id,p,hc,fr,H,wr,k,r,h=>⟨.exit id,fr,H,wr,h,WLe.refl _,fun ro m e a w hC=>wpIn_exit (hC.refl_full rfl)⟩
  | .region id ops dr,p,hc,fr,H,wr,k,r,h=>by
    simp only [inB,Bool.and_eq_true,Bool.not_eq_true'] at hc
    obtain ⟨rfl,h1,h2⟩:=hc
    obtain ⟨fr',H',wr',k1,k2,k3⟩:=region_simIn (K:=fun t=>t ∈ ks) (id:=id) hcf h1 (noDst_ok h2) h
    exact ⟨.normal,fr',H',wr',k1,k2,k3⟩
  | .seq x y,p,hc,fr,H,wr,k,r,h=>by
    simp only [inB,Bool.and_eq_true] at hc
    obtain ⟨ex,fr1,H1,wr1,h1,h2,h3⟩:=codeIn_sim hcf x (2 * p) hc.1 fr H wr _ r h
    cases ex with
    | normal =>
      obtain ⟨ex,fr2,H2,wr2,k1,k2,k3⟩:=codeIn_sim hcf y (2 * p + 1) hc.2 fr1 H1 wr1 k r h1
      refine ⟨ex,fr2,H2,wr2,k1,h2.trans k2,fun ro m e a w hC=>wpIn_seq (wpIn_mono (h3 ro m e a w hC) fun x' a' w' hq=>?_)⟩
      obtain ⟨hx,e1,g1,g2,g3,g4⟩:=hq
      cases x' <;> simp only [exMatch] at hx
      exact wpIn_mono (k3 ro m e1 a' w' g1) fun x2 a2 w2 hq2=>FPost.trans (g2.weaken k2) g3 g4 (WLe.refl _) hq2
    | exit i =>
      refine ⟨.exit i,fr1,H1,wr1,h1,h2,fun ro m e a w hC=>wpIn_seq (wpIn_mono (h3 ro m e a w hC) fun x' a' w' hq=>?_)⟩
      have hx:=hq.1
      cases x' <;> simp only [exMatch] at hx
      exact hq
    | ret =>
      refine ⟨.ret,fr1,H1,wr1,h1,h2,fun ro m e a w hC=>wpIn_seq (wpIn_mono (h3 ro m e a w hC) fun x' a' w' hq=>?_)⟩
      have hx:=hq.1
      cases x' <;> simp only [exMatch] at hx
      exact hq
  | .cond c x y,p,hc,fr,H,wr,k,r,h=>by
    simp only [inB,Bool.and_eq_true] at hc
    simp only [code] at h
    cases c with
    | tmp t =>
      simp only at h
      cases ht:fr t with
      | bool b =>
        rw [ht] at h
        simp only at h
        have hev:∀ e a w,CR n A e fr H a w → a.eval (.tmp t) = .bool b:=fun e a w hC=>by
          have:=hC.fr.val t (opdB_ok hc.1)
          rw [ht] at this
          simp only [VR] at this
          exact this
        rcases cond_some h with ⟨rfl,h⟩ | ⟨rfl,h⟩
        · obtain ⟨ex,fr1,H1,wr1,h1,h2,h3⟩:=codeIn_sim hcf x (2 * p) hc.2.1 fr H wr _ r h
          exact ⟨ex,fr1,H1,wr1,h1,h2,fun ro m e a w hC=>wpIn_cond (hev e a w hC) (h3 ro m e a w hC)⟩
        · obtain ⟨ex,fr1,H1,wr1,h1,h2,h3⟩:=codeIn_sim hcf y (2 * p + 1) hc.2.2 fr H wr _ r h
          exact ⟨ex,fr1,H1,wr1,h1,h2,fun ro m e a w hC=>wpIn_cond (hev e a w hC) (h3 ro m e a w hC)⟩
      | _=>rw [ht] at h; cases h
    | _=>cases h
  | .block id c,p,hc,fr,H,wr,k,r,h=>by
    simp only [inB] at hc
    obtain ⟨ex,fr1,H1,wr1,h1,h2,h3⟩:=codeIn_sim hcf c (2 * p) hc fr H wr _ r h
    cases ex with
    | normal =>
      refine ⟨.normal,fr1,H1,wr1,h1,h2,fun ro m e a w hC=>wpIn_block (wpIn_mono (h3 ro m e a w hC) fun x' a' w' hq=>?_)⟩
      have hx:=hq.1
      cases x' <;> simp only [exMatch] at hx
      exact hq
    | ret =>
      refine ⟨.ret,fr1,H1,wr1,h1,h2,fun ro m e a w hC=>wpIn_block (wpIn_mono (h3 ro m e a w hC) fun x' a' w' hq=>?_)⟩
      have hx:=hq.1
      cases x' <;> simp only [exMatch] at hx
      exact hq
    | exit i =>
      simp only at h1
      rcases cond_some h1 with ⟨hi,h1⟩ | ⟨hi,h1⟩
      · refine ⟨.normal,fr1,H1,wr1,h1,h2,fun ro m e a w hC=>wpIn_block (wpIn_mono (h3 ro m e a w hC) fun x' a' w' hq=>?_)⟩
        obtain ⟨hx,hrest⟩:=hq
        cases x' <;> simp only [exMatch] at hx
        subst hx
        simp only [Exit.inBlock]
        rw [if_pos ((beq_iff _ _).1 hi)]
        exact ⟨trivial,hrest⟩
      · refine ⟨.exit i,fr1,H1,wr1,h1,h2,fun ro m e a w hC=>wpIn_block (wpIn_mono (h3 ro m e a w hC) fun x' a' w' hq=>?_)⟩
        obtain ⟨hx,hrest⟩:=hq
        cases x' <;> simp only [exMatch] at hx
        subst hx
        simp only [Exit.inBlock]
        rw [if_neg (beq_false.1 hi)]
        exact ⟨rfl,hrest⟩
  | .label _,p,hc,_,_,_,_,_,_=>by simp [inB] at hc
  | .scope _,p,hc,_,_,_,_,_,_=>by simp [inB] at hc
  | .loop _,p,hc,_,_,_,_,_,_=>by simp [inB] at hc
  | .goto _,p,hc,_,_,_,_,_,_=>by simp [inB] at hc
  | .rangeFunc ..,p,hc,_,_,_,_,_,_=>by simp [inB] at hc
  | .refuse _,p,hc,_,_,_,_,_,_=>by simp [inB] at hc
def isMem:Obj → Bool
  | .cells ..=>true
  | .map ..=>true
  | _=>false
theorem HB.mem {x:Ob} {q:Option Obj} {c:Array Value} {ty:TypeId} {fz:Nat × Nat} (k:HB q c ty fz x):∃ o,q = Option.some o ∧ isMem o = true:=by
  cases x with
  | map _=>obtain ⟨_,es,clk,k,_⟩:=k; exact ⟨_,k,rfl⟩
  | cells _=>exact ⟨_,k,rfl⟩
  | abs _ _=>exact ⟨_,k,rfl⟩
theorem FB.mem {q:Option Obj} {p:Pl} {c:Array Value} {ty:TypeId} {lo hi:Nat} (k:FB q p c ty lo hi):∃ o,q = Option.some o ∧ isMem o = true:=by
  rcases k with ⟨k,_⟩ | ⟨_,_,es,clk,k⟩ <;> exact ⟨_,k,rfl⟩
theorem CR.putN {fr:Fr} {H:Stack} {D:Nat} {o o':Obj} (h:CR n A e fr H a w) (hD:w.heap[D]? = some o') (hn:isMem o' = false):CR n A e fr H a (w.putObj D o):=by
  have hc:∀ {b:Nat},(∃ z,w.heap[b]? = some z ∧ isMem z = true) → (w.putObj D o).heap[b]? = w.heap[b]?:=by
    intro b ⟨z,hb,hz⟩
    have hne:b ≠ D:=fun he=>by rw [he,hD] at hb; cases hb; rw [hn] at hz; cases hz
    exact World.putObj_heap_other hne
  refine ⟨⟨fun b q x hx=>?_,fun b p m hp=>?_⟩,⟨h.hr.par,fun l i x hx=>?_⟩,h.fr⟩
  · have h1:=h.wok.holds b q x hx
    have hne:b ≠ D:=fun he=>by
      rw [he] at h1
      simp only [World.cell?,hD] at h1
      cases o' <;> simp_all [isMem]
    simp only [World.cell?] at h1 ⊢
    rw [World.putObj_heap_other hne]; exact h1
  · obtain ⟨c,ty,lo,hi,k1,k2,k3⟩:=h.wok.free b p m hp
    exact ⟨c,ty,lo,hi,by rw [hc k1.mem]; exact k1,k2,k3⟩
  · obtain ⟨b,hb,c,ty,fz,k1,k2,k3,k4⟩:=h.hr.ob l i x hx
    exact ⟨b,hb,c,ty,fz,by rw [hc k1.mem]; exact k1,k2,k3,k4⟩
def Rec:=LoopState → Option Code → Loop
structure Mid (A:AbsR) (e0:Env) (w0:World) (l D:Nat) (rl:Loop) (H:Stack) (wr:Wr) (e:Env) (W:World):Prop where
  wok:WOK e W
  hr:HR A e H W
  lp:W.heap[l]? = some (.loop rl)
  df:W.heap[D]? = some (.deferred (some []))
  nl:e.own l = none
  nd:e.own D = none
  gr:Grow1 e0 w0 e W wr
  rho:RhoLe e0 e
theorem Mid.grow {l D:Nat} {rl:Loop} {H H':Stack} {wr wr':Wr} {e':Env} {W W':World} (h:Mid A e0 w0 l D rl H wr e W) (hw:WOK e' W') (hH:HR A e' H' W') (g:Grow e W e' W' wr') (r:RhoLe e e') (hwr:WLe wr wr'):Mid A e0 w0 l D rl H' wr' e' W':=by
  have l1:=(Array.getElem?_eq_some_iff.1 h.lp).1
  have l2:=(Array.getElem?_eq_some_iff.1 h.df).1
  obtain ⟨g1,g2,_⟩:=g.stay l l1 (.inl h.nl)
  obtain ⟨g3,g4,_⟩:=g.stay D l2 (.inl h.nd)
  exact ⟨hw,hH,g1.trans h.lp,g3.trans h.df,g2.trans h.nl,g4.trans h.nd,h.gr.trans g.one (fun l i b hb=>h.rho _ _ _ hb) hwr,fun l i b hb=>r _ _ _ (h.rho _ _ _ hb)⟩
theorem Mid.turn {l D:Nat} {rl rl':Loop} {H:Stack} {wr:Wr} {W:World} (h:Mid A e0 w0 l D rl H wr e W) (hl:w0.heap.size ≤ l) (hne:D ≠ l) (hlt:∀ l i b,rhoAt e0.rho (l + 1) i = some b → b < w0.heap.size):Mid A e0 w0 l D rl' H wr e (W.putObj l (.loop rl')):=by
  have hcr:CR 0 A e (fun _=>.undef) H ⟨#[],[]⟩ W:=⟨h.wok,h.hr,⟨rfl,fun t ht=>absurd ht (Nat.not_lt_zero _)⟩⟩
  have hc:=hcr.putN (o:=.loop rl') h.lp rfl
  exact ⟨hc.wok,hc.hr,World.putObj_heap_same (Array.getElem?_eq_some_iff.1 h.lp).1,(World.putObj_heap_other hne).trans h.df,h.nl,h.nd,h.gr.put hl hlt,h.rho⟩
def kOut:Kont:=fun ex fr H wr=>match ex with
  | .normal=>some (.bool true,wr,H)
  | .ret=>some (.bool false,wr,H)
  | .exit _=>none
def roundE (P:Program) (cf:CallK) (cfg:Cfg) (lf:Nat → Option LoopSum) (live:Nat → Option (List Nat)) (as bd:Code) (p:Nat) (fr:Fr) (H:Stack) (wr:Wr):Option Res :=
  code P cf cfg lf live as p fr H wr fun ex fr H wr=>match ex with
    | .normal=>code P cf cfg lf live bd p fr H wr kOut
    | _=>none
def goes (rec:Rec) (go:Bool):Loop:=bif go then rec .ready none else rec .done (some .ret)
theorem round_sim (hcf:CfOK P A cf) {lf:Nat → Option LoopSum} {live:Nat → Option (List Nat)} {as bd:Code} {p:Nat} {frR:Fr} {H:Stack} {wr:Wr} {r:Res} {fn:FuncId} {tmps tmpsR:Array Value} {ps:Array Tmp} {l D:Nat} {rec:Rec} (hrec:rec = fun st pe=>{ state:=st,pending:=pe,fn,tmps,params:=ps,assign:=as,body:=bd,defers:=D })
    (h1:inB n [] as = true) (h2:inB n [] bd = true) (hev:roundE P cf cfg lf live as bd p frR H wr = some r) (hl:w0.heap.size ≤ l) (hne:D ≠ l) (hlt:∀ l i b,rhoAt e0.rho (l + 1) i = some b → b < w0.heap.size) {W:World} (hM:Mid A e0 w0 l D (rec .ready none) H wr e W) (hfr:FRel n e frR { tmps:=tmpsR,defers:=[] }) :
    RoundIn Fence.wide 0 P l fn tmpsR as bd W fun en W'=>∃ go,r.1 = .bool go ∧ en = .returned (.bool go) ∧ WLe wr r.2.1 ∧ ∃ e',Mid A e0 w0 l D (goes rec go) r.2.2 r.2.1 e' W' ∧ RhoLe e e' ∧ ClLe e.cl e'.cl:=by
  unfold roundE at hev
  obtain ⟨ex,fr1,H1,wr1,k1,k2,k3⟩:=codeIn_sim (n:=n) (ks:=[]) hcf as p h1 frR H wr _ r hev
  cases ex with
  | exit i=>cases k1
  | ret=>cases k1
  | normal =>
    obtain ⟨ex2,fr2,H2,wr2,m1,m2,m3⟩:=codeIn_sim (n:=n) (ks:=[]) hcf bd p h2 fr1 H1 wr1 _ r k1
    refine roundIn_of_wpIn trivial (wpIn_mono (k3 (some l) 0 e { tmps:=tmpsR,defers:=[] } W ⟨hM.wok,hM.hr,hfr⟩) fun x a1 W1 hq=>?_)
    obtain ⟨hx,e1,q1,q2,q3,q4⟩:=hq
    cases x <;> simp only [exMatch] at hx
    have hM1:=hM.grow q1.wok q1.hr q2 q3 k2
    have hst:(rec .ready none).state = .ready:=by rw [hrec]
    refine ⟨_,run_beginRound hM1.lp hst,?_⟩
    have hbusy:{ rec .ready none with state:=.busy } = rec .busy none:=by rw [hrec]
    rw [hbusy]
    have hM2:Mid A e0 w0 l D (rec .busy none) H1 wr1 e1 (W1.putObj l (.loop (rec .busy none))):=hM1.turn hl hne hlt
    have hC2:CR n A e1 fr1 H1 a1 (W1.putObj l (.loop (rec .busy none))):=⟨hM2.wok,hM2.hr,q1.fr⟩
    refine wpIn_mono (m3 (some l) 0 e1 a1 _ hC2) fun x2 a2 W3 hq2=>?_
    obtain ⟨hx2,e2,z1,z2,z3,z4⟩:=hq2
    have hM3:=hM2.grow z1.wok z1.hr z2 z3 m2
    have hcl:ClLe e.cl e2.cl:=q2.cl.trans z2.cl
    have hrho:RhoLe e e2:=fun l i b hb=>z3 _ _ _ (q3 _ _ _ hb)
    have hw:WLe wr wr2:=k2.trans m2
    cases ex2 with
    | exit i=>cases m1
    | normal =>
      simp only [kOut,Option.some.injEq] at m1
      subst m1
      cases x2 <;> simp only [exMatch] at hx2
      refine ⟨_,_,run_endRound none hM3.lp,true,rfl,rfl,hw,e2,?_,hrho,hcl⟩
      have:{ rec .busy none with state:=if (none:Option Code).isNone then LoopState.ready else LoopState.done,pending:=none } = goes rec true:=by rw [hrec]; rfl
      rw [this]
      exact hM3.turn hl hne hlt
    | ret =>
      simp only [kOut,Option.some.injEq] at m1
      subst m1
      cases x2 <;> simp only [exMatch] at hx2
      refine ⟨_,_,run_endRound (some .ret) hM3.lp,false,rfl,rfl,hw,e2,?_,hrho,hcl⟩
      have:{ rec .busy none with state:=if (some Code.ret).isNone then LoopState.ready else LoopState.done,pending:=some .ret } = goes rec false:=by rw [hrec]; rfl
      rw [this]
      exact hM3.turn hl hne hlt
def YieldR (P:Program) (A:AbsR) (e0:Env) (w0:World) (l D:Nat) (rec:Rec) (H:Stack) (wr:Wr) (xs:List AV) (go:Bool) (H':Stack) (wr':Wr):Prop :=
  ∀ e W (vs:Array Value),Mid A e0 w0 l D (rec .ready none) H wr e W → VRs e none 0 xs vs.toList → YieldAt Fence.wide 0 P l vs W fun en W'=>en = .returned (.bool go) ∧ ∃ e',Mid A e0 w0 l D (goes rec go) H' wr' e' W' ∧ RhoLe e e' ∧ ClLe e.cl e'.cl
def Runs (P:Program) (A:AbsR) (e0:Env) (w0:World) (l D:Nat) (rec:Rec) (box:Stack → Prop) (go:Bool) (Hf:Stack) (wrf:Wr):List (List AV) → Stack → Wr → Prop
  | [],H,wr=>go = true ∧ H = Hf ∧ wr = wrf
  | xs :: r,H,wr=>(∃ H1 wr1,YieldR P A e0 w0 l D rec H wr xs true H1 wr1 ∧ box H1 ∧ Runs P A e0 w0 l D rec box go Hf wrf r H1 wr1) ∨ (go = false ∧ YieldR P A e0 w0 l D rec H wr xs false Hf wrf)
def IterOK (P:Program) (A:AbsR) (gf:FuncId) (cap:List AV) (box:Stack → Prop) (ys:List (List AV)):Prop :=
  ∀ e0 w0 l D rec go Hf wrf H wr,Runs P A e0 w0 l D rec box go Hf wrf ys H wr → box H → ∀ e W (vc:Array Value),Mid A e0 w0 l D (rec .ready none) H wr e W → VRs e none 0 cap vc.toList →
    Calls P gf (#[.func (.yield l) #[] #[]] ++ vc) W fun en W'=>∃ v e',en = .returned v ∧ Mid A e0 w0 l D (goes rec go) Hf wrf e' W'
def runV (ev:List AV → Stack → Wr → Option Res):List (List AV) → Stack → Wr → Option (Bool × Wr × Stack)
  | [],H,wr=>some (true,wr,H)
  | xs :: r,H,wr=>match ev xs H wr with
    | some (.bool true,wr',H')=>runV ev r H' wr'
    | some (.bool false,wr',H')=>some (false,wr',H')
    | _=>none
def frR (live:List Nat) (vs:List AV) (p1 p2:Nat) (xs:List AV):Fr:=match xs with
  | [x,y]=>upd (upd (fun t=>strip (mkFr live vs t)) p1 x) p2 y
  | _=>fun _=>.undef
def zip2 (tmps:Array Value) (p1 p2:Nat) (v1 v2:Value):Array Value:=(tmps.setIfInBounds p1 v1).setIfInBounds p2 v2
theorem at_zip2 {tmps:Array Value} {p1 p2:Nat} {v1 v2:Value} (h1:p1 < tmps.size) (h2:p2 < tmps.size) (t:Nat):Act.at { tmps:=zip2 tmps p1 p2 v1 v2,defers:=[] } t = if t = p2 then v2 else if t = p1 then v1 else tmps.getD t undef:=by
  unfold Act.at zip2
  simp only [Array.getD_eq_getD_getElem?,Array.getElem?_setIfInBounds,Array.size_setIfInBounds]
  by_cases e2:p2 = t
  · subst e2; simp [h2]
  · rw [if_neg e2,if_neg (Ne.symm e2)]
    by_cases e1:p1 = t
    · subst e1; simp [h1]
    · rw [if_neg e1,if_neg (Ne.symm e1)]
theorem range_wp (hcf:CfOK P A cf) {lf:Nat → Option LoopSum} {lv:Nat → Option (List Nat)} {as bd:Code} {p p1 p2 tg gf:Nat} {cap:List AV} {live outs:List Nat} {fr:Fr} {H Hf:Stack} {wr wrf:Wr} {go:Bool} {ys:List (List AV)} {box:Stack → Prop}
    (ha : inB n [] as = true) (hb : inB n [] bd = true) (htg : tg < n) (hp1 : p1 < n) (hp2 : p2 < n) (hfrg : fr tg = .func gf [] cap) (hname : ((P.funcs[gf]?).map fun fn => fn.name == "runtime.NumGoroutine") = some false) (hbody : ∃ fn c, P.funcs[gf]? = some fn ∧ fn.body = some c)
    (hit:IterOK P A gf cap box ys) (hrun:runV (fun xs H wr=>roundE P cf cfg lf lv as bd p (frR live (pickAll fr live) p1 p2 xs) H wr) ys H wr = some (go,wrf,Hf)) (hbox0:box H)
    (hboxS:∀ xs ∈ ys,∀ H wr wr' H',roundE P cf cfg lf lv as bd p (frR live (pickAll fr live) p1 p2 xs) H wr = some (.bool true,wr',H') → box H → box H')
    (hys:∀ xs ∈ ys,∃ x y,xs = [x,y]) (hwl:WLe wr wrf) (hC:CR n A e fr H a w) :
    (Code.rangeFunc (.tmp tg) #[p1,p2] as bd).wp P (CPost K n A e a w (bif go then .normal else .ret) (fun t=>strip (mkFr live (pickAll fr live) t)) Hf wrf) a w:=by
  refine (wpIn_wide (n:=0)).1 (wpIn_rangeFunc (F:=Fence.wide) fun fn hfn=>?_)
  obtain ⟨fng,cg,hfg,hbg⟩:=hbody
  have hval:=hC.fr.val tg htg
  rw [hfrg] at hval
  simp only [VR] at hval
  obtain ⟨va,vc,hv1,hv2,hv3⟩:=hval
  have hva:va = #[]:=by
    have:=VRs.len hv2
    have h0:va.toList = []:=List.eq_nil_of_length_eq_zero (by rw [← this]; rfl)
    exact Array.toList_eq_nil_iff.1 h0
  subst hva
  obtain ⟨rec,hrec⟩:∃ rec:Rec,rec = fun st pe=>{ state:=st,pending:=pe,fn,tmps:=a.tmps,params:=#[p1,p2],assign:=as,body:=bd,defers:=w.heap.size }:=⟨_,rfl⟩
  obtain ⟨W1,hW1⟩:∃ W1,(w.alloc (.deferred (some []))).alloc (.loop (rec .ready none)) = W1:=⟨_,rfl⟩
  have hsz:(w.alloc (.deferred (some []))).heap.size = w.heap.size + 1:=World.size_alloc _ _
  have hL1:W1.heap[w.heap.size + 1]? = some (.loop (rec .ready none)):=by
    rw [← hW1]; have:=World.alloc_heap_new (w.alloc (.deferred (some []))) (.loop (rec .ready none)); rwa [hsz] at this
  have hD1:W1.heap[w.heap.size]? = some (.deferred (some [])):=by
    rw [← hW1]
    exact (Below.heap_alloc _ _ _ (by rw [hsz]; omega)).trans (World.alloc_heap_new w _)
  have hold:∀ b,b < w.heap.size → W1.heap[b]? = w.heap[b]?:=fun b hb=>by
    rw [← hW1]
    exact (Below.heap_alloc _ _ _ (by rw [hsz]; omega)).trans (Below.heap_alloc _ _ _ hb)
  have hlt:=fun l i b hb=>rho_lt hC.hr (l + 1) i b hb
  have hsz1:W1.heap.size = w.heap.size + 2:=by rw [← hW1,World.size_alloc,hsz]
  have hcr1:CR n A e fr H a W1:=by
    refine ⟨⟨fun b q x hx=>?_,fun b p m hp=>?_⟩,⟨hC.hr.par,fun l i x hx=>?_⟩,hC.fr⟩
    · have h1:=hC.wok.holds b q x hx
      have hb:b < w.heap.size:=by
        rcases Nat.lt_or_ge b w.heap.size with h | h
        · exact h
        · simp only [World.cell?] at h1; rw [Array.getElem?_eq_none h] at h1; simp at h1
      rw [cell_of_heap (hold b hb)]; exact h1
    · obtain ⟨c,ty,lo,hi,k1,k2,k3⟩:=hC.wok.free b p m hp
      exact ⟨c,ty,lo,hi,by rw [hold b (heap_lt k1.some)]; exact k1,k2,k3⟩
    · obtain ⟨b,hb,c,ty,fz,k1,k2,k3,k4⟩:=hC.hr.ob l i x hx
      exact ⟨b,hb,c,ty,fz,by rw [hold b (heap_lt k1.some)]; exact k1,k2,k3,k4⟩
  have hown:∀ b,w.heap.size ≤ b → e.own b = none:=fun b hb=>by
    cases ho:e.own b with
    | none=>rfl
    | some pm =>
      obtain ⟨pl,m⟩:=pm
      have:=hC.wok.own_lt ho
      omega
  have hM1:Mid A e w (w.heap.size + 1) w.heap.size (rec .ready none) H wr e W1:=⟨hcr1.wok,hcr1.hr,hL1,hD1,hown _ (by omega),hown _ (Nat.le_refl _),⟨by rw [← hW1]; rfl,by rw [← hW1]; rfl,by rw [← hW1]; rfl,by omega,ClLe.refl _,fun b hb ho=>⟨hold b hb,rfl,fun _=>rfl⟩,fun l i b hb hm=>hold b (hlt l i b hb)⟩,fun _ _ _ h=>h⟩
  have hY:∀ xs H wr go H' wr',roundE P cf cfg lf lv as bd p (frR live (pickAll fr live) p1 p2 xs) H wr = some (.bool go,wr',H') → (∃ x y,xs = [x,y]) → YieldR P A e w (w.heap.size + 1) w.heap.size rec H wr xs go H' wr':=by
    intro xs H wr go H' wr' hev hxy e' W vs hM hvs
    obtain ⟨x,y,rfl⟩:=hxy
    obtain ⟨v1,s1,q1,q2,q3⟩:=VRs.cons.1 hvs
    obtain ⟨v2,s2,q4,q5,q6⟩:=VRs.cons.1 q3
    have hs2:=VRs.nil.1 q6
    have hvsl:vs = #[v1,v2]:=by
      have:vs.toList = [v1,v2]:=by rw [q1,q4,hs2]
      exact Array.toList_inj.1 (by rw [this])
    subst hvsl
    refine ⟨fn,zip2 a.tmps p1 p2 v1 v2,as,bd,?_,RoundIn.mono (round_sim (n:=n) hcf hrec ha hb hev (by omega) (by omega) hlt hM (frR:=frR live (pickAll fr live) p1 p2 [x,y]) ⟨by simp [zip2,hC.fr.size],fun t ht=>?_⟩) fun en W' hq=>?_⟩
    · have:=run_yield (P:=P) (args:=#[v1,v2]) hM.lp (by rw [hrec]; rfl)
      rw [this,hrec]
      have hz:(#[p1,p2]:Array Nat).zip #[v1,v2] = #[(p1,v1),(p2,v2)]:=by
        apply Array.toList_inj.1
        simp
      simp only [hz]
      rfl
    · rw [at_zip2 (by rw [hC.fr.size]; exact hp1) (by rw [hC.fr.size]; exact hp2)]
      simp only [frR]
      by_cases e2:t = p2
      · subst e2; rw [upd_same,if_pos rfl]; exact VR.weak (by simpa using q5)
      · rw [upd_ne _ _ e2,if_neg e2]
        by_cases e1:t = p1
        · subst e1; rw [upd_same,if_pos rfl]; exact VR.weak (by simpa using q2)
        · rw [upd_ne _ _ e1,if_neg e1]
          rcases pick_get fr live t with h1 | ⟨h1,_⟩
          · rw [h1]; simp [strip,VR]
          · rw [h1]; exact VR.strip_to hM.rho hM.gr.cl (hC.fr.val t ht)
    · obtain ⟨go',g1,g2,_,g3⟩:=hq
      simp only [AV.bool.injEq] at g1
      subst g1
      exact ⟨g2,g3⟩
  have hruns:Runs P A e w (w.heap.size + 1) w.heap.size rec box go Hf wrf ys H wr:=by
    clear hM1 hL1
    have:∀ (ys:List (List AV)) (H:Stack) (wr:Wr),(∀ xs ∈ ys,∀ H wr wr' H',roundE P cf cfg lf lv as bd p (frR live (pickAll fr live) p1 p2 xs) H wr = some (.bool true,wr',H') → box H → box H') → (∀ xs ∈ ys,∃ x y,xs = [x,y]) → runV (fun xs H wr=>roundE P cf cfg lf lv as bd p (frR live (pickAll fr live) p1 p2 xs) H wr) ys H wr = some (go,wrf,Hf) → box H → Runs P A e w (w.heap.size + 1) w.heap.size rec box go Hf wrf ys H wr:=by
      intro ys
      induction ys with
      | nil =>
        intro H wr _ _ h hb
        simp only [runV,Option.some.injEq,Prod.mk.injEq] at h
        obtain ⟨rfl,rfl,rfl⟩:=h
        exact ⟨rfl,rfl,rfl⟩
      | cons xs r ih =>
        intro H wr hbs hy h hb
        simp only [runV] at h
        split at h
        · rename_i wr' H' he
          have hb':=hbs xs (by simp) _ _ _ _ he hb
          exact .inl ⟨H',wr',hY _ _ _ _ _ _ he (hy xs (by simp)),hb',ih H' wr' (fun z hz=>hbs z (by simp [hz])) (fun z hz=>hy z (by simp [hz])) h hb'⟩
        · rename_i wr' H' he
          simp only [Option.some.injEq,Prod.mk.injEq] at h
          obtain ⟨rfl,rfl,rfl⟩:=h
          exact .inr ⟨rfl,hY _ _ _ _ _ _ he (hy xs (by simp))⟩
        · cases h
    exact this ys H wr hboxS hys hrun hbox0
  refine ⟨w.heap.size + 1,[markD w.heap.size],W1,{ target:=.fn (.func gf) vc,args:=#[.func (.yield (w.heap.size + 1)) #[] #[]] },W1,gf,#[.func (.yield (w.heap.size + 1)) #[] #[]] ++ vc,W1,?_,?_,?_,?_,fun hh=>(by cases hh),?_⟩
  · rw [← hW1,hrec]; exact run_enterLoop_outer _ _ _ _ _
  · have hev:a.eval (.tmp tg) = .func (.func gf) #[] vc:=hv1
    simp only [resolve,hev]
    simp [go_sem]
  · intro f' hf'; trivial
  · have hnm : (fng.name == "runtime.NumGoroutine") = false := by rw [hfg] at hname; simpa using hname
    simp only [invoke]
    rw [MuLone.run_callFunc_enter hfg hnm hbg]
  · refine (callsIn_wide (n:=0 - 1)).2 ((hit e w (w.heap.size + 1) w.heap.size rec go Hf wrf H wr hruns hbox0 e W1 vc hM1 hv3).mono fun en W2 hq=>?_)
    obtain ⟨v,e',rfl,hM⟩:=hq
    have hnb:(goes rec go).state ≠ .busy:=by unfold goes; rw [hrec]; cases go <;> simp
    refine ⟨_,_,run_endLoop hM.lp hnb,?_⟩
    have hMt:Mid A e w (w.heap.size + 1) w.heap.size { goes rec go with state:=.exhausted } Hf wrf e' (W2.putObj (w.heap.size + 1) (.loop { goes rec go with state:=.exhausted })):=hM.turn (by omega) (by omega) hlt
    have hpost:∀ x:Exit,exMatch (bif go then .normal else .ret) x → CPost K n A e a w (bif go then .normal else .ret) (fun t=>strip (mkFr live (pickAll fr live) t)) Hf wrf x { a with defers:=[markD w.heap.size] ++ a.defers } (W2.putObj (w.heap.size + 1) (.loop { goes rec go with state:=.exhausted })):=by
      intro x hx
      refine ⟨hx,e',⟨hMt.wok,hMt.hr,⟨hC.fr.size,fun t ht=>?_⟩⟩,hMt.gr,fun l i b hb=>hMt.rho _ _ _ hb,⟨fun t ht=>rfl,[w.heap.size],rfl,by simp,fun D hD=>?_⟩⟩
      · rcases pick_get fr live t with h1 | ⟨h1,_⟩
        · rw [h1]; simp [strip,VR]
        · rw [h1]; exact VR.strip_to hMt.rho hMt.gr.cl (hC.fr.val t ht)
      · simp only [List.mem_cons,List.not_mem_nil,or_false] at hD
        subst hD
        exact ⟨Nat.le_refl _,hMt.df,hMt.nd⟩
    cases go with
    | true =>
      have hp:(goes rec true).pending = none:=by unfold goes; rw [hrec]; rfl
      split
      · exact hpost .normal trivial
      · rename_i c hc; rw [hp] at hc; cases hc
    | false =>
      have hp:(goes rec false).pending = some .ret:=by unfold goes; rw [hrec]; rfl
      split
      · rename_i hc; rw [hp] at hc; cases hc
      · rename_i c hc
        rw [hp] at hc
        cases hc
        exact wpIn_ret (hpost .ret trivial)
end Go.Vm
namespace Go.Vm
variable {K:Nat → Prop} {P:Program} {n:Nat} {A:AbsR} {cf:CallK} {cfg:Cfg}
def codeBR (P:Program) (n:Nat):Code → Bool
  | .region _ ops dr=>opsB n ops.toList && (!dr || drawB P ops.toList)
  | .seq x y=>codeBR P n x && codeBR P n y
  | .cond c x y=>opdB n c && (codeBR P n x && codeBR P n y)
  | .block _ c=>codeBR P n c
  | .scope c=>codeBR P n c
  | .loop c=>codeBR P n c
  | _=>true
def rangeList:Code → Nat → List (Nat × Code)
  | .seq x y,p=>rangeList x (2 * p) ++ rangeList y (2 * p + 1)
  | .cond _ x y,p=>rangeList x (2 * p) ++ rangeList y (2 * p + 1)
  | .block _ c,p=>rangeList c (2 * p)
  | .scope c,p=>rangeList c (2 * p)
  | .loop c,p=>rangeList c (2 * p)
  | .rangeFunc g ps x y,p=>[(p,.rangeFunc g ps x y)]
  | _,_=>[]
theorem codeBR_ok {n:Nat} {lf:Nat → Option LoopSum} {live:Nat → Option (List Nat)} (hcf:CfOK P A cf) (hm:P.follows .mixedOrders = true):∀ (c:Code) (p:Nat),codeBR P n c = true → (∀ x ∈ loopList c p,∀ L,lf x.1 = some L → LoopOK n (fun fr H wr k=>code P cf cfg lf live x.2 (2 * x.1) fr H wr k) L) →
    (∀ x ∈ rangeList c p,∀ L,lf x.1 = some L → RangeOK P A n x.2 L) → CodeOK A P cf cfg lf live n c p
  | .skip,p,h,hl,hr=>trivial
  | .label _,p,h,hl,hr=>trivial
  | .ret,p,h,hl,hr=>trivial
  | .exit _,p,h,hl,hr=>trivial
  | .goto _,p,h,hl,hr=>trivial
  | .rangeFunc g ps x y,p,h,hl,hr=>fun L hL=>hr (p,.rangeFunc g ps x y) (by simp [rangeList]) L hL
  | .refuse _,p,h,hl,hr=>trivial
  | .region _ ops dr,p,h,hl,hr=>by
    simp only [codeBR,Bool.and_eq_true,Bool.or_eq_true,Bool.not_eq_true'] at h
    refine ⟨h.1,fun hd=>?_⟩
    rcases h.2 with h2 | h2
    · rw [hd] at h2; cases h2
    · exact (draw_ok hcf (drawB_ok hm h2)).reg hcf
  | .seq x y,p,h,hl,hr=>by
    simp only [codeBR,Bool.and_eq_true] at h
    exact ⟨codeBR_ok hcf hm x _ h.1 (fun z hz=>hl z (by simp [loopList,hz])) (fun z hz=>hr z (by simp [rangeList,hz])),codeBR_ok hcf hm y _ h.2 (fun z hz=>hl z (by simp [loopList,hz])) (fun z hz=>hr z (by simp [rangeList,hz]))⟩
  | .cond c x y,p,h,hl,hr=>by
    simp only [codeBR,Bool.and_eq_true] at h
    exact ⟨h.1,codeBR_ok hcf hm x _ h.2.1 (fun z hz=>hl z (by simp [loopList,hz])) (fun z hz=>hr z (by simp [rangeList,hz])),codeBR_ok hcf hm y _ h.2.2 (fun z hz=>hl z (by simp [loopList,hz])) (fun z hz=>hr z (by simp [rangeList,hz]))⟩
  | .block _ c,p,h,hl,hr=>codeBR_ok hcf hm c _ h hl hr
  | .scope c,p,h,hl,hr=>codeBR_ok hcf hm c _ h hl hr
  | .loop c,p,h,hl,hr=>⟨codeBR_ok hcf hm c _ h (fun z hz=>hl z (by simp [loopList,hz])) hr,fun L hL=>hl (p,c) (by simp [loopList]) L hL⟩
def funBR (P:Program) (g:Nat):Bool :=
  match P.funcs[g]? with
  | some fn=>match fn.body with
    | some c=>codeBR P fn.ntmps c && (resB fn.ntmps fn.results.toList && distinctB fn.results.toList fn.results.toList 0)
    | none=>false
  | none=>false
def funRanges (P:Program) (g:Nat):List (Nat × Code) :=
  match P.funcs[g]? with
  | some fn=>match fn.body with
    | some c=>rangeList c 1
    | none=>[]
  | none=>[]
theorem fun_callR (l : List (Ent P A)) (hm : P.follows .mixedOrders = true) {lf : Nat → Option LoopSum} {g : Nat} {args : List AV} {S : Stack} {res : Res} (hn : ((P.funcs[g]?).map fun fn => fn.name == "runtime.NumGoroutine") = some false) (hb : funBR P g = true)
    (hl:∀ x ∈ funLoops P g,∀ L,lf x.1 = some L → LoopOK (ntm P g) (fun fr H wr k=>code P (cfE l) cfg lf (cfg.live g) x.2 (2 * x.1) fr H wr k) L) (hr:∀ x ∈ funRanges P g,∀ L,lf x.1 = some L → RangeOK P A (ntm P g) x.2 L) (h:body P (cfE l) cfg lf g args S some = some res):SimCall P A g args S res:=by
  intro e vs w h1 h2 h3
  unfold funBR at hb
  unfold funLoops ntm at hl
  unfold funRanges ntm at hr
  cases hf:P.funcs[g]? with
  | none=>rw [hf] at hb; cases hb
  | some fn =>
    rw [hf] at hb hl hr hn
    simp only at hl hr
    cases hbd:fn.body with
    | none=>simp only [hbd] at hb; cases hb
    | some c =>
      simp only [hbd,Bool.and_eq_true] at hb hl hr
      obtain ⟨res',k1,k2⟩:=body_sim (cfE_ok l) hf hbd (codeBR_ok (cfE_ok l) hm c 1 hb.1 hl hr) hb.2.1 hb.2.2 h
      cases k1
      exact Invokes.of_calls hf (by simpa using hn) hbd (k2 e vs w h1 h2 h3)
def rcode (P:Program) (g j:Nat):Code:=match nth (funRanges P g) j with | some x=>x.2 | none=>.skip
def rAs:Code → Code | .rangeFunc _ _ x _=>x | c=>c
def rBd:Code → Code | .rangeFunc _ _ _ y=>y | c=>c
theorem one_range {g p:Nat} {L:LoopSum} {lf:Nat → Option LoopSum} (hlf:lf p = some L) (h:mapN (·.1) (funRanges P g) = [p]) (hL:RangeOK P A (ntm P g) (rcode P g 0) L):∀ x ∈ funRanges P g,∀ L,lf x.1 = some L → RangeOK P A (ntm P g) x.2 L:=by
  intro x hx L' hL'
  cases hr:funRanges P g with
  | nil=>rw [hr] at hx; cases hx
  | cons y r =>
    rw [hr] at hx h
    simp only [mapN,List.cons.injEq] at h
    obtain ⟨h1,h2⟩:=h
    have hr0:r = []:=by cases r with
      | nil=>rfl
      | cons _ _=>simp [mapN] at h2
    subst hr0
    have hxy:x = y:=by simpa using hx
    subst hxy
    rw [h1,hlf] at hL'
    cases hL'
    unfold rcode at hL
    rw [hr] at hL
    exact hL
theorem rangeOK_of (hcf:CfOK P A cf) {lf:Nat → Option LoopSum} {lv:Nat → Option (List Nat)} {as bd:Code} {p p1 p2 tg gf:Nat} {rest outs:List Nat} {f:List AV → Stack → Tr (Ex × List AV × Stack × Wr)}
    (ha : inB n [] as = true) (hb : inB n [] bd = true) (hlt : ∀ t ∈ tg :: rest, t < n) (hp1 : p1 < n) (hp2 : p2 < n) (hname : ((P.funcs[gf]?).map fun fn => fn.name == "runtime.NumGoroutine") = some false) (hbody : ∃ fn c, P.funcs[gf]? = some fn ∧ fn.body = some c)
    (h:∀ vs H ex vs' H' w,(f vs H).val = some (ex,vs',H',w) → okAVs vs → okH H → ∃ cap vr go ys box,vs = .func gf [] cap :: vr ∧ ex = (bif go then .normal else .ret) ∧ vs' = pickAll (fun t=>strip (mkFr (tg :: rest) vs t)) outs ∧ IterOK P A gf cap box ys ∧ box H ∧
      (∀ wr,runV (fun xs H wr=>roundE P cf cfg lf lv as bd p (frR (tg :: rest) vs p1 p2 xs) H wr) ys H wr = some (go,app w wr,H')) ∧ (∀ xs ∈ ys,∀ H wr wr' H',roundE P cf cfg lf lv as bd p (frR (tg :: rest) vs p1 p2 xs) H wr = some (.bool true,wr',H') → box H → box H') ∧ (∀ xs ∈ ys,∃ x y,xs = [x,y])) :
    RangeOK P A n (.rangeFunc (.tmp tg) #[p1,p2] as bd) (loopT (tg :: rest) outs f) where
  lt:=hlt
  nat:=fun vs H wr k r hs=>by
    obtain ⟨⟨ex,vs',H',w⟩,h1,h2,h3⟩:=Tr.run_val hs
    exact ⟨ex,vs',H',app w wr,WLe.right w wr,h2⟩
  ok:=fun vs H wr k r hs hav hh=>by
    obtain ⟨⟨ex,vs',H',w⟩,h1,h2,h3⟩:=Tr.run_val hs
    obtain ⟨cap,vr,go,ys,box,e1,e2,e3,e4,e5,e6,e7,e8⟩:=h vs H ex vs' H' w h1 hav hh
    refine ⟨ex,vs',H',app w wr,h2,WLe.right w wr,fun K fr e a w' hpick hC=>?_⟩
    have hpick':pickAll fr (tg :: rest) = vs:=hpick
    have hfg:fr tg = .func gf [] cap:=by
      rw [e1] at hpick'
      simp only [pickAll,List.cons.injEq] at hpick'
      exact hpick'.1
    have:=range_wp (K:=K) (n:=n) (cfg:=cfg) (lf:=lf) (lv:=lv) (as:=as) (bd:=bd) (p:=p) (p1:=p1) (p2:=p2) (tg:=tg) (gf:=gf) (cap:=cap) (live:=tg :: rest) (outs:=outs) (fr:=fr) (H:=H) (Hf:=H') (wr:=wr) (wrf:=app w wr) (go:=go) (ys:=ys) (box:=box) hcf ha hb (hlt tg (by simp)) hp1 hp2 hfg hname hbody e4
      (by rw [hpick']; exact e6 wr) e5 (by rw [hpick']; exact e7) e8 (WLe.right _ _) hC
    refine wp_mono this fun x a2 w2 hq=>?_
    rw [hpick'] at hq
    obtain ⟨hx,e',g1,g2,g3,g4⟩:=hq
    subst e2 e3
    exact ⟨hx,e',⟨g1.wok,g1.hr,g1.fr.pick⟩,g2,g3,g4⟩
end Go.Vm
namespace Go.Vm
open Go.RowKit
variable {K:Nat → Prop} {P:Program} {n:Nat} {A:AbsR} {e e0:Env} {s:RS} {a a0:Act} {w w0:World} {o:Oper} {cf:CallK} {cfg:Cfg}
def regs:Code → List (Array Oper)
  | .region _ ops _=>[ops]
  | .seq x y=>app (regs x) (regs y)
  | .cond _ x y=>app (regs x) (regs y)
  | .block _ c=>regs c
  | .loop c=>regs c
  | .scope c=>regs c
  | .rangeFunc _ _ x y=>app (regs x) (regs y)
  | _=>[]
def bodyC (P:Program) (g:Nat):Code:=match P.funcs[g]? with | some fn=>(match fn.body with | some c=>c | none=>.skip) | none=>.skip
def ropsAt (P:Program) (g k:Nat):Array Oper:=match nth (regs (bodyC P g)) k with | some o=>o | none=>#[]
theorem opIn_move {ro:Option Nat} {m:Nat} {next:Act → World → Prop} {Q:Exit → Act → World → Prop} {x:Operand} (ho:o.op = .move x) (h:next (a.put o.dst (a.eval x)) w):o.wpIn (fen ro) m P a w next Q:=by
  refine wpIn_of (fun c hc=>by rw [ho] at hc; cases hc) ?_
  unfold Oper.wp
  rw [show (execOp a.eval o).run P w = .ok (.value (a.eval x)) w from by unfold execOp; rw [ho]; rfl]
  exact h
theorem step_hand {ops:Array Oper} {ro:Option Nat} {m i t d:Nat} {rest:List Nat} {Q:Exit → Act → World → Prop} (h:RR n A e s a w) (ho:ops.toList[i]? = some o) (hop:o.op = .move (.tmp t)) (hd:o.dst = some d) (hdn:d < n) (hb:opsB n ops.toList = true) (hw:wantedV ops.toList s o.guard = some true)
    (hk:∀ e',RR n A e' (Vm.put o s .undef none) (a.put (some d) (Act.at a t)) w → Grow e w e' w s.wr → RhoLe e e' → wpOpsIn (fen ro) m P ops Q rest (a.put (some d) (Act.at a t)) w):wpOpsIn (fen ro) m P ops Q (i :: rest) a w:=by
  simp only [wpOpsIn]
  have hget:ops[i]? = ops.toList[i]?:=by simp
  rw [hget,ho]
  simp only
  rw [if_pos (wanted_sim h hb hw)]
  refine opIn_move hop ?_
  rw [hd]
  obtain ⟨e',k1,k2,k3⟩:=h.putOp (o:=o) (v:=.undef) (u:=Act.at a t) (l:=none) (fun d' hd'=>by rw [hd] at hd'; cases hd'; exact hdn) (by simp [VR]) (by simp)
  rw [hd] at k1
  exact hk e' k1 k2 k3
theorem opIn_yield {m l:Nat} {next:Act → World → Prop} {Q:Exit → Act → World → Prop} {c:Call} {f:Operand} {vs:Array Value} (ho:o.op = .call c) (hc:c.callee = .value f) (hf:a.eval f = .func (.yield l) #[] #[]) (hvs:c.args.map a.eval = vs)
    (h:YieldAt Fence.wide (m - 1) P l vs w fun en W'=>∃ v,en = .returned v ∧ next (a.put o.dst v) W'):o.wpIn (fen none) m P a w next Q:=by
  obtain ⟨fn,tmps,as,bd,h1,h2⟩:=h
  refine ⟨fun _ _=>trivial,?_⟩
  rw [show (fen none).round = none from rfl,Oper.semAt_eq _ _ _ (fun c' hc'=>by rw [ho] at hc'; cases hc')]
  have:(execOp a.eval o).run P w = .ok (.round l fn tmps as bd) w:=by
    unfold execOp
    rw [ho]
    have hz:(#[]:Array Value) ++ vs = vs:=by simp
    simp only [resolve,hc,hf,hvs,Deferred.ofValue,Sem.run_bind,Sem.run_pure,Result.andThen_ok,invoke,hz,Array.append_empty]
    exact h1
  rw [this,Oper.uponIn_round]
  refine ⟨(fun hh=>by cases hh),h2.mono fun en W' hq=>?_⟩
  obtain ⟨v,rfl,hn⟩:=hq
  exact hn
def kp (ls:List Nat):Kont:=fun _ fr H wr=>some (.tuple (pickAll fr ls),wr,H)
def rs0 (fr:Fr) (H:Stack):RS:={ fr,als:=noAls,H,wr:=[],lds:=noLds }
theorem Mid.same {l D:Nat} {rl:Loop} {H:Stack} {wr wr':Wr} {e':Env} {W W':World} (h:Mid A e0 w0 l D rl H wr e W) (hw:WOK e' W') (hH:HR A e' H W') (g:Grow e W e' W' wr') (r:RhoLe e e') (hwr:WLe wr' wr):Mid A e0 w0 l D rl H wr e' W' :=
  h.grow hw hH (g.weaken fun l i hm=>hwr l i hm) r (WLe.refl _)
theorem region_pick (hcf:CfOK P A cf) {id:Nat} {ops:Array Oper} {fr:Fr} {H:Stack} {wr:Wr} {ls:List Nat} {vs:List AV} {l D:Nat} {rl:Loop} {W:World} (hb:opsB n ops.toList = true) (hK:∀ o ∈ ops.toList,∀ d,o.dst = some d → ¬ K d)
    (hr:region P cf cfg false ops.toList fr H wr (kp ls) = some (.tuple vs,wr,H)) (hM:Mid A e0 w0 l D rl H wr e W) (hfr:FRel n e fr a) :
    (Code.region id ops false).wp P (fun x a' W'=>x = .normal ∧ ∃ e',Mid A e0 w0 l D rl H wr e' W' ∧ FRel n e' (mkFr ls vs) a' ∧ Keep K a a') a W:=by
  obtain ⟨fr',H',wr',k1,k2,k3⟩:=region_simIn (K:=K) (id:=id) hcf hb hK hr
  simp only [kp,Option.some.injEq,Prod.mk.injEq,AV.tuple.injEq] at k1
  obtain ⟨rfl,rfl,rfl⟩:=k1
  refine (wpIn_wide (n:=0)).1 (wpIn_mono (k3 none 0 e a W ⟨hM.wok,hM.hr,hfr⟩) fun x a' W' hq=>?_)
  obtain ⟨hx,e',q1,q2,q3,q4⟩:=hq
  cases x <;> simp only [exMatch] at hx
  exact ⟨rfl,e',hM.same q1.wok q1.hr q2 q3 (WLe.refl _),q1.fr.pick,q4⟩
theorem RR.of {fr:Fr} {H:Stack} (h1:WOK e w) (h2:HR A e H w) (h3:FRel n e fr a):RR n A e (rs0 fr H) a w:=⟨h1,h2,h3,fun t src _ hs=>by simp [rs0,noAls] at hs⟩
theorem WLe.nil (wr:Wr):WLe [] wr:=fun _ _ _=>rfl
theorem steps_pick (hcf:CfOK P A cf) {ops:Array Oper} {fr:Fr} {H:Stack} {wr:Wr} {ls ks k2:List Nat} {vs:List AV} {l D m:Nat} {rl:Loop} {W:World} {Q:Exit → Act → World → Prop} (hb:opsB n ops.toList = true) (hK:∀ o ∈ ops.toList,∀ d,o.dst = some d → ¬ K d)
    (hr:(steps P cf cfg false ops.toList ks (rs0 fr H)).map (fun s=>(pickAll s.fr ls,s.H,s.wr)) = some (vs,H,[])) (hM:Mid A e0 w0 l D rl H wr e W) (hfr:FRel n e fr a)
    (hQ:∀ e' a' W',Mid A e0 w0 l D rl H wr e' W' → FRel n e' (mkFr ls vs) a' → Keep K a a' → wpOpsIn (fen none) m P ops Q k2 a' W'):wpOpsIn (fen none) m P ops Q (ks ++ k2) a W:=by
  cases hs:steps P cf cfg false ops.toList ks (rs0 fr H) with
  | none=>rw [hs] at hr; cases hr
  | some s =>
    rw [hs] at hr
    simp only [Option.map_some,Option.some.injEq,Prod.mk.injEq] at hr
    obtain ⟨h1,h2,h3⟩:=hr
    refine steps_simIn (K:=K) hcf hb hK ks e (rs0 fr H) a W s (RR.of hM.wok hM.hr hfr) hs fun a' W' hP=>?_
    obtain ⟨e',q1,q2,q3,q4⟩:=hP
    refine hQ e' a' W' (hM.same q1.wok (h2 ▸ q1.hr) q2 q3 ?_) (h1 ▸ q1.fr.pick) q4
    rw [h3]; exact WLe.nil _
theorem hand_mid {ops:Array Oper} {m i t d:Nat} {rest:List Nat} {Q:Exit → Act → World → Prop} {fr:Fr} {H:Stack} {wr:Wr} {l D:Nat} {rl:Loop} {W:World} (hM:Mid A e0 w0 l D rl H wr e W) (hfr:FRel n e fr a) (ho:ops.toList[i]? = some o) (hop:o.op = .move (.tmp t)) (hd:o.dst = some d) (hdn:d < n) (hb:opsB n ops.toList = true)
    (hw:wantedV ops.toList (rs0 fr H) o.guard = some true) (hk:∀ e',Mid A e0 w0 l D rl H wr e' W → FRel n e' (upd fr d .undef) (a.put (some d) (Act.at a t)) → wpOpsIn (fen none) m P ops Q rest (a.put (some d) (Act.at a t)) W):wpOpsIn (fen none) m P ops Q (i :: rest) a W:=by
  refine step_hand (RR.of hM.wok hM.hr hfr) ho hop hd hdn hb hw fun e' k1 k2 k3=>?_
  have hH:(Vm.put o (rs0 fr H) .undef none).H = H:=by unfold Vm.put; rw [hd]; rfl
  have hF:(Vm.put o (rs0 fr H) .undef none).fr = upd fr d .undef:=by unfold Vm.put; rw [hd]; rfl
  exact hk e' (hM.same k1.wok (hH ▸ k1.hr) k2 k3 (WLe.nil _)) (hF ▸ k1.fr)
theorem yield_mid {ops:Array Oper} {i d l D:Nat} {rest:List Nat} {Q:Exit → Act → World → Prop} {fr:Fr} {H H':Stack} {wr wr':Wr} {rec:Rec} {W:World} {c:Call} {f:Operand} {xs:List AV} {go:Bool} (hM:Mid A e0 w0 l D (rec .ready none) H wr e W) (hfr:FRel n e fr a) (ho:ops.toList[i]? = some o) (hop:o.op = .call c) (hc:c.callee = .value f) (hd:o.dst = some d) (hb:opsB n ops.toList = true)
    (hw:wantedV ops.toList (rs0 fr H) o.guard = some true) (hf:a.eval f = .func (.yield l) #[] #[]) (hdn:d < n) (hxs:VRs e none 0 xs (c.args.map a.eval).toList) (hY:YieldR P A e0 w0 l D rec H wr xs go H' wr')
    (hk:∀ e' W',Mid A e0 w0 l D (goes rec go) H' wr' e' W' → FRel n e' (upd (fun t=>strip (fr t)) d (.bool go)) (a.put (some d) (.bool go)) → wpOpsIn (fen none) 0 P ops Q rest (a.put (some d) (.bool go)) W'):wpOpsIn (fen none) 0 P ops Q (i :: rest) a W:=by
  simp only [wpOpsIn]
  have hget:ops[i]? = ops.toList[i]?:=by simp
  rw [hget,ho]
  simp only
  rw [if_pos (wanted_sim (RR.of hM.wok hM.hr hfr) hb hw)]
  have hy:=hY e W (c.args.map a.eval) hM hxs
  obtain ⟨fn,tmps,as,bd,y1,y2⟩:=hy
  refine opIn_yield (m:=0) hop hc hf rfl ⟨fn,tmps,as,bd,y1,y2.mono fun en W' hq=>?_⟩
  · obtain ⟨rfl,e',k1,k2,k3⟩:=hq
    refine ⟨_,rfl,?_⟩
    rw [hd]
    refine hk e' W' k1 ⟨?_,fun t ht=>?_⟩
    · rw [← hfr.size]; simp [Act.put]
    · rw [Act.at_put _ _ _ _ (by rw [hfr.size]; exact hdn)]
      by_cases h:t = d
      · subst h; rw [upd_same,if_pos rfl]; simp [VR]
      · rw [upd_ne _ _ h,if_neg h]
        exact VR.strip_to k2 k3 (hfr.val t ht)
end Go.Vm
set_option linter.unusedSectionVars false
namespace Go.Vm
open Go.RowKit (Below)
variable {P:Program} {cf:CallK} {cfg:Cfg} {A:AbsR} {e:Env} {w:World}
def mvA (f:Nat → Nat → Nat × Nat):AV → AV
  | .ptr l i o=>.ptr (f l i).1 (f l i).2 o
  | .func g a c=>.func g (mvAs f a) (mvAs f c)
  | .agg cs=>.agg (mvAs f cs)
  | .tuple vs=>.tuple (mvAs f vs)
  | .cptr cs o=>.cptr (mvAs f cs) o
  | .row cs lv=>.row (mvAs f cs) lv
  | v=>v
where mvAs (f:Nat → Nat → Nat × Nat):List AV → List AV
  | []=>[]
  | v :: r=>mvA f v :: mvAs f r
def ptrsIn (p:Nat → Nat → Bool):AV → Bool
  | .ptr l i _=>p l i
  | .func _ a c=>ptrsInS p a && ptrsInS p c
  | .agg cs=>ptrsInS p cs
  | .tuple vs=>ptrsInS p vs
  | .cptr cs _=>ptrsInS p cs
  | .row cs _=>ptrsInS p cs
  | _=>true
where ptrsInS (p:Nat → Nat → Bool):List AV → Bool
  | []=>true
  | v :: r=>ptrsIn p v && ptrsInS p r
def mvOb (f:Nat → Nat → Nat × Nat):Ob → Ob
  | .cells cs=>.cells (mvA.mvAs f cs)
  | o=>o
theorem mvOb_hb {f:Nat → Nat → Nat × Nat} {x:Ob} {q:Option Obj} {c:Array Value} {ty:TypeId} {fz:Nat × Nat}:HB q c ty fz (mvOb f x) ↔ HB q c ty fz x:=by
  cases x <;> exact Iff.rfl
def ptrsInOb (p:Nat → Nat → Bool):Ob → Bool
  | .cells cs=>ptrsIn.ptrsInS p cs
  | _=>true
theorem mvAs_eq (f:Nat → Nat → Nat × Nat):∀ (l:List AV),mvA.mvAs f l = l.map (mvA f)
  | []=>rfl
  | a :: r=>by simp [mvA.mvAs,mvAs_eq f r]
theorem ptrsInS_get {p:Nat → Nat → Bool}:∀ {as:List AV},ptrsIn.ptrsInS p as = true → ∀ (i:Nat) (a:AV),as[i]? = some a → ptrsIn p a = true
  | [],_,i,a,h=>by simp at h
  | x :: r,hn,i,a,h=>by
    simp only [ptrsIn.ptrsInS,Bool.and_eq_true] at hn
    cases i with
    | zero=>simp at h; subst h; exact hn.1
    | succ i=>exact ptrsInS_get hn.2 i a (by simpa using h)
section
variable {e':Env} {f:Nat → Nat → Nat × Nat} {p:Nat → Nat → Bool} (hc:e'.cl = e.cl) (ho:e'.own = e.own)
include hc ho
mutual
theorem VR.mv (hr:∀ l i b,p l i = true → rhoAt e.rho l i = some b → rhoAt e'.rho (f l i).1 (f l i).2 = some b):∀ (a:AV) (pp:Option Pl) (q:Option (Nat → Pl)) (v:Value),ptrsIn p a = true → VR e pp q a v → VR e' pp q (mvA f a) v
  | .undef,_,_,_,_,_=>by simp [mvA,VR]
  | .bool b,_,_,_,_,h=>by simpa [mvA,VR] using h
  | .int k n,_,_,_,_,h=>by simpa [mvA,VR] using h
  | .str s,_,_,_,_,h=>by simpa [mvA,VR] using h
  | .slice T xs lv,pp,q,v,_,h=>by simpa only [mvA] using VR.noPtr hc ho (.slice T xs lv) pp q v rfl h
  | .ptr l i o,_,_,_,hn,h=>by
    simp only [mvA,VR] at h ⊢; obtain ⟨b,h1,h2⟩:=h; exact ⟨b,hr l i b hn h1,h2⟩
  | .nilp,_,_,_,_,h=>by simpa [mvA,VR] using h
  | .cptr cs o,_,_,_,hn,h=>by
    simp only [mvA,VR] at h ⊢; obtain ⟨b,off,h1,h2⟩:=h; exact ⟨b,off,h1,CRs.mv hr cs b off hn h2⟩
  | .func g a c,_,_,_,hn,h=>by
    simp only [ptrsIn,Bool.and_eq_true] at hn
    simp only [mvA,VR] at h ⊢; obtain ⟨va,vc,h1,h2,h3⟩:=h
    exact ⟨va,vc,h1,VRs.mv hr a none 0 _ hn.1 h2,VRs.mv hr c none 0 _ hn.2 h3⟩
  | .nilf,_,_,_,_,h=>by simpa [mvA,VR] using h
  | .agg cs,_,q,_,hn,h=>by
    simp only [mvA,VR] at h ⊢; obtain ⟨a,h1,h2⟩:=h; exact ⟨a,h1,VRs.mv hr cs q 0 _ hn h2⟩
  | .tuple cs,_,q,_,hn,h=>by
    simp only [mvA,VR] at h ⊢; obtain ⟨a,h1,h2⟩:=h; exact ⟨a,h1,VRs.mv hr cs q 0 _ hn h2⟩
  | .row cs lv,_,_,_,hn,h=>by
    simp only [mvA,VR] at h ⊢
    obtain ⟨⟨a,len,cap,h1,h2,h3,h4,h5,h6⟩,h7⟩:=h
    refine ⟨⟨a,len,cap,h1,by rw [mvAs_eq,List.length_map]; exact h2,h3,h4,h5,?_⟩,?_⟩
    · rcases h6 with h | ⟨b,off,g1,g2⟩
      · exact .inl (by rw [h]; rfl)
      · exact .inr ⟨b,off,g1,CRs.mv hr cs b off hn g2⟩
    · cases lv with
      | view=>trivial
      | full=>exact h7
      | nn=>exact h7
      | nilv=>exact h7
      | own=>simp only [LvR] at h7 ⊢; rw [hc,ho]; exact h7
      | mine=>simp only [LvR] at h7 ⊢; rw [hc,ho]; exact h7
theorem VRs.mv (hr:∀ l i b,p l i = true → rhoAt e.rho l i = some b → rhoAt e'.rho (f l i).1 (f l i).2 = some b):∀ (as:List AV) (q:Option (Nat → Pl)) (j:Nat) (vs:List Value),ptrsIn.ptrsInS p as = true → VRs e q j as vs → VRs e' q j (mvA.mvAs f as) vs
  | [],_,_,_,_,h=>by rw [VRs.nil] at h; simp [mvA.mvAs,VRs.nil,h]
  | a :: r,q,j,vs,hn,h=>by
    simp only [ptrsIn.ptrsInS,Bool.and_eq_true] at hn
    rw [VRs.cons] at h; simp only [mvA.mvAs]; rw [VRs.cons]
    obtain ⟨v,s,e1,h1,h2⟩:=h
    exact ⟨v,s,e1,VR.mv hr a _ none v hn.1 h1,VRs.mv hr r q (j + 1) s hn.2 h2⟩
theorem CRs.mv (hr:∀ l i b,p l i = true → rhoAt e.rho l i = some b → rhoAt e'.rho (f l i).1 (f l i).2 = some b):∀ (cs:List AV) (b off:Nat),ptrsIn.ptrsInS p cs = true → CRs e b off cs → CRs e' b off (mvA.mvAs f cs)
  | [],_,_,_,_=>by simp [mvA.mvAs,CRs]
  | a :: r,b,off,hn,h=>by
    simp only [ptrsIn.ptrsInS,Bool.and_eq_true] at hn
    simp only [mvA.mvAs,CRs] at h ⊢
    obtain ⟨⟨u,h1,h2⟩,h3⟩:=h
    exact ⟨⟨u,by rw [hc]; exact h1,VR.mv hr a none none u hn.1 h2⟩,CRs.mv hr r b (off + 1) hn.2 h3⟩
end
mutual
theorem VR.unmv (hr:∀ l i b,p l i = true → rhoAt e.rho (f l i).1 (f l i).2 = some b → rhoAt e'.rho l i = some b):∀ (a:AV) (pp:Option Pl) (q:Option (Nat → Pl)) (v:Value),ptrsIn p a = true → VR e pp q (mvA f a) v → VR e' pp q a v
  | .undef,_,_,_,_,_=>by simp [VR]
  | .bool b,_,_,_,_,h=>by simpa [mvA,VR] using h
  | .int k n,_,_,_,_,h=>by simpa [mvA,VR] using h
  | .str s,_,_,_,_,h=>by simpa [mvA,VR] using h
  | .slice T xs lv,pp,q,v,_,h=>VR.noPtr hc ho (.slice T xs lv) pp q v rfl (by simpa only [mvA] using h)
  | .ptr l i o,_,_,_,hn,h=>by
    simp only [mvA,VR] at h ⊢; obtain ⟨b,h1,h2⟩:=h; exact ⟨b,hr l i b hn h1,h2⟩
  | .nilp,_,_,_,_,h=>by simpa [mvA,VR] using h
  | .cptr cs o,_,_,_,hn,h=>by
    simp only [mvA,VR] at h ⊢; obtain ⟨b,off,h1,h2⟩:=h; exact ⟨b,off,h1,CRs.unmv hr cs b off hn h2⟩
  | .func g a c,_,_,_,hn,h=>by
    simp only [ptrsIn,Bool.and_eq_true] at hn
    simp only [mvA,VR] at h ⊢; obtain ⟨va,vc,h1,h2,h3⟩:=h
    exact ⟨va,vc,h1,VRs.unmv hr a none 0 _ hn.1 h2,VRs.unmv hr c none 0 _ hn.2 h3⟩
  | .nilf,_,_,_,_,h=>by simpa [mvA,VR] using h
  | .agg cs,_,q,_,hn,h=>by
    simp only [mvA,VR] at h ⊢; obtain ⟨a,h1,h2⟩:=h; exact ⟨a,h1,VRs.unmv hr cs q 0 _ hn h2⟩
  | .tuple cs,_,q,_,hn,h=>by
    simp only [mvA,VR] at h ⊢; obtain ⟨a,h1,h2⟩:=h; exact ⟨a,h1,VRs.unmv hr cs q 0 _ hn h2⟩
  | .row cs lv,_,_,_,hn,h=>by
    simp only [mvA,VR] at h ⊢
    obtain ⟨⟨a,len,cap,h1,h2,h3,h4,h5,h6⟩,h7⟩:=h
    rw [mvAs_eq,List.length_map] at h2
    refine ⟨⟨a,len,cap,h1,h2,h3,h4,h5,?_⟩,?_⟩
    · rcases h6 with h | ⟨b,off,g1,g2⟩
      · exact .inl (by rw [mvAs_eq] at h; simpa using h)
      · exact .inr ⟨b,off,g1,CRs.unmv hr cs b off hn g2⟩
    · cases lv with
      | view=>trivial
      | full=>exact h7
      | nn=>exact h7
      | nilv=>exact h7
      | own=>simp only [LvR] at h7 ⊢; rw [hc,ho]; exact h7
      | mine=>simp only [LvR] at h7 ⊢; rw [hc,ho]; exact h7
theorem VRs.unmv (hr:∀ l i b,p l i = true → rhoAt e.rho (f l i).1 (f l i).2 = some b → rhoAt e'.rho l i = some b):∀ (as:List AV) (q:Option (Nat → Pl)) (j:Nat) (vs:List Value),ptrsIn.ptrsInS p as = true → VRs e q j (mvA.mvAs f as) vs → VRs e' q j as vs
  | [],_,_,_,_,h=>by simp only [mvA.mvAs] at h; rw [VRs.nil] at h ⊢; exact h
  | a :: r,q,j,vs,hn,h=>by
    simp only [ptrsIn.ptrsInS,Bool.and_eq_true] at hn
    simp only [mvA.mvAs] at h; rw [VRs.cons] at h ⊢
    obtain ⟨v,s,e1,h1,h2⟩:=h
    exact ⟨v,s,e1,VR.unmv hr a _ none v hn.1 h1,VRs.unmv hr r q (j + 1) s hn.2 h2⟩
theorem CRs.unmv (hr:∀ l i b,p l i = true → rhoAt e.rho (f l i).1 (f l i).2 = some b → rhoAt e'.rho l i = some b):∀ (cs:List AV) (b off:Nat),ptrsIn.ptrsInS p cs = true → CRs e b off (mvA.mvAs f cs) → CRs e' b off cs
  | [],_,_,_,_=>by simp [CRs]
  | a :: r,b,off,hn,h=>by
    simp only [ptrsIn.ptrsInS,Bool.and_eq_true] at hn
    simp only [mvA.mvAs,CRs] at h ⊢
    obtain ⟨⟨u,h1,h2⟩,h3⟩:=h
    exact ⟨⟨u,by rw [hc]; exact h1,VR.unmv hr a none none u hn.1 h2⟩,CRs.unmv hr r b (off + 1) hn.2 h3⟩
end
end
def pos:List (Nat × Nat) → Nat × Nat → Option Nat
  | [],_=>none
  | t :: r,i=>if i = t then some 0 else (pos r i).map (· + 1)
theorem pos_some:∀ {τ:List (Nat × Nat)} {i:Nat × Nat} {j:Nat},pos τ i = some j → τ[j]? = some i
  | [],i,j,h=>by cases h
  | t :: r,i,j,h=>by
    simp only [pos] at h
    split at h
    · rename_i hi; cases h; simp [hi]
    · cases hp:pos r i with
      | none=>rw [hp] at h; cases h
      | some k =>
        rw [hp] at h
        cases h
        simpa using pos_some hp
theorem pos_get:∀ {τ:List (Nat × Nat)} {i:Nat × Nat} {j:Nat},τ.Nodup → τ[j]? = some i → pos τ i = some j
  | [],i,j,_,h=>by simp at h
  | t :: r,i,j,hn,h=>by
    simp only [pos]
    obtain ⟨h1,h2⟩:=List.nodup_cons.1 hn
    cases j with
    | zero=>simp at h; rw [if_pos h.symm]
    | succ j =>
      have h':r[j]? = some i:=by simpa using h
      rw [if_neg,pos_get h2 h']
      · rfl
      · rintro rfl
        exact h1 (List.mem_of_getElem? h')
def putN:List (Nat × Nat) → List Ob → Stack → Stack
  | t :: τ,x :: xs,S=>putN τ xs (setH S t.1 t.2 x)
  | _,_,S=>S
theorem pair_ne {a b:Nat × Nat} (h:a ≠ b):a.1 ≠ b.1 ∨ a.2 ≠ b.2:=by
  by_cases h1:a.1 = b.1
  · right; intro h2; exact h (Prod.ext h1 h2)
  · exact .inl h1
theorem putN_other (p:Nat × Nat):∀ (τ:List (Nat × Nat)) (xs:List Ob) (S:Stack),p ∉ τ → getH (putN τ xs S) p.1 p.2 = getH S p.1 p.2
  | [],_,S,_=>by simp [putN]
  | t :: τ,[],S,_=>by simp [putN]
  | t :: τ,x :: xs,S,h=>by
    simp only [putN]
    rw [putN_other p τ xs _ (fun hh=>h (by simp [hh])),getH_setH_ne]
    exact pair_ne fun hh=>h (by simp [hh])
theorem putN_same:∀ (τ:List (Nat × Nat)) (xs:List Ob) (S:Stack) (j:Nat) (t:Nat × Nat) (x:Ob),τ.Nodup → (∀ t ∈ τ,∃ y,getH S t.1 t.2 = some y) → τ[j]? = some t → xs[j]? = some x → getH (putN τ xs S) t.1 t.2 = some x
  | [],_,S,j,t,x,_,_,h,_=>by simp at h
  | s :: τ,[],S,j,t,x,_,_,_,h=>by simp at h
  | s :: τ,y :: xs,S,j,t,x,hn,hS,ht,hx=>by
    simp only [putN]
    obtain ⟨h1,h2⟩:=List.nodup_cons.1 hn
    cases j with
    | zero =>
      simp at ht hx
      subst ht hx
      rw [putN_other s τ xs _ h1]
      obtain ⟨z,hz⟩:=hS s (by simp)
      exact getH_setH_same _ _ _ _ _ hz
    | succ j =>
      refine putN_same τ xs _ j t x h2 (fun u hu=>?_) (by simpa using ht) (by simpa using hx)
      obtain ⟨z,hz⟩:=hS u (by simp [hu])
      refine ⟨z,?_⟩
      rw [getH_setH_ne _ _ _ _ _ _ (pair_ne (by rintro rfl; exact h1 hu))]
      exact hz
theorem Par.putN {R:Rho}:∀ (τ:List (Nat × Nat)) (xs:List Ob) (S:Stack),Par R S → Par R (putN τ xs S)
  | [],_,S,h=>by simpa [Vm.putN] using h
  | t :: τ,[],S,h=>by simpa [Vm.putN] using h
  | t :: τ,x :: xs,S,h=>Par.putN τ xs _ (h.setH _ _ _)
def at0 (τ:List (Nat × Nat)) (j:Nat):Nat × Nat:=match nth τ j with | some t=>t | none=>(0,0)
def fO (τ:List (Nat × Nat)) (m:Nat):Nat → Nat → Nat × Nat:=fun _ j=>((at0 τ j).1 - m,(at0 τ j).2)
def fV (τ:List (Nat × Nat)):Nat → Nat → Nat × Nat:=fun _ j=>at0 τ j
def pO (τ:List (Nat × Nat)) (n m:Nat):Nat → Nat → Bool:=fun a j=>Nat.beq a 0 && (Nat.blt j n && Nat.ble m (at0 τ j).1)
def pV (n:Nat):Nat → Nat → Bool:=fun a j=>Nat.beq a 1 && Nat.blt j n
def lonN (τ:List (Nat × Nat)):Pl → Pl
  | .ob l' i'=>match pos τ (l',i') with | some j=>.ob 1 j | none=>.hid (.ob l' i')
  | .cell l' i' o=>match pos τ (l',i') with | some j=>.cell 1 j o | none=>.hid (.cell l' i' o)
  | .io a b=>.io a b
  | p=>.hid p
def outN (τ:List (Nat × Nat)):Pl → Pl
  | .ob 1 j=>.ob (at0 τ j).1 (at0 τ j).2
  | .cell 1 j o=>.cell (at0 τ j).1 (at0 τ j).2 o
  | .hid p=>p
  | .io a b=>.io a b
  | p=>.hid p
instance (τ:List (Nat × Nat)):ObF (lonN τ):=⟨fun p=>by
  unfold lonN
  repeat' split
  all_goals rfl⟩
instance (τ:List (Nat × Nat)):ObF (outN τ):=⟨fun p=>by
  unfold outN
  repeat' split
  all_goals rfl⟩
def mvObs (τ:List (Nat × Nat)):List (Nat × Nat) → List Ob → List Ob
  | t :: r,x :: xs=>mvOb (fO τ t.1) x :: mvObs τ r xs
  | _,_=>[]
theorem mvObs_get (τ:List (Nat × Nat)):∀ (r:List (Nat × Nat)) (xs:List Ob) (j:Nat) (t:Nat × Nat) (x:Ob),r[j]? = some t → xs[j]? = some x → (mvObs τ r xs)[j]? = some (mvOb (fO τ t.1) x)
  | [],_,j,t,x,h,_=>by simp at h
  | s :: r,[],j,t,x,_,h=>by simp at h
  | s :: r,y :: xs,0,t,x,h1,h2=>by simp at h1 h2; subst h1 h2; rfl
  | s :: r,y :: xs,j + 1,t,x,h1,h2=>by
    simp only [mvObs]
    simpa using mvObs_get τ r xs j t x (by simpa using h1) (by simpa using h2)
theorem frameN {g:FuncId} {n:Nat} {τ:List (Nat × Nat)} {args:List AV} {xs xs':List Ob} {v:AV} {wr0 wr:Wr} {S:Stack} (hnd:τ.Nodup) (hn:τ.length = n) (hxs:xs.length = n) (hxs':xs'.length = n)
    (hargs:ptrsIn.ptrsInS (pV n) args = true) (hv:ptrsIn (pV n) v = true) (hob:∀ (j:Nat) (t:Nat × Nat) (x:Ob),τ[j]? = some t → xs[j]? = some x → ptrsInOb (pO τ n t.1) x = true) (hob':∀ (j:Nat) (t:Nat × Nat) (x:Ob),τ[j]? = some t → xs'[j]? = some x → ptrsInOb (pO τ n t.1) x = true)
    (h:SimCall P A g args [[],xs] (v,wr0,[[],xs'])) (hg:∀ (j:Nat) (t:Nat × Nat) (x:Ob),τ[j]? = some t → xs[j]? = some x → getH S t.1 t.2 = some (mvOb (fO τ t.1) x))
    (hwr:∀ (j:Nat) (t:Nat × Nat),τ[j]? = some t → memWr t.1 t.2 wr = false → memWr 1 j wr0 = false) :
    SimCall P A g (mvA.mvAs (fV τ) args) S (mvA (fV τ) v,wr,putN τ (mvObs τ τ xs') S):=by
  intro e vs w hw hH hA
  have hat:∀ {j:Nat} {t:Nat × Nat},τ[j]? = some t → at0 τ j = t:=fun {j t} ht=>by unfold at0; rw [nth_eq,ht]
  have hlt:∀ {j:Nat},j < n → ∃ t,τ[j]? = some t:=fun {j} hj=>⟨_,List.getElem?_eq_getElem (by omega)⟩
  have hob1:∀ (j:Nat) (t:Nat × Nat) (x:Ob),τ[j]? = some t → xs[j]? = some x → ∃ b,rhoAt e.rho t.1 t.2 = some b ∧ ObR A e w t.1 t.2 b (mvOb (fO τ t.1) x):=fun j t x ht hx=>hH.ob t.1 t.2 _ (hg j t x ht hx)
  let bs:List Nat:=τ.map fun t=>(rhoAt e.rho t.1 t.2).getD 0
  have hbs:∀ (j:Nat) (t:Nat × Nat) (b:Nat),τ[j]? = some t → rhoAt e.rho t.1 t.2 = some b → bs[j]? = some b:=fun j t b ht hb=>by
    show (τ.map _)[j]? = _
    rw [List.getElem?_map,ht,Option.map_some,hb]; rfl
  have hbs':∀ (j:Nat) (t:Nat × Nat),j < n → τ[j]? = some t → ∃ b,rhoAt e.rho t.1 t.2 = some b ∧ bs[j]? = some b:=fun j t hj ht=>by
    obtain ⟨b,hb,_⟩:=hob1 j t _ ht (List.getElem?_eq_getElem (by omega))
    exact ⟨b,hb,hbs j t b ht hb⟩
  let e0:Env:={ rho:=[[],bs],own:=(e.ren (lonN τ)).own,cl:=e.cl }
  have hw0:WOK e0 w:=⟨hw.holds,(hw.ren (f:=lonN τ)).free⟩
  have hlonO:∀ {j:Nat} {t:Nat × Nat},τ[j]? = some t → lonN τ (.ob t.1 t.2) = .ob 1 j:=fun {j t} ht=>by simp only [lonN,pos_get hnd ht]
  have hlonC:∀ {j:Nat} {t:Nat × Nat} (o:Nat),τ[j]? = some t → lonN τ (.cell t.1 t.2 o) = .cell 1 j o:=fun {j t} o ht=>by simp only [lonN,pos_get hnd ht]
  have hH0:HR A e0 [[],xs] w:=by
    refine ⟨⟨rfl,by show bs.length = _; simp [bs,hn,hxs],trivial⟩,fun l' i' y hy=>?_⟩
    match l',hy with
    | 0,hy=>simp [getH,nth] at hy
    | 1,hy =>
      have hy':xs[i']? = some y:=by simpa [getH,nth_eq] using hy
      have hi:i' < n:=by rw [← hxs]; exact (List.getElem?_eq_some_iff.1 hy').1
      obtain ⟨t,ht⟩:=hlt hi
      obtain ⟨b,hb,c,ty,fz,h1,h2,h3,h4⟩:=hob1 i' t y ht hy'
      refine ⟨b,by show nth bs i' = _; rw [nth_eq]; exact hbs i' t b ht hb,c,ty,fz,mvOb_hb.1 h1,?_,h3,?_⟩
      · show (e.ren (lonN τ)).own b = _
        rw [Env.ren_own h2,hlonO ht]
      · cases y with
        | abs k d=>exact h4
        | map _=>trivial
        | cells cs =>
          have hpc:ptrsIn.ptrsInS (pO τ n t.1) cs = true:=hob i' t (.cells cs) ht hy'
          obtain ⟨g1,g2⟩:=h4
          rw [mvAs_eq] at g1 g2
          refine ⟨by simpa using g1,fun o av u ha hu=>?_⟩
          have hv0:=g2 o (mvA (fO τ t.1) av) u (by rw [List.getElem?_map,ha]; rfl) hu
          have hv1:VR ((e.dr t.1).ren (lonN τ)) (some (.cell 1 i' o)) none (mvA (fO τ t.1) av) u:=VR.ren (by simp [hlonC o ht]) (by simp) hv0
          refine VR.unmv (e:=(e.dr t.1).ren (lonN τ)) (e':=e0.dr 1) (p:=pO τ n t.1) rfl rfl (fun a j b' hp hb'=>?_) av _ _ u (ptrsInS_get hpc o av ha) hv1
          simp only [pO,Bool.and_eq_true,beq_iff,blt_iff,ble_iff] at hp
          obtain ⟨rfl,hj,hle⟩:=hp
          obtain ⟨t',ht'⟩:=hlt hj
          have hb2:rhoAt e.rho t'.1 t'.2 = some b':=by
            have:rhoAt (e.rho.drop t.1) ((at0 τ j).1 - t.1) (at0 τ j).2 = some b':=hb'
            rw [rhoAt_drop,show t.1 + ((at0 τ j).1 - t.1) = (at0 τ j).1 by omega,hat ht'] at this
            exact this
          show nth bs j = _
          rw [nth_eq]
          exact hbs j t' b' ht' hb2
    | l' + 2,hy=>simp [getH] at hy
  have hA0:ArgsR e0 args vs.toList:=by
    obtain ⟨g1,g2⟩:=hA
    rw [mvAs_eq] at g1 g2
    refine ⟨by simpa using g1,fun j y u hy hu=>?_⟩
    have:=g2 j (mvA (fV τ) y) u (by rw [List.getElem?_map,hy]; rfl) hu
    refine VR.unmv (e:=e.ren (lonN τ)) (e':=e0) (p:=pV n) rfl rfl (fun a i b hp hb=>?_) y _ _ u (ptrsInS_get hargs j y hy) (VR.ren (by simp [lonN]) (by simp [lonN]) this)
    simp only [pV,Bool.and_eq_true,beq_iff,blt_iff] at hp
    obtain ⟨rfl,hi⟩:=hp
    obtain ⟨t,ht⟩:=hlt hi
    have hb2:rhoAt e.rho (at0 τ i).1 (at0 τ i).2 = some b:=hb
    rw [hat ht] at hb2
    show nth bs i = _
    rw [nth_eq]
    exact hbs i t b ht hb2
  refine (h e0 vs w hw0 hH0 hA0).mono fun val w' hE=>?_
  obtain ⟨e1,k1,k2,k3,k4,k5⟩:=hE
  have hb1:∀ (j b:Nat),bs[j]? = some b → rhoAt e1.rho 1 j = some b:=fun j b hb=>k5 1 j b (by show nth bs j = _; rw [nth_eq]; exact hb)
  let e2:Env:={ rho:=e.rho,own:=(e1.ren (outN τ)).own,cl:=e1.cl }
  have hlonH:∀ (l' i':Nat),(l',i') ∉ τ → lonN τ (.ob l' i') = .hid (.ob l' i') ∧ ∀ o,lonN τ (.cell l' i' o) = .hid (.cell l' i' o):=by
    intro l' i' hne
    simp only [lonN]
    cases hp:pos τ (l',i') with
    | none=>exact ⟨rfl,fun _=>rfl⟩
    | some j=>exact absurd (List.mem_of_getElem? (pos_some hp)) hne
  have hnot:∀ l' i' b',rhoAt e.rho l' i' = some b' → (l',i') ∉ τ → b' < w.heap.size ∧ ∃ m,e.own b' = some (.ob l' i',m) ∧ e0.own b' = some (.hid (.ob l' i'),m):=by
    intro l' i' b' hb' hne
    obtain ⟨m,hm⟩:=HR.noown (s:=rsOf S) hH hb'
    refine ⟨hw.own_lt hm,m,hm,?_⟩
    show (e.ren (lonN τ)).own b' = _
    rw [Env.ren_own hm,(hlonH l' i' hne).1]
  have hexS:∀ t ∈ τ,∃ y,getH S t.1 t.2 = some y:=fun t ht=>by
    obtain ⟨j,hj,rfl⟩:=List.mem_iff_getElem.1 ht
    exact ⟨_,hg j _ _ (List.getElem?_eq_getElem hj) (List.getElem?_eq_getElem (by omega))⟩
  refine ⟨e2,⟨k1.holds,(k1.ren (f:=outN τ)).free⟩,⟨hH.par.putN _ _,fun l' i' y hy=>?_⟩,?_,?_,fun _ _ _ h=>h⟩
  · by_cases hne:(l',i') ∈ τ
    · obtain ⟨j,hj,htj⟩:=List.mem_iff_getElem.1 hne
      have ht:τ[j]? = some (l',i'):=by rw [List.getElem?_eq_getElem hj,htj]
      have hx':xs'[j]? = some (xs'[j]'(by omega)):=List.getElem?_eq_getElem (by omega)
      generalize (xs'[j]'(by omega)) = x' at hx'
      have hps:=putN_same τ (mvObs τ τ xs') S j (l',i') (mvOb (fO τ l') x') hnd hexS ht (mvObs_get τ τ xs' j (l',i') x' ht hx')
      simp only at hps
      rw [hps] at hy
      cases hy
      obtain ⟨b,hb,hbj⟩:=hbs' j (l',i') (by omega) ht
      obtain ⟨b1,hb1',c,ty,fz,q1,q2,q3,q4⟩:=k2.ob 1 j x' (by simpa [getH,nth_eq] using hx')
      rw [hb1 j b hbj] at hb1'; cases hb1'
      refine ⟨b,hb,c,ty,fz,mvOb_hb.2 q1,?_,q3,?_⟩
      · show (e1.ren (outN τ)).own b = _
        rw [Env.ren_own q2]
        simp only [outN,hat ht]
      · cases x' with
        | abs k d=>exact q4
        | map _=>trivial
        | cells cs =>
          have hpc:ptrsIn.ptrsInS (pO τ n l') cs = true:=hob' j (l',i') (.cells cs) ht hx'
          obtain ⟨g1,g2⟩:=q4
          show CellsR e2 l' i' (mvA.mvAs (fO τ l') cs) c.toList
          rw [mvAs_eq]
          refine ⟨by simpa using g1,fun o av u ha hu=>?_⟩
          rw [List.getElem?_map] at ha
          cases hcs:cs[o]? with
          | none=>rw [hcs] at ha; cases ha
          | some av0 =>
            rw [hcs] at ha
            cases ha
            have hv0:=g2 o av0 u hcs hu
            have hv1:VR ((e1.dr 1).ren (outN τ)) (some (.cell l' i' o)) none av0 u:=VR.ren (by simp [outN,hat ht]) (by simp) hv0
            refine VR.mv (e:=(e1.dr 1).ren (outN τ)) (e':=e2.dr l') (p:=pO τ n l') rfl rfl (fun a i b' hp hb'=>?_) av0 _ _ u (ptrsInS_get hpc o av0 hcs) hv1
            simp only [pO,Bool.and_eq_true,beq_iff,blt_iff,ble_iff] at hp
            obtain ⟨rfl,hi',hle⟩:=hp
            obtain ⟨t',ht'⟩:=hlt hi'
            obtain ⟨b3,hb3,hb3'⟩:=hbs' i t' hi' ht'
            have hb4:rhoAt (e1.rho.drop 1) 0 i = some b':=hb'
            rw [rhoAt_drop,hb1 i b3 hb3'] at hb4
            cases hb4
            show rhoAt (e.rho.drop l') ((at0 τ i).1 - l') (at0 τ i).2 = _
            rw [rhoAt_drop,show l' + ((at0 τ i).1 - l') = (at0 τ i).1 by omega,hat ht']
            exact hb3
    · have hpo:=putN_other (l',i') τ (mvObs τ τ xs') S hne
      simp only at hpo
      rw [hpo] at hy
      obtain ⟨b2,hb2,c,ty,fz,g1,g2,g3,g4⟩:=hH.ob l' i' y hy
      obtain ⟨q1,m,q2,q3⟩:=hnot l' i' b2 hb2 hne
      obtain ⟨s1,s2,s3⟩:=k4.stay b2 q1 (.inr ⟨_,_,q3⟩)
      rw [g2] at q2
      simp only [Option.some.injEq,Prod.mk.injEq,true_and] at q2
      refine ⟨b2,hb2,c,ty,fz,by rw [s1]; exact g1,?_,fun o=>(s3 o).trans (g3 o),?_⟩
      · show (e1.ren (outN τ)).own b2 = _
        rw [q3] at s2
        rw [Env.ren_own s2]
        simp [outN,q2]
      · cases y with
        | abs k d=>exact g4
        | map _=>trivial
        | cells cs =>
          refine ⟨g4.1,fun o av u ha hu=>?_⟩
          refine VR.mono (e:=e.dr l') (e':=e2.dr l') (fun _ _ _ h=>h) k4.cl av _ _ none none u (fun p hp=>?_) (by simp) (g4.2 o av u ha hu)
          cases hp
          refine ⟨_,rfl,⟨fun b3 m hm=>?_⟩⟩
          have hm':e.own b3 = some (.cell l' i' o,m):=hm
          have h0:e0.own b3 = some (.hid (.cell l' i' o),m):=by
            show (e.ren (lonN τ)).own b3 = _
            rw [Env.ren_own hm',(hlonH l' i' hne).2 o]
          obtain ⟨t1,t2,t3⟩:=k4.stay b3 (hw.own_lt hm') (.inr ⟨_,_,h0⟩)
          rw [h0] at t2
          exact ⟨by show (e1.ren (outN τ)).own b3 = _; rw [Env.ren_own t2]; rfl,fun o' ho=>(t3 o').trans ho⟩
  · refine VR.mv (e:=e1.ren (outN τ)) (e':=e2) (p:=pV n) rfl rfl (fun a i b hp hb=>?_) v _ _ val hv (VR.ren (by simp [outN]) (by simp [outN]) k3)
    simp only [pV,Bool.and_eq_true,beq_iff,blt_iff] at hp
    obtain ⟨rfl,hi⟩:=hp
    obtain ⟨t,ht⟩:=hlt hi
    obtain ⟨b3,hb3,hb3'⟩:=hbs' i t hi ht
    have hb4:rhoAt e1.rho 1 i = some b:=hb
    rw [hb1 i b3 hb3'] at hb4
    cases hb4
    show rhoAt e.rho (at0 τ i).1 (at0 τ i).2 = _
    rw [hat ht]
    exact hb3
  · refine ⟨k4.os,k4.tape,k4.output,k4.size,k4.cl,fun b' hb' ho=>?_,fun _ _ _ h=>h,fun l' i' b' hb' hm=>?_⟩
    · rcases ho with ho | ⟨p,m,ho⟩
      · have h0:e0.own b' = none:=by show (e.ren (lonN τ)).own b' = _; simp [Env.ren,ho]
        obtain ⟨t1,t2,t3⟩:=k4.stay b' hb' (.inl h0)
        rw [h0] at t2
        exact ⟨t1,by show (e1.ren (outN τ)).own b' = _; simp [Env.ren,t2,ho],t3⟩
      · have h0:e0.own b' = some (.hid (.hid p),m):=by show (e.ren (lonN τ)).own b' = _; rw [Env.ren_own ho]; rfl
        obtain ⟨t1,t2,t3⟩:=k4.stay b' hb' (.inr ⟨_,_,h0⟩)
        rw [h0] at t2
        exact ⟨t1,by show (e1.ren (outN τ)).own b' = _; rw [Env.ren_own t2,ho]; rfl,t3⟩
    · by_cases hne:(l',i') ∈ τ
      · obtain ⟨j,hj,htj⟩:=List.mem_iff_getElem.1 hne
        have ht:τ[j]? = some (l',i'):=by rw [List.getElem?_eq_getElem hj,htj]
        have hbj:=hbs j _ b' ht hb'
        refine k4.obs 1 j b' (by show nth bs j = _; rw [nth_eq]; exact hbj) ?_
        exact hwr j _ ht hm
      · obtain ⟨q1,m,q2,q3⟩:=hnot l' i' b' hb' hne
        exact (k4.stay b' q1 (.inr ⟨_,_,q3⟩)).1
end Go.Vm
namespace Go.Vm
variable {P:Program} {cf:CallK} {cfg:Cfg} {A:AbsR} {e:Env} {w:World}
def lvLe:Lv → Lv → Bool
  | _,.view=>true
  | .full,.own=>true
  | .mine,.own=>true
  | .nilv,.own=>true
  | .nilv,.full=>true
  | .full,.full=>true
  | .own,.own=>true
  | .mine,.mine=>true
  | .nn,.nn=>true
  | .nilv,.nilv=>true
  | _,_=>false
theorem LvR.le {p:Option Pl} {k:Nat} {v:Value} {a b:Lv} (hab:lvLe a b = true) (h:LvR e p k v a):LvR e p k v b:=by
  cases b with
  | view=>trivial
  | full =>
    cases a with
    | full=>exact h
    | nilv=>exact ⟨none,0,h⟩
    | _=>cases hab
  | own =>
    cases a with
    | full=>exact .inl h
    | nilv=>exact .inl ⟨none,0,h⟩
    | own=>exact h
    | mine=>exact LvR.owned (.inl rfl) h
    | _=>cases hab
  | mine=>cases a <;> first | exact h | cases hab
  | nn=>cases a <;> first | exact h | cases hab
  | nilv=>cases a <;> first | exact h | cases hab
inductive AvLe:AV → AV → Prop
  | refl (a:AV):AvLe a a
  | sl (T:Ty) (xs:List T.interp) (a b:Lv) (h:lvLe a b = true):AvLe (.slice T xs a) (.slice T xs b)
theorem VR.le {p:Option Pl} {q:Option (Nat → Pl)} {a b:AV} {v:Value} (h:AvLe a b) (hv:VR e p q a v):VR e p q b v:=by
  cases h with
  | refl=>exact hv
  | sl T xs a b h =>
    simp only [VR] at hv ⊢
    exact ⟨hv.1,hv.2.le h⟩
def CsLe:List AV → List AV → Prop
  | [],[]=>True
  | a :: r,b :: s=>AvLe a b ∧ CsLe r s
  | _,_=>False
theorem CsLe.get:∀ {cs ds:List AV},CsLe cs ds → cs.length = ds.length ∧ ∀ (o:Nat) (b:AV),ds[o]? = some b → ∃ a,cs[o]? = some a ∧ AvLe a b
  | [],[],_=>⟨rfl,fun o b h=>by simp at h⟩
  | a :: r,b :: s,h=>by
    obtain ⟨h1,h2⟩:=h
    obtain ⟨h3,h4⟩:=CsLe.get h2
    refine ⟨by simp [h3],fun o b' hb=>?_⟩
    cases o with
    | zero=>simp at hb; subst hb; exact ⟨a,rfl,h1⟩
    | succ o=>simpa using h4 o b' (by simpa using hb)
  | [],_ :: _,h=>h.elim
  | _ :: _,[],h=>h.elim
theorem HR.le {S:Stack} {l i:Nat} {cs cs':List AV} (hH:HR A e S w) (hg:getH S l i = some (.cells cs)) (hle:CsLe cs cs'):HR A e (setH S l i (.cells cs')) w:=by
  refine ⟨hH.par.setH _ _ _,fun l' i' y hy=>?_⟩
  by_cases hne:l' = l ∧ i' = i
  · obtain ⟨rfl,rfl⟩:=hne
    rw [getH_setH_same _ _ _ _ _ hg] at hy
    cases hy
    obtain ⟨b,hb,c,ty,fz,h1,h2,h3,h4,h5⟩:=hH.ob l' i' (.cells cs) hg
    obtain ⟨k1,k2⟩:=hle.get
    refine ⟨b,hb,c,ty,fz,h1,h2,h3,?_,fun o av u ha hu=>?_⟩
    · rw [← k1]; exact h4
    · obtain ⟨a,q1,q2⟩:=k2 o av ha
      exact VR.le q2 (h5 o a u q1 hu)
  · rw [getH_setH_ne _ _ _ _ _ _ (by by_cases hl:l' = l; exact .inr fun hi=>hne ⟨hl,hi⟩; exact .inl hl)] at hy
    exact hH.ob l' i' y hy
theorem SimCall.weak {g:FuncId} {args:List AV} {S S1:Stack} {v:AV} {wr:Wr} {l i:Nat} {cs cs':List AV} (h:SimCall P A g args S (v,wr,S1)) (hg:getH S1 l i = some (.cells cs)) (hle:CsLe cs cs'):SimCall P A g args S (v,wr,setH S1 l i (.cells cs')):=by
  intro e vs w h1 h2 h3
  exact (h e vs w h1 h2 h3).mono fun val w' ⟨e',k1,k2,k3,k4,k5⟩=>⟨e',k1,k2.le hg hle,k3,k4,k5⟩
def loneC (d j:Nat):List AV → Option (List AV)
  | []=>some []
  | .ptr d' j' o :: r=>bif Nat.beq d' d && Nat.beq j' j then (match loneC d j r with | some r'=>some (.ptr 0 1 o :: r') | none=>none) else none
  | v :: r=>bif noPtr v then (match loneC d j r with | some r'=>some (v :: r') | none=>none) else none
def ptrJ:List AV → Option (Nat × Nat)
  | []=>none
  | .ptr d j _ :: _=>some (d,j)
  | _ :: r=>ptrJ r
mutual
theorem mvA_noPtr (f:Nat → Nat → Nat × Nat):∀ (a:AV),noPtr a = true → mvA f a = a
  | .undef,_=>rfl
  | .bool _,_=>rfl
  | .int _ _,_=>rfl
  | .str _,_=>rfl
  | .slice _ _ _,_=>rfl
  | .ptr _ _ _,h=>by simp [noPtr] at h
  | .nilp,_=>rfl
  | .cptr cs o,h=>by simp only [noPtr] at h; simp only [mvA,mvAs_noPtr f cs h]
  | .func g a c,h=>by simp only [noPtr,Bool.and_eq_true] at h; simp only [mvA,mvAs_noPtr f a h.1,mvAs_noPtr f c h.2]
  | .nilf,_=>rfl
  | .agg cs,h=>by simp only [noPtr] at h; simp only [mvA,mvAs_noPtr f cs h]
  | .tuple cs,h=>by simp only [noPtr] at h; simp only [mvA,mvAs_noPtr f cs h]
  | .row cs lv,h=>by simp only [noPtr] at h; simp only [mvA,mvAs_noPtr f cs h]
theorem mvAs_noPtr (f:Nat → Nat → Nat × Nat):∀ (l:List AV),noPtr.noPtrs l = true → mvA.mvAs f l = l
  | [],_=>rfl
  | a :: r,h=>by
    simp only [noPtr.noPtrs,Bool.and_eq_true] at h
    simp only [mvA.mvAs,mvA_noPtr f a h.1,mvAs_noPtr f r h.2]
end
mutual
theorem ptrsIn_noPtr (p:Nat → Nat → Bool):∀ (a:AV),noPtr a = true → ptrsIn p a = true
  | .undef,_=>rfl
  | .bool _,_=>rfl
  | .int _ _,_=>rfl
  | .str _,_=>rfl
  | .slice _ _ _,_=>rfl
  | .ptr _ _ _,h=>by simp [noPtr] at h
  | .nilp,_=>rfl
  | .cptr cs o,h=>by simp only [noPtr] at h; simp only [ptrsIn,ptrsInS_noPtr p cs h]
  | .func g a c,h=>by simp only [noPtr,Bool.and_eq_true] at h; simp only [ptrsIn,ptrsInS_noPtr p a h.1,ptrsInS_noPtr p c h.2,Bool.and_self]
  | .nilf,_=>rfl
  | .agg cs,h=>by simp only [noPtr] at h; simp only [ptrsIn,ptrsInS_noPtr p cs h]
  | .tuple cs,h=>by simp only [noPtr] at h; simp only [ptrsIn,ptrsInS_noPtr p cs h]
  | .row cs lv,h=>by simp only [noPtr] at h; simp only [ptrsIn,ptrsInS_noPtr p cs h]
theorem ptrsInS_noPtr (p:Nat → Nat → Bool):∀ (l:List AV),noPtr.noPtrs l = true → ptrsIn.ptrsInS p l = true
  | [],_=>rfl
  | a :: r,h=>by
    simp only [noPtr.noPtrs,Bool.and_eq_true] at h
    simp only [ptrsIn.ptrsInS,ptrsIn_noPtr p a h.1,ptrsInS_noPtr p r h.2,Bool.and_self]
end
theorem loneC_ok {l i d j:Nat}:∀ {cs cs0:List AV},loneC d j cs = some cs0 → cs = mvA.mvAs (fO [(l,i),(l + d,j)] l) cs0 ∧ ptrsIn.ptrsInS (pO [(l,i),(l + d,j)] 2 l) cs0 = true ∧ (okAVs cs → okAVs cs0)
  | [],cs0,h=>by cases h; exact ⟨rfl,rfl,fun h=>h⟩
  | a :: r,cs0,h=>by
    by_cases hp:∃ d' j' o,a = .ptr d' j' o
    · obtain ⟨d',j',o,rfl⟩:=hp
      simp only [loneC] at h
      cases hb:(Nat.beq d' d && Nat.beq j' j) with
      | false=>rw [hb] at h; cases h
      | true =>
        rw [hb] at h
        simp only [Bool.and_eq_true,beq_iff] at hb
        obtain ⟨rfl,rfl⟩:=hb
        simp only [cond_true] at h
        cases hr:loneC d' j' r with
        | none=>rw [hr] at h; cases h
        | some r' =>
          rw [hr] at h
          cases h
          obtain ⟨h1,h2,h3⟩:=loneC_ok (l:=l) (i:=i) hr
          refine ⟨?_,?_,fun ho=>?_⟩
          · simp only [mvA.mvAs,mvA]
            rw [← h1]
            simp only [fO,at0,nth]
            rw [show l + d' - l = d' by omega]
          · simp only [ptrsIn.ptrsInS,ptrsIn,h2,Bool.and_true]
            simp [pO,at0,nth,beq_iff,blt_iff,ble_iff]
          · simp only [okAVs] at ho ⊢
            exact ⟨trivial,h3 ho.2⟩
    · have hs:loneC d j (a :: r) = bif noPtr a then (match loneC d j r with | some r'=>some (a :: r') | none=>none) else none:=by
        cases a with
        | ptr d' j' o=>exact absurd ⟨d',j',o,rfl⟩ hp
        | _=>rfl
      rw [hs] at h
      cases hb:noPtr a with
      | false=>rw [hb] at h; cases h
      | true =>
        rw [hb] at h
        simp only [cond_true] at h
        cases hr:loneC d j r with
        | none=>rw [hr] at h; cases h
        | some r' =>
          rw [hr] at h
          cases h
          obtain ⟨h1,h2,h3⟩:=loneC_ok (l:=l) (i:=i) hr
          refine ⟨by simp only [mvA.mvAs]; rw [mvA_noPtr _ a hb,← h1],by simp only [ptrsIn.ptrsInS,ptrsIn_noPtr _ a hb,h2,Bool.and_self],fun ho=>?_⟩
          simp only [okAVs] at ho ⊢
          exact ⟨ho.1,h3 ho.2⟩
def wr2 (l i l2 j:Nat) (w0 w1:Bool):Wr:=bif w0 then (l,i) :: (bif w1 then [(l2,j)] else []) else bif w1 then [(l2,j)] else []
theorem wr2_i {l i l2 j:Nat} {w0 w1:Bool} (h:memWr l i (wr2 l i l2 j w0 w1) = false):w0 = false:=by
  cases w0 with
  | false=>rfl
  | true=>simp [wr2,memWr,(beq_iff _ _).2 rfl] at h
theorem wr2_j {l i l2 j:Nat} {w0 w1:Bool} (h:memWr l2 j (wr2 l i l2 j w0 w1) = false):w1 = false:=by
  cases w1 with
  | false=>rfl
  | true=>cases w0 <;> simp [wr2,memWr,(beq_iff _ _).2 rfl] at h
abbrev F2:=List AV → List AV → List AV → Tr (AV × Bool × Bool × List AV × List AV)
def pL:Nat → Nat → Bool:=fun a j=>Nat.beq a 0 && Nat.beq j 1
def Two (P:Program) (A:AbsR) (g:Nat) (hd:Nat → Nat → Nat → Nat → AV) (f:F2):Prop :=
  ∀ rest cs ds v w0 w1 cs' ds',(f rest cs ds).val = some (v,w0,w1,cs',ds') → noPtr.noPtrs rest = true ∧ noPtr.noPtrs ds = true ∧ ptrsIn (pV 2) v = true ∧ ptrsIn.ptrsInS pL cs' = true ∧ noPtr.noPtrs ds' = true ∧ (w0 = false → cs' = cs) ∧ (w1 = false → ds' = ds) ∧
    (okAVs rest → okH [[],[.cells cs,.cells ds]] → SimCall P A g (hd 1 0 1 1 :: rest) [[],[.cells cs,.cells ds]] (v,wr2 1 0 1 1 w0 w1,[[],[.cells cs',.cells ds']]))
mutual
theorem ptrsIn_mono {p q:Nat → Nat → Bool} (h:∀ a j,p a j = true → q a j = true):∀ (a:AV),ptrsIn p a = true → ptrsIn q a = true
  | .undef,_=>rfl
  | .bool _,_=>rfl
  | .int _ _,_=>rfl
  | .str _,_=>rfl
  | .slice _ _ _,_=>rfl
  | .ptr _ _ _,hp=>h _ _ hp
  | .nilp,_=>rfl
  | .cptr cs o,hp=>by simp only [ptrsIn] at hp ⊢; exact ptrsInS_mono h cs hp
  | .func g a c,hp=>by simp only [ptrsIn,Bool.and_eq_true] at hp ⊢; exact ⟨ptrsInS_mono h a hp.1,ptrsInS_mono h c hp.2⟩
  | .nilf,_=>rfl
  | .agg cs,hp=>by simp only [ptrsIn] at hp ⊢; exact ptrsInS_mono h cs hp
  | .tuple cs,hp=>by simp only [ptrsIn] at hp ⊢; exact ptrsInS_mono h cs hp
  | .row cs lv,hp=>by simp only [ptrsIn] at hp ⊢; exact ptrsInS_mono h cs hp
theorem ptrsInS_mono {p q:Nat → Nat → Bool} (h:∀ a j,p a j = true → q a j = true):∀ (l:List AV),ptrsIn.ptrsInS p l = true → ptrsIn.ptrsInS q l = true
  | [],_=>rfl
  | a :: r,hp=>by
    simp only [ptrsIn.ptrsInS,Bool.and_eq_true] at hp ⊢
    exact ⟨ptrsIn_mono h a hp.1,ptrsInS_mono h r hp.2⟩
end
def run2 (l i:Nat) (f:F2) (rest:List AV) (S:Stack) (k:Res → Option Res):Option Res :=
  match getH S l i with
  | some (.cells cs)=>match ptrJ cs with
    | some (d,j)=>match loneC d j cs,getH S (l + d) j with
      | some cs0,some (.cells ds)=>bif Nat.beq d 0 && Nat.beq i j then none else (f rest cs0 ds).run fun y=>match y with
        | (v,w0,w1,cs',ds')=>k (mvA (fV [(l,i),(l + d,j)]) v,wr2 l i (l + d) j w0 w1,putN [(l,i),(l + d,j)] [.cells (mvA.mvAs (fO [(l,i),(l + d,j)] l) cs'),.cells ds'] S)
      | _,_=>none
    | none=>none
  | _=>none
theorem run2_ok {g l i:Nat} {hd:Nat → Nat → Nat → Nat → AV} {f:F2} (hhd:∀ l i l2 j,ptrsIn (pV 2) (hd 1 0 1 1) = true ∧ mvA (fV [(l,i),(l2,j)]) (hd 1 0 1 1) = hd l i l2 j) (h:Two P A g hd f) {rest:List AV} {S:Stack} {k:Res → Option Res} {r:Res} (hc:run2 l i f rest S k = some r) :
    ∃ res d j,(∀ k',run2 l i f rest S k' = k' res) ∧ k res = some r ∧ (∃ cs,getH S l i = some (.cells cs) ∧ ptrJ cs = some (d,j)) ∧ (okAVs rest → okH S → SimCall P A g (hd l i (l + d) j :: rest) S res) ∧ ∀ l' i',memWr l' i' res.2.1 = false → ObE (getH res.2.2 l' i') (getH S l' i') ∨ (l' = 0 ∧ headLen S ≤ i'):=by
  unfold run2 at hc ⊢
  cases hg:getH S l i with
  | none=>rw [hg] at hc; cases hc
  | some x =>
  cases x with
  | abs _ _=>rw [hg] at hc; cases hc
  | map _=>rw [hg] at hc; cases hc
  | cells cs =>
  rw [hg] at hc
  simp only at hc ⊢
  cases hj:ptrJ cs with
  | none=>rw [hj] at hc; cases hc
  | some dj =>
  obtain ⟨d,j⟩:=dj
  rw [hj] at hc
  simp only at hc ⊢
  cases hl:loneC d j cs with
  | none=>rw [hl] at hc; cases hc
  | some cs0 =>
  rw [hl] at hc
  cases hd':getH S (l + d) j with
  | none=>rw [hd'] at hc; cases hc
  | some y =>
  rw [hd'] at hc
  cases y with
  | abs _ _=>cases hc
  | map _=>cases hc
  | cells ds =>
  simp only at hc ⊢
  cases hb:(Nat.beq d 0 && Nat.beq i j) with
  | true=>rw [hb] at hc; cases hc
  | false =>
  rw [hb] at hc
  simp only [cond_false] at hc ⊢
  obtain ⟨⟨v,w0,w1,cs',ds'⟩,h1,h2,h3⟩:=Tr.run_val hc
  obtain ⟨g1,g2,g3,g4,g5,g6,g7,g8⟩:=h rest cs0 ds v w0 w1 cs' ds' h1
  obtain ⟨q1,q2,q3⟩:=loneC_ok (l:=l) (i:=i) hl
  have hij:l = l + d → i ≠ j:=by
    intro hd0 he
    have:d = 0:=by omega
    subst this he
    simp [(beq_iff _ _).2 rfl] at hb
  have hne:(l,i) ≠ (l + d,j):=by
    intro he
    simp only [Prod.mk.injEq] at he
    exact hij he.1 he.2
  have hnd:[(l,i),(l + d,j)].Nodup:=by simp; intro h0 h1; exact hij (by omega) h1
  have g4':ptrsIn.ptrsInS (pO [(l,i),(l + d,j)] 2 l) cs' = true:=ptrsInS_mono (fun a n hp=>by
    simp only [pL,Bool.and_eq_true,beq_iff] at hp
    obtain ⟨rfl,rfl⟩:=hp
    simp [pO,at0,nth,beq_iff,blt_iff,ble_iff]) _ g4
  refine ⟨_,d,j,fun k'=>h3 _,h2,⟨cs,rfl,hj⟩,fun ho hh=>?_,fun l' i' hm=>?_⟩
  · have hok:okH [[],[.cells cs0,.cells ds]]:=by
      intro l' i' c hcs
      match l',i',hcs with
      | 0,i',hcs=>simp [getH,nth] at hcs
      | 1,0,hcs=>simp only [getH,nth,Option.some.injEq,Ob.cells.injEq] at hcs; subst hcs; exact q3 (hh l i cs hg)
      | 1,1,hcs=>simp only [getH,nth,Option.some.injEq,Ob.cells.injEq] at hcs; subst hcs; exact hh (l + d) j ds hd'
      | 1,i' + 2,hcs=>simp [getH,nth] at hcs
      | l' + 2,i',hcs=>simp [getH] at hcs
    obtain ⟨e1,e2⟩:=hhd l i (l + d) j
    have hs:=frameN (P:=P) (A:=A) (g:=g) (n:=2) (τ:=[(l,i),(l + d,j)]) (args:=hd 1 0 1 1 :: rest) (xs:=[.cells cs0,.cells ds]) (xs':=[.cells cs',.cells ds']) (v:=v) (wr0:=wr2 1 0 1 1 w0 w1) (wr:=wr2 l i (l + d) j w0 w1) (S:=S) hnd rfl rfl rfl
      (by simp only [ptrsIn.ptrsInS,e1,ptrsInS_noPtr _ _ g1,Bool.and_self]) g3
      (fun n t x ht hx=>by
        match n,ht,hx with
        | 0,ht,hx=>simp at ht hx; subst ht hx; exact q2
        | 1,ht,hx=>simp at ht hx; subst ht hx; exact ptrsInS_noPtr _ _ g2
        | n + 2,ht,hx=>simp at ht)
      (fun n t x ht hx=>by
        match n,ht,hx with
        | 0,ht,hx=>simp at ht hx; subst ht hx; exact g4'
        | 1,ht,hx=>simp at ht hx; subst ht hx; exact ptrsInS_noPtr _ _ g5
        | n + 2,ht,hx=>simp at ht)
      (g8 ho hok)
      (fun n t x ht hx=>by
        match n,ht,hx with
        | 0,ht,hx=>simp at ht hx; subst ht hx; rw [hg,q1]; rfl
        | 1,ht,hx=>simp at ht hx; subst ht hx; rw [hd']; simp only [mvOb,mvAs_noPtr _ _ g2]
        | n + 2,ht,hx=>simp at ht)
      (fun n t ht hm=>by
        match n,ht with
        | 0,ht =>
          simp at ht; subst ht
          have:=wr2_i hm
          subst this
          cases w1 <;> rfl
        | 1,ht =>
          simp at ht; subst ht
          have:=wr2_j hm
          subst this
          cases w0 <;> rfl
        | n + 2,ht=>simp at ht)
    simp only [mvA.mvAs,e2,mvAs_noPtr _ rest g1,mvObs,mvOb,mvAs_noPtr _ ds' g5] at hs
    exact hs
  · left
    by_cases hi:(l',i') = (l,i)
    · cases hi
      have hw:=wr2_i hm
      subst hw
      have:cs' = cs0:=g6 rfl
      subst this
      simp only [putN]
      rw [getH_setH_ne _ _ _ _ _ _ (pair_ne hne),getH_setH_same _ _ _ _ _ hg,← q1,hg]
      exact copyvs_refl_ObE _
    · by_cases hi2:(l',i') = (l + d,j)
      · cases hi2
        have hw:=wr2_j hm
        subst hw
        have:ds' = ds:=g7 rfl
        subst this
        simp only [putN]
        rw [getH_setH_same _ _ _ (.cells ds'),hd']
        · exact copyvs_refl_ObE _
        · rw [getH_setH_ne _ _ _ _ _ _ (pair_ne (Ne.symm hne))]; exact hd'
      · have:=putN_other (l',i') [(l,i),(l + d,j)] [.cells (mvA.mvAs (fO [(l,i),(l + d,j)] l) cs'),.cells ds'] S (by simp only [List.mem_cons,List.not_mem_nil,or_false,not_or]; exact ⟨hi,hi2⟩)
        simp only at this
        rw [this]
        exact copyvs_refl_ObE _
def obj2C (f:F2):Contract:=fun args S k=>match args with
  | .ptr l i 0 :: rest=>run2 l i f rest S k
  | _=>none
def hdP:Nat → Nat → Nat → Nat → AV:=fun l i _ _=>.ptr l i 0
theorem obj2C_ok {g:Nat} {f:F2} (h:Two P A g hdP f):Con P A g (obj2C f):=by
  intro args S k r hc
  unfold obj2C at hc ⊢
  split at hc
  · rename_i l i rest
    obtain ⟨res,d,j,h1,h2,h3,h4,h5⟩:=run2_ok (P:=P) (A:=A) (hd:=hdP) (fun l i l2 j=>⟨rfl,rfl⟩) h hc
    refine ⟨res,h1,h2,SimCall.ranged fun ho hh=>?_,h5⟩
    simp only [okAVs] at ho
    exact h4 ho.2 hh
  · cases hc
end Go.Vm
namespace Go.Vm
open Go.RowKit (Below)
variable {K:Nat → Prop} {P:Program} {n:Nat} {A:AbsR} {e e0:Env} {s:RS} {a a0:Act} {w w0:World} {o:Oper} {cf:CallK} {cfg:Cfg}
theorem put_self (a:Act) (t:Nat):a.put (some t) (Act.at a t) = a:=by
  unfold Act.at Act.put
  obtain ⟨tm,d⟩:=a
  simp only [Array.getD_eq_getD_getElem?]
  rcases Nat.lt_or_ge t tm.size with h | h
  · have:tm.setIfInBounds t tm[t] = tm:=by
      refine Array.ext (by simp) fun j h1 h2=>?_
      rw [Array.getElem_setIfInBounds]
      split
      · rename_i he; subst he; rfl
      · rfl
    simp [h,this]
  · simp [Array.setIfInBounds,Nat.not_lt.2 h]
structure StoreD where
  p:Nat
  xt:Nat
  et:Nat
  q:Nat
  qa:Nat
  tS:Nat
  tI:Nat
  tV:Nat
  tP:Nat
end Go.Vm
namespace Go.Vm
variable {P:Program} {A:AbsR}
def loneK:Nat → List AV → Option (List AV × List (Nat × Nat))
  | _,[]=>some ([],[])
  | k,.ptr d j o :: r=>match loneK (k + 1) r with | some (cs,ps)=>some (.ptr 0 (k + 1) o :: cs,(d,j) :: ps) | none=>none
  | k,v :: r=>bif noPtr v then (match loneK k r with | some (cs,ps)=>some (v :: cs,ps) | none=>none) else none
theorem loneK_ok {τ:List (Nat × Nat)} {l n:Nat}:∀ {k:Nat} {cs cs0:List AV} {ps:List (Nat × Nat)},loneK k cs = some (cs0,ps) → (∀ m x,ps[m]? = some x → τ[k + 1 + m]? = some (l + x.1,x.2)) → k + 1 + ps.length ≤ n →
    cs = mvA.mvAs (fO τ l) cs0 ∧ ptrsIn.ptrsInS (pO τ n l) cs0 = true ∧ (okAVs cs → okAVs cs0)
  | k,[],cs0,ps,h,_,_=>by cases h; exact ⟨rfl,rfl,fun h=>h⟩
  | k,a :: r,cs0,ps,h,hτ,hn=>by
    by_cases hp:∃ d' j' o,a = .ptr d' j' o
    · obtain ⟨d',j',o,rfl⟩:=hp
      simp only [loneK] at h
      cases hr:loneK (k + 1) r with
      | none=>rw [hr] at h; cases h
      | some x =>
        obtain ⟨cs1,ps1⟩:=x
        rw [hr] at h
        cases h
        have h0:=hτ 0 (d',j') (by simp)
        have hat:at0 τ (k + 1) = (l + d',j'):=by unfold at0; rw [nth_eq]; rw [Nat.add_zero] at h0; rw [h0]
        simp only [List.length_cons] at hn
        obtain ⟨h1,h2,h3⟩:=loneK_ok (τ:=τ) (l:=l) (n:=n) hr (fun m x hx=>by
          have:=hτ (m + 1) x (by simpa using hx)
          rwa [show k + 1 + (m + 1) = k + 1 + 1 + m by omega] at this) (by omega)
        refine ⟨?_,?_,fun ho=>?_⟩
        · simp only [mvA.mvAs,mvA]
          rw [← h1]
          simp only [fO,hat]
          rw [show l + d' - l = d' by omega]
        · simp only [ptrsIn.ptrsInS,ptrsIn,h2,Bool.and_true]
          simp only [pO,hat,Bool.and_eq_true,beq_iff,blt_iff,ble_iff]
          exact ⟨trivial,by omega,by omega⟩
        · simp only [okAVs] at ho ⊢
          exact ⟨trivial,h3 ho.2⟩
    · have hs:loneK k (a :: r) = bif noPtr a then (match loneK k r with | some (cs,ps)=>some (a :: cs,ps) | none=>none) else none:=by
        cases a with
        | ptr d' j' o=>exact absurd ⟨d',j',o,rfl⟩ hp
        | _=>rfl
      rw [hs] at h
      cases hb:noPtr a with
      | false=>rw [hb] at h; cases h
      | true =>
        rw [hb] at h
        simp only [cond_true] at h
        cases hr:loneK k r with
        | none=>rw [hr] at h; cases h
        | some x =>
          obtain ⟨cs1,ps1⟩:=x
          rw [hr] at h
          cases h
          obtain ⟨h1,h2,h3⟩:=loneK_ok (τ:=τ) (l:=l) (n:=n) hr hτ hn
          refine ⟨by simp only [mvA.mvAs]; rw [mvA_noPtr _ a hb,← h1],by simp only [ptrsIn.ptrsInS,ptrsIn_noPtr _ a hb,h2,Bool.and_self],fun ho=>?_⟩
          simp only [okAVs] at ho ⊢
          exact ⟨ho.1,h3 ho.2⟩
def plainOb:Ob → Bool
  | .cells cs=>noPtr.noPtrs cs
  | .map _=>true
  | .abs _ _=>false
def getAll (S:Stack) (l:Nat):List (Nat × Nat) → Option (List Ob)
  | []=>some []
  | (d,j) :: r=>match getH S (l + d) j,getAll S l r with
    | some x,some xs=>bif plainOb x then some (x :: xs) else none
    | _,_=>none
theorem getAll_ok {S:Stack} {l:Nat}:∀ {ps:List (Nat × Nat)} {xs:List Ob},getAll S l ps = some xs → xs.length = ps.length ∧ ∀ (m:Nat) (p:Nat × Nat) (x:Ob),ps[m]? = some p → xs[m]? = some x → getH S (l + p.1) p.2 = some x ∧ plainOb x = true
  | [],xs,h=>by cases h; exact ⟨rfl,fun m p x hp _=>by simp at hp⟩
  | (d,j) :: r,xs,h=>by
    simp only [getAll] at h
    cases hg:getH S (l + d) j with
    | none=>rw [hg] at h; cases h
    | some y =>
      rw [hg] at h
      cases hr:getAll S l r with
      | none=>rw [hr] at h; cases h
      | some ys =>
        rw [hr] at h
        simp only at h
        obtain ⟨hp,h⟩:=cond_none h
        cases h
        obtain ⟨h1,h2⟩:=getAll_ok hr
        refine ⟨by simp [h1],fun m p x hp' hx=>?_⟩
        cases m with
        | zero=>simp at hp' hx; subst hp' hx; exact ⟨hg,hp⟩
        | succ m=>exact h2 m p x (by simpa using hp') (by simpa using hx)
def memP (p:Nat × Nat):List (Nat × Nat) → Bool
  | []=>false
  | q :: r=>(Nat.beq p.1 q.1 && Nat.beq p.2 q.2) || memP p r
def ndB:List (Nat × Nat) → Bool
  | []=>true
  | p :: r=>!memP p r && ndB r
theorem memP_false {p:Nat × Nat}:∀ {l:List (Nat × Nat)},memP p l = false → p ∉ l
  | [],_,h=>by cases h
  | q :: r,h,hm=>by
    simp only [memP,Bool.or_eq_false_iff] at h
    rcases List.mem_cons.1 hm with rfl | hm
    · rw [(beq_iff p.1 p.1).2 rfl,(beq_iff p.2 p.2).2 rfl] at h; cases h.1
    · exact memP_false h.2 hm
theorem ndB_ok:∀ {l:List (Nat × Nat)},ndB l = true → l.Nodup
  | [],_=>List.nodup_nil
  | p :: r,h=>by
    simp only [ndB,Bool.and_eq_true,Bool.not_eq_true'] at h
    exact List.nodup_cons.2 ⟨memP_false h.1,ndB_ok h.2⟩
def placesK (l i:Nat):List (Nat × Nat) → List (Nat × Nat)
  | ps=>(l,i) :: mapN (fun p=>(l + p.1,p.2)) ps
abbrev FN:=List AV → List Ob → Tr (AV × Bool × List Ob)
def wrN:Nat → Nat → Wr
  | _,0=>[]
  | i,n + 1=>(1,i) :: wrN (i + 1) n
def pM (n:Nat):Nat → Nat → Bool:=fun a j=>Nat.beq a 0 && Nat.blt j n
def shapeN (n:Nat):List Ob → Bool
  | .cells cs :: r=>ptrsIn.ptrsInS (pM n) cs && r.all plainOb
  | _=>false
def Many (P:Program) (A:AbsR) (g:Nat) (f:FN):Prop :=
  ∀ rest xs v w xs',(f rest xs).val = some (v,w,xs') → noPtr.noPtrs rest = true ∧ xs'.length = xs.length ∧ ptrsIn (pV xs.length) v = true ∧ shapeN xs.length xs' = true ∧ (w = false → xs' = xs) ∧
    (okAVs rest → okH [[],xs] → SimCall P A g (.ptr 1 0 0 :: rest) [[],xs] (v,bif w then wrN 0 xs.length else [],[[],xs']))
def runN (l i:Nat) (f:FN) (rest:List AV) (S:Stack) (k:Res → Option Res):Option Res :=
  match getH S l i with
  | some (.cells cs)=>match loneK 0 cs with
    | some (cs0,ps)=>match getAll S l ps with
      | some xs=>bif ndB (placesK l i ps) then (f rest (.cells cs0 :: xs)).run fun y=>match y with
          | (v,w,xs')=>k (mvA (fV (placesK l i ps)) v,bif w then placesK l i ps else [],putN (placesK l i ps) (mvObs (placesK l i ps) (placesK l i ps) xs') S)
        else none
      | none=>none
    | none=>none
  | _=>none
theorem memWr_mem {l i:Nat}:∀ {τ:Wr},memWr l i τ = false → (l,i) ∉ τ
  | [],_,h=>by cases h
  | (a,b) :: r,h,hm=>by
    simp only [memWr,Bool.or_eq_false_iff] at h
    rcases List.mem_cons.1 hm with he | hm
    · cases he
      rw [(beq_iff l l).2 rfl,(beq_iff i i).2 rfl] at h; cases h.1
    · exact memWr_mem h.2 hm
theorem plain_in (p:Nat → Nat → Bool) {x:Ob} (h:plainOb x = true):ptrsInOb p x = true:=by
  cases x with
  | cells cs=>exact ptrsInS_noPtr p cs h
  | map _=>rfl
  | abs _ _=>cases h
theorem plain_mv (f:Nat → Nat → Nat × Nat) {x:Ob} (h:plainOb x = true):mvOb f x = x:=by
  cases x with
  | cells cs=>simp only [mvOb,mvAs_noPtr f cs h]
  | map _=>rfl
  | abs _ _=>cases h
theorem runN_ok {g l i:Nat} {f:FN} (h:Many P A g f) {rest:List AV} {S:Stack} {k:Res → Option Res} {r:Res} (hc:runN l i f rest S k = some r) :
    ∃ res,(∀ k',runN l i f rest S k' = k' res) ∧ k res = some r ∧ (okAVs rest → okH S → SimCall P A g (.ptr l i 0 :: rest) S res) ∧ ∀ l' i',memWr l' i' res.2.1 = false → ObE (getH res.2.2 l' i') (getH S l' i') ∨ (l' = 0 ∧ headLen S ≤ i'):=by
  unfold runN at hc ⊢
  cases hg:getH S l i with
  | none=>rw [hg] at hc; cases hc
  | some x =>
  cases x with
  | abs _ _=>rw [hg] at hc; cases hc
  | map _=>rw [hg] at hc; cases hc
  | cells cs =>
  rw [hg] at hc
  simp only at hc ⊢
  cases hl:loneK 0 cs with
  | none=>rw [hl] at hc; cases hc
  | some y =>
  obtain ⟨cs0,ps⟩:=y
  rw [hl] at hc
  simp only at hc ⊢
  cases hga:getAll S l ps with
  | none=>rw [hga] at hc; cases hc
  | some xs =>
  rw [hga] at hc
  simp only at hc ⊢
  cases hnd0:ndB (placesK l i ps) with
  | false=>rw [hnd0] at hc; cases hc
  | true =>
  rw [hnd0] at hc
  simp only [cond_true] at hc ⊢
  have hnd:=ndB_ok hnd0
  generalize hτ:placesK l i ps = τ at hc hnd ⊢
  have hτ0:τ[0]? = some (l,i):=by rw [← hτ]; rfl
  have hτs:∀ (m:Nat) (x:Nat × Nat),ps[m]? = some x → τ[m + 1]? = some (l + x.1,x.2):=fun m x hx=>by
    rw [← hτ]
    simp only [placesK,mapN_eq,List.getElem?_cons_succ,List.getElem?_map,hx,Option.map_some]
  have hτl:τ.length = ps.length + 1:=by rw [← hτ]; simp [placesK,mapN_eq]
  have hτi:∀ (m:Nat) (t:Nat × Nat),τ[m + 1]? = some t → ∃ p,ps[m]? = some p ∧ t = (l + p.1,p.2):=fun m t ht=>by
    have hlt:m < ps.length:=by
      have:=(List.getElem?_eq_some_iff.1 ht).1
      omega
    have:=hτs m _ (List.getElem?_eq_getElem hlt)
    rw [ht] at this
    exact ⟨_,List.getElem?_eq_getElem hlt,by simpa using this⟩
  obtain ⟨a1,a2⟩:=getAll_ok hga
  obtain ⟨q1,q2,q3⟩:=loneK_ok (τ:=τ) (l:=l) (n:=ps.length + 1) hl (fun m x hx=>by
    have:=hτs m x hx
    rwa [show m + 1 = 0 + 1 + m by omega] at this) (by omega)
  obtain ⟨⟨v,w,xs'⟩,h1,h2,h3⟩:=Tr.run_val hc
  obtain ⟨g1,g2,g3,g4,g5,g6⟩:=h rest (.cells cs0 :: xs) v w xs' h1
  have hlen:(Ob.cells cs0 :: xs).length = ps.length + 1:=by simp [a1]
  rw [hlen] at g2 g3 g4 g6
  have hget:∀ (n:Nat) (t:Nat × Nat) (x:Ob),τ[n]? = some t → (Ob.cells cs0 :: xs)[n]? = some x → getH S t.1 t.2 = some (mvOb (fO τ t.1) x):=fun n t x ht hx=>by
    cases n with
    | zero =>
      rw [hτ0] at ht
      simp at ht hx; subst ht hx
      simp only [mvOb]
      rw [← q1]; exact hg
    | succ m =>
      obtain ⟨p,hp,rfl⟩:=hτi m t ht
      obtain ⟨z1,z2⟩:=a2 m p x hp (by simpa using hx)
      rw [plain_mv _ z2]; exact z1
  have hS:∀ t ∈ τ,∃ y,getH S t.1 t.2 = some y:=fun t ht=>by
    obtain ⟨n,hn⟩:=List.getElem?_of_mem ht
    have hlt:n < (Ob.cells cs0 :: xs).length:=by
      have:=(List.getElem?_eq_some_iff.1 hn).1
      omega
    exact ⟨_,hget n t _ hn (List.getElem?_eq_getElem hlt)⟩
  have hall:∀ (n:Nat) (x:Ob),xs'[n + 1]? = some x → plainOb x = true:=fun n x hx=>by
    cases xs' with
    | nil=>simp at hx
    | cons y ys =>
      cases y with
      | cells cs' =>
        simp only [shapeN,Bool.and_eq_true,List.all_eq_true] at g4
        exact g4.2 x (List.mem_of_getElem? (i:=n) (by simpa using hx))
      | _=>cases g4
  have hmain:∀ (x:Ob),xs'[0]? = some x → ptrsInOb (pO τ (ps.length + 1) l) x = true:=fun x hx=>by
    cases xs' with
    | nil=>simp at hx
    | cons y ys =>
      simp at hx; subst hx
      cases y with
      | cells cs' =>
        simp only [shapeN,Bool.and_eq_true] at g4
        refine ptrsInS_mono (fun a n hp=>?_) _ g4.1
        simp only [pM,Bool.and_eq_true,beq_iff,blt_iff] at hp
        obtain ⟨rfl,hlt⟩:=hp
        have hτn:∃ t,τ[n]? = some t ∧ l ≤ t.1:=by
          cases n with
          | zero=>exact ⟨_,hτ0,Nat.le_refl _⟩
          | succ n =>
            have hn:n < ps.length:=by omega
            exact ⟨_,hτs n _ (List.getElem?_eq_getElem hn),Nat.le_add_right _ _⟩
        obtain ⟨t,ht,hle⟩:=hτn
        have hat:at0 τ n = t:=by unfold at0; rw [nth_eq,ht]
        simp only [pO,hat,Bool.and_eq_true,beq_iff,blt_iff,ble_iff]
        exact ⟨trivial,hlt,hle⟩
      | _=>cases g4
  refine ⟨_,fun k'=>h3 _,h2,fun ho hh=>?_,fun l' i' hm=>?_⟩
  · have hok:okH [[],.cells cs0 :: xs]:=by
      intro l' i' c hcs
      match l',i',hcs with
      | 0,i',hcs=>simp [getH,nth] at hcs
      | 1,0,hcs=>simp only [getH,nth,Option.some.injEq,Ob.cells.injEq] at hcs; subst hcs; exact q3 (hh l i cs hg)
      | 1,i' + 1,hcs =>
        simp only [getH,nth,nth_eq] at hcs
        have hlt:i' < ps.length:=by
          have:=(List.getElem?_eq_some_iff.1 hcs).1
          omega
        exact hh _ _ _ (a2 i' _ _ (List.getElem?_eq_getElem hlt) hcs).1
      | l' + 2,i',hcs=>simp [getH] at hcs
    have hargs:mvA.mvAs (fV τ) (.ptr 1 0 0 :: rest) = .ptr l i 0 :: rest:=by
      have hat:at0 τ 0 = (l,i):=by unfold at0; rw [nth_eq,hτ0]
      simp only [mvA.mvAs,mvA,fV,hat,mvAs_noPtr _ rest g1]
    have hs:=frameN (P:=P) (A:=A) (g:=g) (n:=ps.length + 1) (τ:=τ) (args:=.ptr 1 0 0 :: rest) (xs:=.cells cs0 :: xs) (xs':=xs') (v:=v) (wr0:=bif w then wrN 0 (ps.length + 1) else []) (wr:=bif w then τ else []) (S:=S) hnd hτl hlen g2
      (by simp only [ptrsIn.ptrsInS,ptrsIn,ptrsInS_noPtr _ _ g1,Bool.and_true]; simp [pV,beq_iff,blt_iff]) g3
      (fun n t x ht hx=>by
        cases n with
        | zero=>rw [hτ0] at ht; simp at ht hx; subst ht hx; exact q2
        | succ m =>
          obtain ⟨p,hp,rfl⟩:=hτi m t ht
          exact plain_in _ (a2 m p x hp (by simpa using hx)).2)
      (fun n t x ht hx=>by
        cases n with
        | zero=>rw [hτ0] at ht; simp at ht; subst ht; exact hmain x hx
        | succ m=>exact plain_in _ (hall m x hx))
      (g6 ho hok) hget
      (fun n t ht hm=>by
        cases w with
        | true =>
          simp only [cond_true] at hm
          exact absurd (List.mem_of_getElem? ht) (memWr_mem (l:=t.1) (i:=t.2) hm)
        | false=>rfl)
    rw [hargs] at hs
    exact hs
  · left
    by_cases hi:(l',i') ∈ τ
    · cases hw:w with
      | true =>
        rw [hw] at hm
        exact absurd hi (memWr_mem hm)
      | false =>
        have:=g5 hw
        subst this
        obtain ⟨n,hn⟩:=List.getElem?_of_mem hi
        have hlt:n < (Ob.cells cs0 :: xs).length:=by
          have:=(List.getElem?_eq_some_iff.1 hn).1
          omega
        have hx:=List.getElem?_eq_getElem hlt
        have h5:=putN_same τ (mvObs τ τ (.cells cs0 :: xs)) S n (l',i') _ hnd hS hn (mvObs_get τ τ _ n (l',i') _ hn hx)
        simp only at h5
        rw [h5,hget n (l',i') _ hn hx]
        exact copyvs_refl_ObE _
    · have:=putN_other (l',i') τ (mvObs τ τ xs') S hi
      simp only at this
      rw [this]
      exact copyvs_refl_ObE _
def objNC (f:FN):Contract:=fun args S k=>match args with
  | .ptr l i 0 :: rest=>runN l i f rest S k
  | _=>none
theorem objNC_ok {g:Nat} {f:FN} (h:Many P A g f):Con P A g (objNC f):=by
  intro args S k r hc
  unfold objNC at hc ⊢
  split at hc
  · rename_i l i rest
    obtain ⟨res,h1,h2,h4,h5⟩:=runN_ok (P:=P) (A:=A) h hc
    refine ⟨res,h1,h2,SimCall.ranged fun ho hh=>?_,h5⟩
    simp only [okAVs] at ho
    exact h4 ho.2 hh
  · cases hc
end Go.Vm
namespace Go.Vm
open Go.RowKit (Below)
variable {P:Program} {cf:CallK} {cfg:Cfg} {s s1 s2:RS} {o:Oper} {A:AbsR} {ops:List Oper}
def Swp (P:Program) (cf:CallK) (cfg:Cfg) (ops:List Oper) (x y:Oper):Prop :=
  (floatB P x.op = false ∧ floatB P y.op = false) ∧ (∀ s s1 s2,step1 P cf cfg true ops x s = some s1 → step1 P cf cfg true ops y s1 = some s2 → ∃ t,step1 P cf cfg true ops y s = some t ∧ step1 P cf cfg true ops x t = some s2) ∧
    ∀ s s1 s2,step1 P cf cfg true ops y s = some s1 → step1 P cf cfg true ops x s1 = some s2 → ∃ t,step1 P cf cfg true ops x s = some t ∧ step1 P cf cfg true ops y t = some s2
def CmpX (P:Program) (cf:CallK) (cfg:Cfg) (ops:List Oper) (i j:Nat):Prop :=
  ∀ x y,ops[i]? = some x → ops[j]? = some y → (∃ d,Beside P ops x y d) ∨ (∃ d,Beside P ops y x d) ∨ Swp P cf cfg ops x y ∨ Swp P cf cfg ops y x
structure DrawStX (P:Program) (cf:CallK) (cfg:Cfg) (ops:Array Oper):Prop where
  mixed:P.follows .mixedOrders = true
  still:Still P ops.toList
  back:∀ (i:Nat) o,ops[i]? = some o → ∀ e ∈ o.after.toList,Region.binds .any e = true → e.on < i
  pair:∀ i j,i < j → j < ops.size → Must ops i j ∨ CmpX P cf (cfgN ops.toList cfg) ops.toList i j
end Go.Vm
