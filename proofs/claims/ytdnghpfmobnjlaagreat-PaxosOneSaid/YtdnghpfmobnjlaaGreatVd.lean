/- A part of an evaluator of loaded programs and of the proof that it is right. Conditions: none. -/
import Derived.Test.YtdnghpfmobnjlaaGreatVc
import Derived.Scope
import Derived.RangeFuncRecord
import Derived.Test.YtdnghpfmobnjlaaGreatVa
set_option linter.unusedVariables false
set_option linter.unusedSimpArgs false
namespace Go.Vm
variable {P:Program} {n:Nat} {A:AbsR} {e:Env} {s:RS} {a:Act} {w:World} {o:Oper} {cf:CallK} {cfg:Cfg}
def ArgsR (e:Env) (args:List AV) (vs:List Value):Prop :=
  args.length = vs.length ∧ ∀ (i:Nat) (x:AV) (v:Value),args[i]? = some x → vs[i]? = some v → VR e (some (.io i 0)) (some fun j=>.io i (j + 1)) x v
def Ends (A:AbsR) (e:Env) (w:World) (res:Res) (v:Value) (w':World):Prop :=
  ∃ e',WOK e' w' ∧ HR A e' res.2.2 w' ∧ VR e' (some (.io 0 0)) (some fun j=>.io 0 (j + 1)) res.1 v ∧ Grow e w e' w' res.2.1 ∧ RhoLe e e'
def Invokes (P:Program) (g:FuncId) (vs:Array Value) (w:World) (R:Value → World → Prop):Prop :=
  ∀ (o:Oper) (a:Act) (next:Act → World → Prop) (Q:Exit → Act → World → Prop),(∀ v w',R v w' → next (a.put o.dst v) w') → o.upon P a next Q ((callFunc g vs).run P w)
def SimCall (P:Program) (A:AbsR) (g:FuncId) (args:List AV) (S:Stack) (res:Res):Prop :=
  ∀ e vs w,WOK e w → HR A e S w → ArgsR e args vs.toList → Invokes P g vs w (Ends A e w res)
theorem Invokes.of_calls {g : FuncId} {fn : Func} {c : Code} {vs : Array Value} {R : Value → World → Prop} (hf : P.funcs[g]? = some fn) (hname : (fn.name == "runtime.NumGoroutine") = false) (hb : fn.body = some c)
    (h:Calls P g vs w fun | .returned v,w'=>R v w' | _,_=>False):Invokes P g vs w R:=by
  intro o a next Q hk
  rw [MuLone.run_callFunc_enter hf hname hb,Oper.upon_enter]
  refine h.mono fun x w' hx=>?_
  cases x with
  | returned v=>exact hk v w' hx
  | panicked ch=>exact hx.elim
  | outgrown=>exact hx.elim
def ObE:Option Ob → Option Ob → Prop
  | some (.cells c),some (.cells c')=>copyv.copyvs c = copyv.copyvs c'
  | a,b=>a = b
structure CfOK (P:Program) (A:AbsR) (cf:CallK):Prop where
  nat:∀ g args S k r,cf g args S k = some r → ∃ res,cf g args S some = some res ∧ k res = some r
  sim:∀ g args S res,cf g args S some = some res → SimCall P A g args S res
  frame:∀ g args S res,cf g args S some = some res → ∀ l i,memWr l i res.2.1 = false → ObE (getH res.2.2 l i) (getH S l i) ∨ (l = 0 ∧ headLen S ≤ i)
def hideF:Pl → Pl
  | .slot t j=>.hid (.slot t j)
  | .hid p=>.hid (.hid p)
  | p=>p
def showF:Pl → Pl
  | .hid p=>p
  | p=>p
theorem HR.ren' {f:Pl → Pl} {H:Stack} (hf:∀ l i,f (.ob l i) = .ob l i) (hc:∀ l i o,f (.cell l i o) = .cell l i o) (h:HR A e H w):HR A (e.ren f) H w where
  par:=h.par
  ob:=fun l i x hx=>by
    obtain ⟨b,hb,c,ty,fz,h1,h2,h3,h4⟩:=h.ob l i x hx
    refine ⟨b,hb,c,ty,fz,h1,by have:=Env.ren_own (f:=f) h2; rwa [hf] at this,h3,?_⟩
    cases x with
    | cells cs=>exact h4.ren (hc l i)
    | abs k d=>exact h4
    | map _=>trivial
instance:ObF hideF:=⟨fun p=>by unfold hideF; split <;> rfl⟩
instance:ObF showF:=⟨fun p=>by unfold showF; split <;> rfl⟩
theorem hid_own {b m:Nat} {p:Pl} (h:e.own b = some (p,m)):(e.ren hideF).own b = some (hideF p,m):=Env.ren_own h
theorem killWr_some:∀ {wr:Wr} {als:Als} {t:Nat} {src:Src},killWr wr als t = some src → als t = some src ∧ ∀ l i q,src = .cell l i q → memWr l i wr = false
  | [],als,t,src,h=>⟨h,fun _ _ _ _=>rfl⟩
  | (l,i) :: wr,als,t,src,h=>by
    simp only [killWr] at h
    obtain ⟨h1,h2⟩:=killWr_some h
    obtain ⟨h3,h4⟩:=killOb_some h1
    refine ⟨h3,fun l' i' q hq=>?_⟩
    subst hq
    simp only [memWr]
    rw [h2 l' i' q rfl,Bool.or_false]
    simp only [Src.inOb] at h4
    cases hb1:Nat.beq l' l with
    | false=>rfl
    | true =>
      cases hb2:Nat.beq i' i with
      | false=>rfl
      | true =>
        have e1:=(beq_iff _ _).1 hb1
        have e2:=(beq_iff _ _).1 hb2
        subst e1; subst e2
        rw [(beq_iff l' l').2 rfl,(beq_iff i' i').2 rfl] at h4
        cases h4
theorem Grow.weaken {e':Env} {w':World} {wr wr':Wr} (h:Grow e w e' w' wr) (hw:∀ l i,memWr l i wr' = false → memWr l i wr = false):Grow e w e' w' wr' :=
  ⟨h.os,h.tape,h.output,h.size,h.cl,h.stay,h.rho,fun l i b hb hm=>h.obs l i b hb (hw l i hm)⟩
theorem RR.called {e3:Env} {w':World} {H':Stack} {wr:Wr} {v:AV} {u:Value} (h:RR n A e s a w) (hw:WOK e3 w') (hH:HR A e3 H' w') (hv:VR e3 (some (.io 0 0)) (some fun j=>.io 0 (j + 1)) v u) (hg:Grow (e.ren hideF) w e3 w' wr) (hr:RhoLe (e.ren hideF) e3) :
    RR n A (e3.ren showF) { s with H:=H',wr:=app wr s.wr,als:=killWr wr s.als } a w' ∧ VR (e3.ren showF) (some (.io 0 0)) (some fun j=>.io 0 (j + 1)) v u ∧ Grow e w (e3.ren showF) w' (app wr s.wr) ∧ RhoLe e (e3.ren showF):=by
  have hkeep:∀ t j,Keeps e (e3.ren showF) (.slot t j) (.slot t j):=fun t j=>⟨fun b m hb=>by
    have hlt:=h.wok.own_lt hb
    have h2:=hid_own hb
    obtain ⟨_,g2,g3⟩:=hg.stay b hlt (.inr ⟨.slot t j,m,h2⟩)
    rw [h2] at g2
    exact ⟨by have:=Env.ren_own (f:=showF) g2; exact this,fun o ho=>by have:=g3 o; exact this.trans ho⟩⟩
  refine ⟨⟨hw.ren,hH.ren' (fun _ _=>rfl) (fun _ _ _=>rfl),⟨h.fr.size,fun t ht=>?_⟩,fun t src ht hs=>?_⟩,VR.ren (by simp [showF]) (by simp [showF]) hv,?_,hr⟩
  · exact VR.mono (e:=e) (e':=e3.ren showF) hr hg.cl _ _ _ _ _ _ (fun x hx=>by cases hx; exact ⟨_,rfl,hkeep t 0⟩) (fun f hf=>by cases hf; exact ⟨_,rfl,fun j=>hkeep t (j + 1)⟩) (h.fr.val t ht)
  · obtain ⟨k1,k2⟩:=killWr_some hs
    refine (h.als t src ht k1).env hr fun l i q hq b hb=>cell_of_heap (hg.obs l i b hb (k2 l i q hq))
  · refine ⟨hg.os,hg.tape,hg.output,hg.size,hg.cl,fun b hb ho=>?_,fun l i b hb=>hg.rho l i b hb,fun l i b hb hm=>hg.obs l i b hb ?_⟩
    · rcases ho with ho | ⟨p,m,ho⟩
      · have h2:(e.ren hideF).own b = none:=by simp [Env.ren,ho]
        obtain ⟨g1,g2,g3⟩:=hg.stay b hb (.inl h2)
        rw [h2] at g2
        exact ⟨g1,by simp [Env.ren,g2,ho],g3⟩
      · have h2:(e.ren hideF).own b = some (.hid (.hid p),m):=hid_own ho
        obtain ⟨g1,g2,g3⟩:=hg.stay b hb (.inr ⟨_,_,h2⟩)
        rw [h2] at g2
        exact ⟨g1,by rw [ho]; exact Env.ren_own (f:=showF) g2,g3⟩
    · rw [memWr_app] at hm
      simp only [Bool.or_eq_false_iff] at hm
      exact hm.1
theorem takeArgs_sim (own:List Nat) (tys:List TypeId):∀ (xs:List Operand) (e:Env) (s:RS) (i:Nat),RR n A e s a w → (∀ x ∈ xs,okOp n x) →
    ∃ f,Fix f ∧ (∀ i j,f (.io i j) = .io i j) ∧ RR n A (e.ren f) (takeArgs P own s tys i xs).2 a w ∧ (takeArgs P own s tys i xs).1.length = xs.length ∧
      (∀ j v x,(takeArgs P own s tys i xs).1[j]? = some v → xs[j]? = some x → (VR (e.ren f) (some (.io (i + j) 0)) (some fun k=>.io (i + j) (k + 1)) v (a.eval x) ∧ (own = [] → VR (e.ren f) none none v (a.eval x)))) ∧ (takeArgs P own s tys i xs).2.wr = s.wr ∧ (takeArgs P own s tys i xs).2.lds = s.lds
  | [],e,s,i,h,_=>by
    have he:e.ren id = e:=by
      obtain ⟨rho,own,cl⟩:=e
      simp only [Env.ren,Env.mk.injEq,true_and,and_true]
      funext b
      cases own b <;> rfl
    exact ⟨id,⟨fun _ _=>rfl,fun _=>rfl⟩,fun _ _=>rfl,by rw [he]; exact h,rfl,fun j v x hj=>by simp [takeArgs] at hj,rfl,rfl⟩
  | x :: xs,e,s,i,h,hx=>by
    have hone:∃ f v s1,takeArgs P own s tys i (x :: xs) = (v :: (takeArgs P own s1 tys (i + 1) xs).1,(takeArgs P own s1 tys (i + 1) xs).2) ∧ Fix f ∧ (∀ i j,f (.io i j) = .io i j) ∧ RR n A (e.ren f) s1 a w ∧ VR (e.ren f) (some (.io i 0)) (some fun k=>.io i (k + 1)) v (a.eval x) ∧ (own = [] → VR (e.ren f) none none v (a.eval x)) ∧ s1.wr = s.wr ∧ s1.lds = s.lds:=by
      cases hm:memN i own with
      | true =>
        obtain ⟨f,hf,hio,h1,h2,h3,h4⟩:=tk_sim (P:=P) h i (match nth tys i with | some t=>t | none=>0) (x:=x) (hx x (by simp))
        refine ⟨f,_,_,by simp only [takeArgs,hm,cond_true]; rfl,hf,hio,h1,h2,?_,h3,h4⟩
        intro ho; subst ho; simp [memN] at hm
      | false =>
        have he:e.ren id = e:=by
          obtain ⟨rho,own,cl⟩:=e
          simp only [Env.ren,Env.mk.injEq,true_and,and_true]
          funext b
          cases own b <;> rfl
        have hv:=ev_strip (P:=P) h (match nth tys i with | some t=>t | none=>0) (x:=x) (hx x (by simp))
        refine ⟨id,_,s,by simp only [takeArgs,hm,cond_false]; rfl,⟨fun _ _=>rfl,fun _=>rfl⟩,fun _ _=>rfl,by rw [he]; exact h,by rw [he]; exact hv.weak,fun _=>by rw [he]; exact hv,rfl,rfl⟩
    obtain ⟨f,v,s1,heq,hf,hio,h1,h2,h2',h3,h4⟩:=hone
    obtain ⟨g,gf,gio,g1,g2,g3,g4,g5⟩:=takeArgs_sim own tys xs (e.ren f) s1 (i + 1) h1 (fun y hy=>hx y (by simp [hy]))
    rw [heq]
    refine ⟨g ∘ f,⟨fun l i=>by simp [hf.ob,gf.ob],fun p=>by simp [hf.hid,gf.hid]⟩,fun i j=>by simp [hio,gio],?_,?_,?_,?_,?_⟩
    · rw [← Env.ren_ren]; exact g1
    · simp only [List.length_cons]; rw [g2]
    · intro j v' y hv hy
      rw [← Env.ren_ren]
      cases j with
      | zero =>
        simp only [List.getElem?_cons_zero,Option.some.injEq] at hv hy
        subst hv; subst hy
        refine ⟨VR.ren (fun z hz=>?_) (fun k hk=>?_) h2,fun ho=>VR.ren0 (h2' ho)⟩
        · cases hz; simp [gio]
        · cases hk; exact ⟨_,rfl,fun j=>by simp [gio]⟩
      | succ j =>
        simp only [List.getElem?_cons_succ] at hv hy
        have:=g3 j v' y hv hy
        rwa [show i + (j + 1) = i + 1 + j by omega]
    · simp only; rw [g4,h3]
    · simp only; rw [g5,h4]
theorem callee_sim (h:RR n A e s a w) {f:Operand} {g:Nat} {first cap:List AV} (hf:okOp n f) (hc:calleeOf s f = some (g,first,cap)) :
    ∃ va vc,a.eval f = .func (.func g) va vc ∧ VRs e none 0 first va.toList ∧ VRs e none 0 cap vc.toList:=by
  cases f with
  | func g'=>simp only [calleeOf,Option.some.injEq,Prod.mk.injEq] at hc; obtain ⟨rfl,rfl,rfl⟩:=hc; exact ⟨#[],#[],rfl,by simp [VRs],by simp [VRs]⟩
  | tmp t =>
    simp only [calleeOf] at hc
    split at hc
    · rename_i g' a' c' ht
      simp only [Option.some.injEq,Prod.mk.injEq] at hc
      obtain ⟨rfl,rfl,rfl⟩:=hc
      have:=h.fr.val t hf
      rw [ht] at this
      simp only [VR] at this
      exact this
    · cases hc
  | const v=>simp [calleeOf] at hc
  | global x=>simp [calleeOf] at hc
theorem call_after (hcf:CfOK P A cf) (h:RR n A e s a w) {c:Call} {f:Operand} {g:Nat} {first cap vs:List AV} {s1:RS} {res:Res} (ho:o.op = .call c) (hc:c.callee = .value f) (hf:okOp n f) (hargs:∀ x ∈ c.args.toList,okOp n x) (hcal:calleeOf s f = some (g,first,cap))
    (htk:takeArgs P (bif Nat.beq (lenN first) 0 then cfg.ownArgs g else []) s c.argTypes.toList 0 c.args.toList = (vs,s1)) (hres:cf g (app first (app vs cap)) s1.H some = some res) :
    After P n A o e a w { s1 with H:=res.2.2,wr:=app res.2.1 s1.wr,als:=killWr res.2.1 s1.als } (bif cfg.ownRes g then res.1 else strip res.1) none:=by
  obtain ⟨va,vc,hev,hva,hvc⟩:=callee_sim h hf hcal
  obtain ⟨φ,hφ,hio,h1,h2,h3,h4,h5⟩:=takeArgs_sim (P:=P) (bif Nat.beq (lenN first) 0 then cfg.ownArgs g else []) c.argTypes.toList c.args.toList e s 0 h hargs
  rw [htk] at h1 h2 h3 h4 h5
  simp only at h1 h2 h3 h4 h5
  have hwok:WOK ((e.ren φ).ren hideF) w:=h1.wok.ren
  have hhr:HR A ((e.ren φ).ren hideF) s1.H w:=h1.hr.ren' (fun _ _=>rfl) (fun _ _ _=>rfl)
  have hnone:∀ {x:AV} {v:Value},VR e none none x v → VR ((e.ren φ).ren hideF) none none x v:=fun hv=>VR.ren0 (VR.ren0 hv)
  have hAR:ArgsR ((e.ren φ).ren hideF) (app first (app vs cap)) (va ++ (c.args.map a.eval) ++ vc).toList:=by
    simp only [app_eq,Array.toList_append,Array.toList_map,← List.append_assoc]
    have l1:first.length = va.size:=by simpa using hva.len
    have l2:cap.length = vc.size:=by simpa using hvc.len
    have h2:vs.length = c.args.size:=by simpa using h2
    refine ⟨by simp [l1,l2,h2],fun i x v hx hv=>?_⟩
    rcases get_append hx with hx | ⟨hi,hx⟩
    · rcases get_append hx with hx | ⟨hi,hx⟩
      · have hlt:i < first.length:=(List.getElem?_eq_some_iff.1 hx).1
        rw [List.getElem?_append_left (by simp; omega),List.getElem?_append_left (by simp; omega)] at hv
        obtain ⟨u,k1,k2⟩:=hva.get i x hx
        rw [hv] at k1; cases k1
        exact (hnone (by simpa using k2)).weak
      · have hlt:i - first.length < vs.length:=(List.getElem?_eq_some_iff.1 hx).1
        rw [List.getElem?_append_left (by simp; omega),List.getElem?_append_right (by simp; omega),List.getElem?_map] at hv
        simp only [Array.length_toList] at hv
        rw [← l1] at hv
        cases hy:c.args.toList[i - first.length]? with
        | none=>rw [hy] at hv; cases hv
        | some y =>
          rw [hy] at hv
          simp only [Option.map_some,Option.some.injEq] at hv
          subst hv
          obtain ⟨k1,k2⟩:=h3 _ x y hx hy
          rcases Nat.eq_zero_or_pos first.length with h0 | h0
          · rw [h0] at k1
            simp only [Nat.zero_add,Nat.sub_zero] at k1
            exact VR.ren (by simp [hideF]) (by simp [hideF]) k1
          · have hb:Nat.beq (lenN first) 0 = false:=by rw [lenN_eq]; exact beq_false.2 (by omega)
            rw [hb] at k2
            exact (VR.ren0 (k2 rfl)).weak
    · have hlt:i - (first ++ vs).length < cap.length:=(List.getElem?_eq_some_iff.1 hx).1
      simp only [List.length_append] at hi hx hlt
      rw [List.getElem?_append_right (by simp; omega)] at hv
      simp only [List.length_append,List.length_map,Array.length_toList] at hv
      rw [← l1,← h2] at hv
      obtain ⟨u,k1,k2⟩:=hvc.get _ x hx
      rw [hv] at k1; cases k1
      exact (hnone (by simpa using k2)).weak
  intro next Q hk
  unfold Oper.wp
  have hrun:(execOp a.eval o).run P w = (callFunc g (va ++ (c.args.map a.eval) ++ vc)).run P w:=by
    unfold execOp; rw [ho]
    simp only [resolve,hc,hev,Deferred.ofValue,Sem.run_bind,Sem.run_pure,Result.andThen_ok,invoke]
  rw [hrun]
  refine hcf.sim g _ s1.H res hres _ _ w hwok hhr hAR o a next Q fun v w' hE=>?_
  obtain ⟨e3,k1,k2,k3,k4,k5⟩:=hE
  obtain ⟨m1,m2,m3,m4⟩:=h1.called k1 k2 k3 k4 k5
  refine hk (e3.ren showF) w' v m1 ?_ (by simp) ?_ ?_
  · cases cfg.ownRes g with
    | true=>exact m2
    | false=>exact VR.strip _ _ _ _ _ _ m2
  · exact (Grow.ren hφ.hid e w _).trans m3 (fun _ _ _ h=>h) (fun _ _ h=>h)
  · exact m4
end Go.Vm
namespace Go.Vm
variable {P:Program} {n:Nat} {A:AbsR} {e:Env} {s:RS} {a:Act} {w:World} {o:Oper} {cf:CallK} {cfg:Cfg}
theorem run1_after {dr:Bool} (hcf:CfOK P A cf) (h:RR n A e s a w) (hb:opB n o.op = true) {s':RS} {v:AV} {l:Option Src} (hr:run1 cf cfg dr (plan P cfg dr o s) = some (s',v,l)):After P n A o e a w s' v l:=by
  have hp:=plan_ok (cfg:=cfg) (dr:=dr) (P:=P) h hb
  cases hpl:plan P cfg dr o s with
  | no=>rw [hpl] at hr; cases hr
  | yes c s1 v1 l1 =>
    rw [hpl] at hr hp
    simp only [run1] at hr
    obtain ⟨hc,hr⟩:=cond_none hr
    simp only [Option.some.injEq,Prod.mk.injEq] at hr
    obtain ⟨rfl,rfl,rfl⟩:=hr
    exact (hp hc).after
  | two c s1 va vb =>
    rw [hpl] at hr hp
    simp only [run1,Option.some.injEq,Prod.mk.injEq] at hr
    obtain ⟨rfl,rfl,rfl⟩:=hr
    have:(bif c then va else vb) = if c = true then va else vb:=by cases c <;> rfl
    rw [this]
    exact Done.after hp
  | elt T ot s1 f =>
    rw [hpl] at hr hp
    simp only [run1] at hr
    cases ot with
    | none=>cases hr
    | some x =>
      simp only [Option.some.injEq,Prod.mk.injEq] at hr
      obtain ⟨rfl,rfl,rfl⟩:=hr
      exact (hp x rfl).after
  | sel m s1 vs =>
    rw [hpl] at hr hp
    simp only [run1] at hr
    cases hv:at? vs m with
    | none=>rw [hv] at hr; cases hr
    | some x =>
      rw [hv] at hr
      simp only [Option.some.injEq,Prod.mk.injEq] at hr
      obtain ⟨rfl,rfl,rfl⟩:=hr
      exact (hp x hv).after
  | call g args s1 =>
    rw [hpl] at hr hp
    simp only [run1] at hr
    obtain ⟨c,f,first,cap,vs,h1,h2,h3,h4,rfl⟩:=hp
    cases hres:cf g (app first (app vs cap)) s1.H some with
    | none=>rw [hres] at hr; cases hr
    | some res =>
      obtain ⟨v0,w0,H0⟩:=res
      rw [hres] at hr
      simp only at hr
      cases hm:barred cfg.nl dr w0 H0 s1 with
      | true=>rw [hm] at hr; cases hr
      | false =>
        rw [hm] at hr
        simp only [cond_false,Option.some.injEq,Prod.mk.injEq] at hr
        obtain ⟨rfl,rfl,rfl⟩:=hr
        rw [h1] at hb
        simp only [opB,Bool.and_eq_true] at hb
        have hf:okOp n f:=by
          have:=hb.2
          rw [h2] at this
          exact opdB_ok this
        exact call_after hcf h h1 h2 hf (opdsB_ok hb.1) h3 h4 hres
def wantedV (ops:List Oper) (s:RS):Option (Nat × Bool) → Option Bool
  | none=>some true
  | some (j,want)=>match nth ops j with
    | some o=>match o.dst with
      | some d=>match s.fr d with
        | .bool b=>some (b == want)
        | .tuple []=>some false
        | _=>none
      | none=>none
    | none=>none
def step1 (P:Program) (cf:CallK) (cfg:Cfg) (dr:Bool) (ops:List Oper) (o:Oper) (s:RS):Option RS :=
  match wantedV ops s o.guard with
  | some true=>match run1 cf cfg dr (plan P cfg dr o s) with
    | some (s1,v,l)=>some (put o s1 v l)
    | none=>none
  | some false=>some (put o s (.tuple []) none)
  | none=>none
def steps (P:Program) (cf:CallK) (cfg:Cfg) (dr:Bool) (ops:List Oper):List Nat → RS → Option RS
  | [],s=>some s
  | i :: r,s=>match ops[i]? with
    | none=>steps P cf cfg dr ops r s
    | some o=>match step1 P cf cfg dr ops o s with
      | some s1=>steps P cf cfg dr ops r s1
      | none=>none
def dstB (n:Nat):Option Nat → Bool
  | some d=>Nat.blt d n
  | none=>true
def opsB (n:Nat):List Oper → Bool
  | []=>true
  | o :: r=>opB n o.op && dstB n o.dst && opsB n r
theorem opsB_get:∀ {ops:List Oper},opsB n ops = true → ∀ {i:Nat} {o:Oper},ops[i]? = some o → opB n o.op = true ∧ ∀ d,o.dst = some d → d < n
  | [],_,i,o,h=>by simp at h
  | x :: r,hb,i,o,h=>by
    simp only [opsB,Bool.and_eq_true] at hb
    cases i with
    | zero =>
      simp at h; subst h
      refine ⟨hb.1.1,fun d hd=>?_⟩
      have:=hb.1.2
      rw [hd] at this
      exact (blt_iff _ _).1 this
    | succ i=>exact opsB_get hb.2 (by simpa using h)
theorem wanted_sim {ops:Array Oper} (h:RR n A e s a w) (hb:opsB n ops.toList = true) {b:Bool} (hw:wantedV ops.toList s o.guard = some b):Region.wanted o (yielded ops a.tmps) = b:=by
  unfold Region.wanted
  cases hg:o.guard with
  | none=>rw [hg] at hw; simp only [wantedV,Option.some.injEq] at hw; subst hw; rfl
  | some jw =>
    obtain ⟨j,want⟩:=jw
    rw [hg] at hw
    simp only [wantedV] at hw
    cases ho':nth ops.toList j with
    | none=>rw [ho'] at hw; cases hw
    | some o' =>
      rw [ho'] at hw
      simp only at hw
      rw [nth_eq] at ho'
      cases hd:o'.dst with
      | none=>rw [hd] at hw; cases hw
      | some d =>
        rw [hd] at hw
        simp only at hw
        have hdn:=(opsB_get hb ho').2 d hd
        have hv:=h.fr.val d hdn
        have hget:a.tmps[d]? = some (Act.at a d):=by
          have hlt:d < a.tmps.size:=by rw [h.fr.size]; exact hdn
          unfold Act.at
          rw [Array.getD_eq_getD_getElem?,Array.getElem?_eq_getElem hlt]
          rfl
        have hops:ops[j]? = some o':=by simpa using ho'
        have hy:yielded ops a.tmps j = match some (Act.at a d) with | some (.bool b)=>some b | _=>none:=by
          unfold yielded
          rw [hops]
          simp only [Option.bind_some,hd,hget]
          rfl
        split at hw
        · rename_i b' hb'
          rw [hb'] at hv
          simp only [VR] at hv
          rw [hv] at hy
          simp only [Option.some.injEq] at hw
          show (yielded ops a.tmps j == some want) = b
          rw [hy,← hw]
          rfl
        · rename_i hb'
          rw [hb'] at hv
          simp only [VR] at hv
          obtain ⟨vs,h1,_⟩:=hv
          rw [h1] at hy
          simp only [Option.some.injEq] at hw
          show (yielded ops a.tmps j == some want) = b
          rw [hy,← hw]
          rfl
        · cases hw
structure Keep (K:Nat → Prop) (a a':Act):Prop where
  defers:a'.defers = a.defers
  slot:∀ t,K t → Act.at a' t = Act.at a t
theorem Keep.refl (K:Nat → Prop) (a:Act):Keep K a a:=⟨rfl,fun _ _=>rfl⟩
theorem Keep.trans {K:Nat → Prop} {a a1 a2:Act} (h:Keep K a1 a2) (k:Keep K a a1):Keep K a a2:=⟨h.defers.trans k.defers,fun t ht=>(h.slot t ht).trans (k.slot t ht)⟩
theorem Keep.put {K:Nat → Prop} (a:Act) {d:Option Nat} (v:Value) (h:∀ t,d = some t → ¬ K t):Keep K a (a.put d v):=by
  cases d with
  | none=>exact ⟨rfl,fun _ _=>rfl⟩
  | some d =>
    refine ⟨rfl,fun t ht=>?_⟩
    have hne:t ≠ d:=fun e=>h d rfl (e ▸ ht)
    simp only [Act.at,Act.put,Array.getD_eq_getD_getElem?,Array.getElem?_setIfInBounds]
    rw [if_neg (Ne.symm hne)]
def Post (K:Nat → Prop) (n:Nat) (A:AbsR) (e:Env) (a:Act) (w:World) (s':RS) (a':Act) (w':World):Prop :=
  ∃ e',RR n A e' s' a' w' ∧ Grow e w e' w' s'.wr ∧ RhoLe e e' ∧ Keep K a a'
theorem put_wr (o:Oper) (s:RS) (v:AV) (l:Option Src):(put o s v l).wr = s.wr:=by
  unfold put; cases o.dst <;> rfl
theorem RR.putOp {v:AV} {u:Value} {l:Option Src} (h:RR n A e s a w) (hd:∀ d,o.dst = some d → d < n) (hv:VR e (some (.io 0 0)) (some fun j=>.io 0 (j + 1)) v u) (hl:∀ src,l = some src → AlV n e w a u src) :
    ∃ e',RR n A e' (Vm.put o s v l) (a.put o.dst u) w ∧ Grow e w e' w s.wr ∧ RhoLe e e':=by
  unfold Vm.put
  cases hdst:o.dst with
  | none=>exact ⟨e,h,Grow.refl _ _ _,fun _ _ _ h=>h⟩
  | some d=>exact ⟨e.ren (outF d),h.put (hd d hdst) hv hl,Grow.ren (outF_fix d).hid _ _ _,fun _ _ _ h=>h⟩
theorem tk_wr (s:RS) (t:TypeId) (x:Operand):(tk P s t x).2.wr = s.wr:=by
  cases x <;> first | rfl | exact (RS.take_wr s _).1
theorem takeAll_wr:∀ (xs:List Operand) (s:RS) (ty:Nat → TypeId) (i:Nat),(takeAll P s ty i xs).2.wr = s.wr
  | [],s,ty,i=>rfl
  | x :: xs,s,ty,i=>by simp only [takeAll]; rw [takeAll_wr xs,tk_wr]
theorem takeArgs_wr (own:List Nat) (tys:List TypeId):∀ (xs:List Operand) (s:RS) (i:Nat),(takeArgs P own s tys i xs).2.wr = s.wr
  | [],s,i=>rfl
  | x :: xs,s,i=>by
    simp only [takeArgs]
    rw [takeArgs_wr own tys xs]
    cases memN i own
    · rfl
    · exact tk_wr _ _ _
def WrLe (s s':RS):Prop:=∀ l i,memWr l i s'.wr = false → memWr l i s.wr = false
theorem WrLe.of_eq {s s':RS} (h:s'.wr = s.wr):WrLe s s':=fun l i hx=>by rw [← h]; exact hx
theorem WrLe.trans {s s1 s2:RS} (h:WrLe s s1) (k:WrLe s1 s2):WrLe s s2:=fun l i hx=>h l i (k l i hx)
def PlanWr (s:RS):Plan → Prop
  | .no=>True
  | .yes _ s' _ _ | .two _ s' _ _ | .elt _ _ s' _ | .sel _ s' _ | .call _ _ s'=>WrLe s s'
theorem PlanWr.bif {b:Bool} {x:Plan} (h:PlanWr s x):PlanWr s (bif b then x else .no):=by
  cases b
  · trivial
  · exact h
theorem tk_le {t:TypeId} {x:Operand} {v:AV} {s1:RS} (h:tk P s t x = (v,s1)):s1.wr = s.wr:=by
  have:=tk_wr (P:=P) s t x; rw [h] at this; exact this
theorem intop_wr (op:BinOp) (k:IntKind) (x y:Int):PlanWr s (intop op k x y s):=by
  cases op <;> first | trivial | exact WrLe.of_eq rfl
theorem binop_wr (op:BinOp) (t:TypeId) (x y:AV):PlanWr s (binop P op t x y s):=by
  unfold binop nilEq nilEqS
  repeat' split
  all_goals first | trivial | exact WrLe.of_eq rfl | exact PlanWr.bif (WrLe.of_eq rfl) | exact PlanWr.bif trivial | exact intop_wr _ _ _ _
theorem plan_wr (dr:Bool) (o:Oper) (s:RS):PlanWr s (plan P cfg dr o s):=by
  unfold plan
  split
  · exact WrLe.of_eq rfl
  · split; rename_i htk; exact WrLe.of_eq (tk_le htk)
  · split <;> first | trivial | exact WrLe.of_eq rfl
  · split <;> first | trivial | exact WrLe.of_eq rfl | exact PlanWr.bif (WrLe.of_eq rfl)
  · split; rename_i htk
    have hw:=tk_le htk
    split <;> first | trivial | exact WrLe.of_eq hw | exact PlanWr.bif (WrLe.of_eq hw)
  · cases dr
    · simp only [cond_false]
      unfold buildA
      split
      · split
        rename_i htk
        have hw:=congrArg (fun x=>x.2.wr) htk
        simp only [takeAll_wr] at hw
        have hw:=hw.symm
        repeat' split
        all_goals first | trivial | exact PlanWr.bif (WrLe.of_eq hw)
      · trivial
    · simp only [cond_true]
      unfold buildD
      repeat' split
      all_goals first | trivial | exact PlanWr.bif (WrLe.of_eq rfl)
  · have hA:∀ d t len ps,PlanWr s (buildSliceA P d t len ps s):=by
      intro d t len ps
      unfold buildSliceA
      split
      · split
        · refine PlanWr.bif ?_
          repeat' split
          all_goals first | trivial | exact WrLe.of_eq rfl
        · trivial
      · trivial
    cases dr with
    | true =>
      simp only
      cases isRowT P _ with
      | false=>exact hA _ _ _ _
      | true =>
        simp only [cond_true]
        unfold buildRowD
        repeat' split
        all_goals first | trivial | exact WrLe.of_eq rfl
    | false =>
      simp only
      cases isRowT P _ with
      | false=>exact hA _ _ _ _
      | true =>
        simp only [cond_true]
        unfold buildRowA
        repeat' split
        all_goals first | trivial | exact WrLe.of_eq rfl
  · rename_i t a ho
    have hA:∀ d:Bool,PlanWr s (bif okT P t then loadA P d t a s else .no):=by
      intro d
      refine PlanWr.bif ?_
      unfold loadA
      split
      · split
        · split
          · cases d
            · exact WrLe.of_eq rfl
            · simp only [Bool.true_and]
              generalize memWr _ _ s.wr = q
              cases q
              · exact WrLe.of_eq rfl
              · trivial
          · trivial
        · trivial
      · split <;> first | trivial | exact WrLe.of_eq rfl
      · trivial
    cases dr with
    | true=>exact hA true
    | false =>
      simp only [cond_false]
      split
      · unfold loadI
        repeat' split
        all_goals first | trivial | exact WrLe.of_eq rfl
      · exact hA false
  · refine PlanWr.bif ?_
    unfold storeA
    repeat' split
    all_goals first | trivial | skip
    rename_i htk _ _ _
    refine PlanWr.bif fun x i hx=>?_
    simp only [memWr,Bool.or_eq_false_iff] at hx
    rw [tk_le htk] at hx
    exact hx.2
  · split <;> first | trivial | exact WrLe.of_eq rfl
  · split <;> exact binop_wr _ _ _ _
  · split <;> first | trivial | exact WrLe.of_eq rfl
  · unfold convertA
    repeat' split
    all_goals first | trivial | exact WrLe.of_eq rfl | skip
    exact WrLe.of_eq (tk_wr _ _ _)
  · split <;> first | trivial | exact WrLe.of_eq rfl
  · unfold makeSliceA
    repeat' split
    all_goals first | trivial | exact WrLe.of_eq rfl
  · unfold sliceA
    repeat' split
    all_goals first | trivial | exact WrLe.of_eq rfl
  · split <;> first | trivial | exact WrLe.of_eq rfl | exact PlanWr.bif (WrLe.of_eq rfl)
  · split <;> first | trivial | exact WrLe.of_eq rfl | exact PlanWr.bif (WrLe.of_eq rfl) | (split <;> first | trivial | exact WrLe.of_eq rfl)
  · have hA:∀ t x i,PlanWr s (indexAddrA P t x i s):=by
      intro t x i
      unfold indexAddrA
      repeat' split
      all_goals first | trivial | exact WrLe.of_eq rfl | exact PlanWr.bif (WrLe.of_eq rfl)
    cases dr with
    | true=>exact hA _ _ _
    | false =>
      simp only
      cases isRowT P _ with
      | false=>exact hA _ _ _
      | true =>
        simp only [cond_true]
        unfold rowIdxA
        repeat' split
        all_goals first | exact hA _ _ _ | trivial | exact WrLe.of_eq rfl
  · unfold indexA
    repeat' split
    all_goals first | trivial | exact WrLe.of_eq rfl
  · unfold extractA
    repeat' split
    all_goals first | trivial | exact WrLe.of_eq rfl
  · have hA:∀ c,PlanWr s (callA P cfg c s):=by
      intro c
      unfold callA
      split
      · repeat' split
        all_goals first | trivial | (unfold mapLenA; repeat' split) | (unfold lenA; repeat' split)
        all_goals first | trivial | exact WrLe.of_eq rfl
      · repeat' split
        all_goals first | trivial | (unfold minMaxA; repeat' split)
        all_goals first | trivial | exact WrLe.of_eq rfl
      · repeat' split
        all_goals first | trivial | (unfold minMaxA; repeat' split)
        all_goals first | trivial | exact WrLe.of_eq rfl
      · split
        · unfold appendA
          repeat' split
          all_goals first | trivial | exact WrLe.of_eq (tk_wr _ _ _)
        · trivial
      · split
        · split
          rename_i htk
          have hw:=congrArg (fun x=>x.2.wr) htk
          simp only [takeArgs_wr] at hw
          exact WrLe.of_eq hw.symm
        · trivial
      · trivial
    cases dr with
    | true=>exact hA _
    | false =>
      simp only
      split
      · unfold rowLenA
        repeat' split
        all_goals first | trivial | exact WrLe.of_eq rfl
      · split
        · unfold clearA
          split
          · refine PlanWr.bif fun x i hx=>?_
            simp only [memWr,Bool.or_eq_false_iff] at hx
            exact hx.2
          · trivial
        · exact hA _
  · repeat' split
    all_goals first | trivial | (unfold makeMapA; split <;> first | trivial | exact WrLe.of_eq rfl)
  · repeat' split
    all_goals first | trivial | (unfold lookupA; split <;> first | trivial | exact PlanWr.bif (WrLe.of_eq rfl))
  · repeat' split
    all_goals first | trivial | (unfold mapUpdA; split <;> first | trivial | skip)
    refine PlanWr.bif fun x i hx=>?_
    simp only [memWr,Bool.or_eq_false_iff] at hx
    exact hx.2
  · trivial
theorem run1_wr {dr:Bool} {pl:Plan} {s':RS} {v:AV} {l:Option Src} (hp:PlanWr s pl) (h:run1 cf cfg dr pl = some (s',v,l)):WrLe s s':=by
  cases pl with
  | no=>cases h
  | yes c s1 v1 l1 =>
    simp only [run1] at h
    obtain ⟨_,h⟩:=cond_none h
    cases h; exact hp
  | two c s1 va vb=>cases h; exact hp
  | elt T ot s1 f =>
    simp only [run1] at h
    cases ot with
    | none=>cases h
    | some x=>cases h; exact hp
  | sel m s1 vs =>
    simp only [run1] at h
    cases hv:at? vs m with
    | none=>rw [hv] at h; cases h
    | some x=>rw [hv] at h; cases h; exact hp
  | call g args s1 =>
    simp only [run1] at h
    cases hres:cf g args s1.H some with
    | none=>rw [hres] at h; cases h
    | some res =>
      obtain ⟨v0,w0,H0⟩:=res
      rw [hres] at h
      simp only at h
      cases hm:barred cfg.nl dr w0 H0 s1 with
      | true=>rw [hm] at h; cases h
      | false =>
        rw [hm] at h
        cases h
        exact hp.trans fun x i hx=>by
          simp only [memWr_app,Bool.or_eq_false_iff] at hx
          exact hx.2
theorem step1_wr {dr:Bool} {ops:List Oper} {o:Oper} {s s':RS} (h:step1 P cf cfg dr ops o s = some s'):WrLe s s':=by
  unfold step1 at h
  split at h
  · split at h
    · rename_i s1 v l hr
      cases h
      exact (run1_wr (plan_wr dr o s) hr).trans (WrLe.of_eq (put_wr _ _ _ _))
    · cases h
  · cases h; exact WrLe.of_eq (put_wr _ _ _ _)
  · cases h
theorem steps_wr {dr:Bool} {ops:List Oper}:∀ (l:List Nat) (s s':RS),steps P cf cfg dr ops l s = some s' → WrLe s s'
  | [],s,s',h=>by simp only [steps,Option.some.injEq] at h; subst h; exact WrLe.of_eq rfl
  | j :: r,s,s',h=>by
    simp only [steps] at h
    cases ho:ops[j]? with
    | none=>rw [ho] at h; exact steps_wr r s s' h
    | some o =>
      rw [ho] at h
      simp only at h
      cases h1:step1 P cf cfg dr ops o s with
      | none=>rw [h1] at h; cases h
      | some s1=>rw [h1] at h; exact (step1_wr h1).trans (steps_wr r s1 s' h)
theorem steps_sim {K:Nat → Prop} {dr:Bool} {ops:Array Oper} (hcf:CfOK P A cf) (hb:opsB n ops.toList = true) (hK:∀ o ∈ ops.toList,∀ d,o.dst = some d → ¬ K d):∀ (l:List Nat) (e:Env) (s:RS) (a:Act) (w:World) (s':RS),RR n A e s a w → steps P cf cfg dr ops.toList l s = some s' →
    ∀ Q:Exit → Act → World → Prop,(∀ a' w',Post K n A e a w s' a' w' → Q .normal a' w') → wpOps P ops Q l a w
  | [],e,s,a,w,s',h,hs,Q,hQ=>by
    simp only [steps,Option.some.injEq] at hs
    subst hs
    exact hQ a w ⟨e,h,Grow.refl _ _ _,fun _ _ _ h=>h,Keep.refl _ _⟩
  | i :: r,e,s,a,w,s',h,hs,Q,hQ=>by
    simp only [steps] at hs
    simp only [wpOps]
    have hget:ops[i]? = ops.toList[i]?:=by simp
    rw [hget]
    cases ho:ops.toList[i]? with
    | none=>rw [ho] at hs; exact steps_sim hcf hb hK r e s a w s' h hs Q hQ
    | some o =>
      rw [ho] at hs
      simp only at hs ⊢
      cases h1:step1 P cf cfg dr ops.toList o s with
      | none=>rw [h1] at hs; cases hs
      | some s1 =>
        rw [h1] at hs
        simp only at hs
        have hob:=opsB_get hb ho
        have hwr:=steps_wr r s1 s' hs
        unfold step1 at h1
        split at h1
        · rename_i hw
          rw [if_pos (wanted_sim h hb hw)]
          left
          split at h1
          · rename_i s2 v l hr
            cases h1
            refine run1_after hcf h hob.1 hr _ Q fun e' w' u g1 g2 g3 g4 g5=>?_
            obtain ⟨e2,k1,k2,k3⟩:=g1.putOp (o:=o) hob.2 g2 g3
            refine steps_sim hcf hb hK r e2 _ _ w' s' k1 hs Q fun a' w'' hP=>hQ a' w'' ?_
            obtain ⟨e3,m1,m2,m3,m4⟩:=hP
            have hw2:WrLe s2 s':=fun x i hx=>by have:=hwr x i hx; rwa [put_wr] at this
            exact ⟨e3,m1,((g4.trans k2 g5 (fun _ _ h=>h)).trans m2 (fun x i b hb=>k3 _ _ _ (g5 _ _ _ hb)) hw2),fun x i b hb=>m3 _ _ _ (k3 _ _ _ (g5 _ _ _ hb)),m4.trans (Keep.put _ _ (hK _ (List.mem_of_getElem? ho)))⟩
          · cases h1
        · rename_i hw
          rw [if_neg (by rw [wanted_sim h hb hw]; simp)]
          cases h1
          obtain ⟨e2,k1,k2,k3⟩:=h.putOp (o:=o) (v:=.tuple []) (u:=undef) (l:=none) hob.2 (by simp only [VR]; exact ⟨#[],rfl,by simp [VRs]⟩) (by simp)
          refine steps_sim hcf hb hK r e2 _ _ w s' k1 hs Q fun a' w'' hP=>hQ a' w'' ?_
          obtain ⟨e3,m1,m2,m3,m4⟩:=hP
          have hw2:WrLe s s':=fun x i hx=>by have:=hwr x i hx; rwa [put_wr] at this
          exact ⟨e3,m1,k2.trans m2 k3 hw2,fun x i b hb=>m3 _ _ _ (k3 _ _ _ hb),m4.trans (Keep.put _ _ (hK _ (List.mem_of_getElem? ho)))⟩
        · cases h1
end Go.Vm
namespace Go.Vm
variable {K:Nat → Prop} {P:Program} {n:Nat} {A:AbsR} {e:Env} {s:RS} {a:Act} {w:World} {o:Oper} {cf:CallK} {cfg:Cfg}
theorem upd_rs {s:RS} {d:Nat} {v:AV} (h:s.fr d = v):{ s with fr:=upd s.fr d v } = s:=by
  subst h; rw [upd_self]
theorem guarded_wanted {ops:List Oper} {g:Option (Nat × Bool)} {yes no:RS → Option Res} {r:Res} (h:guarded ops g s yes no = some r) :
    (wantedV ops s g = some true ∧ yes s = some r) ∨ (wantedV ops s g = some false ∧ no s = some r):=by
  unfold guarded at h
  cases g with
  | none=>exact .inl ⟨rfl,h⟩
  | some jw =>
    obtain ⟨j,want⟩:=jw
    simp only [wantedV] at h ⊢
    cases ho:nth ops j with
    | none=>rw [ho] at h; cases h
    | some o =>
      rw [ho] at h
      simp only at h ⊢
      cases hd:o.dst with
      | none=>rw [hd] at h; cases h
      | some d =>
        rw [hd] at h
        simp only at h ⊢
        cases hv:s.fr d with
        | bool b =>
          rw [hv] at h
          simp only at h ⊢
          cases want with
          | true =>
            cases b with
            | true=>simp only [cond_true] at h; rw [upd_rs hv] at h; exact .inl ⟨rfl,h⟩
            | false=>simp only [cond_false] at h; rw [upd_rs hv] at h; exact .inr ⟨rfl,h⟩
          | false =>
            cases b with
            | true=>simp only [cond_true] at h; rw [upd_rs hv] at h; exact .inr ⟨rfl,h⟩
            | false=>simp only [cond_false] at h; rw [upd_rs hv] at h; exact .inl ⟨rfl,h⟩
        | tuple vs =>
          rw [hv] at h
          cases vs with
          | nil=>exact .inr ⟨rfl,h⟩
          | cons _ _=>cases h
        | _=>rw [hv] at h; cases h
theorem run_run1 (hcf:CfOK P A cf) {dr:Bool} {pl:Plan} {k:RS → AV → Option Src → Option Res} {r:Res} (h:run cf cfg dr pl k = some r):∃ s1 v l,run1 cf cfg dr pl = some (s1,v,l) ∧ k s1 v l = some r:=by
  cases pl with
  | no=>cases h
  | yes c s v l =>
    simp only [run] at h
    obtain ⟨hc,h⟩:=cond_none h
    exact ⟨s,v,l,by simp [run1,hc],h⟩
  | two c s va vb =>
    simp only [run] at h
    rcases cond_some h with ⟨rfl,h⟩ | ⟨rfl,h⟩
    · exact ⟨_,_,_,rfl,h⟩
    · exact ⟨_,_,_,rfl,h⟩
  | elt T ot s f =>
    simp only [run] at h
    cases ot with
    | none=>cases h
    | some x=>exact ⟨_,_,_,rfl,h⟩
  | sel m s vs =>
    simp only [run] at h
    rw [selR_at] at h
    cases hv:at? vs m with
    | none=>rw [hv] at h; cases h
    | some x=>rw [hv] at h; exact ⟨_,_,_,by simp only [run1,hv],h⟩
  | call g args s =>
    simp only [run] at h
    obtain ⟨⟨v,w,H'⟩,h1,h2⟩:=hcf.nat _ _ _ _ _ h
    simp only at h2
    cases hm:barred cfg.nl dr w H' s with
    | true=>rw [hm] at h2; cases h2
    | false =>
      rw [hm] at h2
      exact ⟨_,_,_,by simp only [run1,h1,hm,cond_false],h2⟩
theorem opers_steps (hcf:CfOK P A cf) {dr:Bool} {ops:List Oper} {k:RS → Option Res} {r:Res}:∀ (rest:List Oper) (i:Nat) (s:RS),(∀ j,rest[j]? = ops[i + j]?) → opers P cf cfg dr ops rest s k = some r → ∃ s',steps P cf cfg dr ops (List.range' i rest.length) s = some s' ∧ k s' = some r
  | [],i,s,hr,h=>⟨s,rfl,h⟩
  | o :: rest,i,s,hr,h=>by
    have h0:ops[i]? = some o:=by simpa using (hr 0).symm
    have hr':∀ j,rest[j]? = ops[i + 1 + j]?:=fun j=>by have:=hr (j + 1); simpa [Nat.add_assoc,Nat.add_comm 1 j] using this
    simp only [opers] at h
    simp only [List.length_cons,List.range'_succ,steps,h0]
    rcases guarded_wanted h with ⟨hw,h⟩ | ⟨hw,h⟩
    · obtain ⟨s1,v,l,h1,h2⟩:=run_run1 hcf h
      obtain ⟨s',k1,k2⟩:=opers_steps hcf rest (i + 1) _ hr' h2
      exact ⟨s',by simp only [step1,hw,h1]; exact k1,k2⟩
    · obtain ⟨s',k1,k2⟩:=opers_steps hcf rest (i + 1) _ hr' h
      exact ⟨s',by simp only [step1,hw]; exact k1,k2⟩
def exMatch:Ex → Exit → Prop
  | .normal,.normal=>True
  | .exit i,.exit j=>i = j
  | .ret,.ret=>True
  | _,_=>False
structure CR (n:Nat) (A:AbsR) (e:Env) (fr:Fr) (H:Stack) (a:Act) (w:World):Prop where
  wok:WOK e w
  hr:HR A e H w
  fr:FRel n e fr a
def WLe (wr wr':Wr):Prop:=∀ l i,memWr l i wr' = false → memWr l i wr = false
theorem WLe.refl (wr:Wr):WLe wr wr:=fun _ _ h=>h
theorem WLe.trans {a b c:Wr} (h:WLe a b) (k:WLe b c):WLe a c:=fun l i hx=>h l i (k l i hx)
theorem WLe.right (a b:Wr):WLe b (app a b):=fun l i h=>by rw [memWr_app] at h; simp only [Bool.or_eq_false_iff] at h; exact h.2
theorem WLe.left (a b:Wr):WLe a (app a b):=fun l i h=>by rw [memWr_app] at h; simp only [Bool.or_eq_false_iff] at h; exact h.1
def RhoLe1 (e e':Env):Prop:=∀ l i b,rhoAt e.rho (l + 1) i = some b → rhoAt e'.rho (l + 1) i = some b
theorem RhoLe.one {e e':Env} (h:RhoLe e e'):RhoLe1 e e':=fun l i b hb=>h (l + 1) i b hb
structure Grow1 (e:Env) (w:World) (e':Env) (w':World) (wr:Wr):Prop where
  os:w'.os = w.os
  tape:w'.tape = w.tape
  output:w'.output = w.output
  size:w.heap.size ≤ w'.heap.size
  cl:ClLe e.cl e'.cl
  stay:∀ b,b < w.heap.size → (e.own b = none ∨ ∃ p n,e.own b = some (.hid p,n)) → w'.heap[b]? = w.heap[b]? ∧ e'.own b = e.own b ∧ ∀ o,e'.cl b o = e.cl b o
  obs:∀ l i b,rhoAt e.rho (l + 1) i = some b → memWr (l + 1) i wr = false → w'.heap[b]? = w.heap[b]?
theorem Grow.one {e':Env} {w':World} {wr:Wr} (h:Grow e w e' w' wr):Grow1 e w e' w' wr:=⟨h.os,h.tape,h.output,h.size,h.cl,h.stay,fun l i b hb hm=>h.obs (l + 1) i b hb hm⟩
theorem Grow1.refl (e:Env) (w:World) (wr:Wr):Grow1 e w e w wr:=(Grow.refl e w wr).one
theorem Grow1.trans {e1 e2:Env} {w1 w2:World} {wr wr':Wr} (h:Grow1 e w e1 w1 wr) (k:Grow1 e1 w1 e2 w2 wr') (hr:RhoLe1 e e1) (hw:∀ l i,memWr l i wr' = false → memWr l i wr = false):Grow1 e w e2 w2 wr' where
  os:=k.os.trans h.os
  tape:=k.tape.trans h.tape
  output:=k.output.trans h.output
  size:=Nat.le_trans h.size k.size
  cl:=h.cl.trans k.cl
  stay:=fun b hb ho=>by
    obtain ⟨h1,h2,h3⟩:=h.stay b hb ho
    obtain ⟨k1,k2,k3⟩:=k.stay b (Nat.lt_of_lt_of_le hb h.size) (by rw [h2]; exact ho)
    exact ⟨k1.trans h1,k2.trans h2,fun o=>(k3 o).trans (h3 o)⟩
  obs:=fun l i b hb hm=>(k.obs l i b (hr l i b hb) hm).trans (h.obs l i b hb (hw _ _ hm))
theorem Grow1.weaken {e':Env} {w':World} {wr wr':Wr} (h:Grow1 e w e' w' wr) (hw:∀ l i,memWr l i wr' = false → memWr l i wr = false):Grow1 e w e' w' wr' :=
  ⟨h.os,h.tape,h.output,h.size,h.cl,h.stay,fun l i b hb hm=>h.obs l i b hb (hw _ _ hm)⟩
def markD (D:Nat):Deferred:={ target:=.collected D,args:=#[] }
structure Kept (K:Nat → Prop) (a:Act) (w:World) (e':Env) (a':Act) (w':World):Prop where
  slot:∀ t,K t → Act.at a' t = Act.at a t
  marks:∃ ms:List Nat,a'.defers = ms.map markD ++ a.defers ∧ ms.Nodup ∧ ∀ D ∈ ms,w.heap.size ≤ D ∧ w'.heap[D]? = some (.deferred (some [])) ∧ e'.own D = none
theorem Keep.kept {e':Env} {a':Act} {w':World} (h:Keep K a a'):Kept K a w e' a' w':=⟨h.slot,[],by simpa using h.defers,List.nodup_nil,fun D hD=>by cases hD⟩
theorem Kept.refl (K:Nat → Prop) (a:Act) (w:World) (e:Env) (w':World):Kept K a w e a w':=(Keep.refl K a).kept
theorem Kept.trans {e1 e2:Env} {a1 a2:Act} {w1 w2:World} {wr:Wr} (h:Kept K a1 w1 e2 a2 w2) (k:Kept K a w e1 a1 w1) (hs:w.heap.size ≤ w1.heap.size) (g:Grow1 e1 w1 e2 w2 wr):Kept K a w e2 a2 w2:=by
  obtain ⟨m2,d2,n2,p2⟩:=h.marks
  obtain ⟨m1,d1,n1,p1⟩:=k.marks
  have hlt:∀ D ∈ m1,D < w1.heap.size:=fun D hD=>by
    obtain ⟨_,q,_⟩:=p1 D hD
    exact (Array.getElem?_eq_some_iff.1 q).1
  refine ⟨fun t ht=>(h.slot t ht).trans (k.slot t ht),m2 ++ m1,by rw [d2,d1,List.map_append,List.append_assoc],?_,fun D hD=>?_⟩
  · rw [List.nodup_append]
    refine ⟨n2,n1,fun x hx y hy he=>?_⟩
    subst he
    have:=(p2 x hx).1
    have:=hlt x hy
    omega
  · rcases List.mem_append.1 hD with hD | hD
    · obtain ⟨q1,q2,q3⟩:=p2 D hD
      exact ⟨Nat.le_trans hs q1,q2,q3⟩
    · obtain ⟨q1,q2,q3⟩:=p1 D hD
      obtain ⟨g1,g2,_⟩:=g.stay D (hlt D hD) (.inl q3)
      exact ⟨q1,g1.trans q2,g2.trans q3⟩
theorem Kept.env {e1 e2:Env} {a1:Act} {w1:World} {wr:Wr} (k:Kept K a w e1 a1 w1) (g:Grow1 e1 w1 e2 w1 wr):Kept K a w e2 a1 w1:=by
  obtain ⟨m1,d1,n1,p1⟩:=k.marks
  refine ⟨k.slot,m1,d1,n1,fun D hD=>?_⟩
  obtain ⟨q1,q2,q3⟩:=p1 D hD
  obtain ⟨g1,g2,_⟩:=g.stay D (Array.getElem?_eq_some_iff.1 q2).1 (.inl q3)
  exact ⟨q1,q2,g2.trans q3⟩
def CPost (K:Nat → Prop) (n:Nat) (A:AbsR) (e:Env) (a:Act) (w:World) (ex:Ex) (fr:Fr) (H:Stack) (wr:Wr) (x:Exit) (a':Act) (w':World):Prop :=
  exMatch ex x ∧ ∃ e',CR n A e' fr H a' w' ∧ Grow1 e w e' w' wr ∧ RhoLe1 e e' ∧ Kept K a w e' a' w'
theorem CPost.trans {e1:Env} {a1 a2:Act} {w1 w2:World} {ex:Ex} {fr:Fr} {H:Stack} {wr wr1:Wr} {x:Exit} (hg:Grow1 e w e1 w1 wr1) (hr:RhoLe1 e e1) (hd:Kept K a w e1 a1 w1) (hw:WLe wr1 wr) (h:CPost K n A e1 a1 w1 ex fr H wr x a2 w2):CPost K n A e a w ex fr H wr x a2 w2:=by
  obtain ⟨h1,e2,h2,h3,h4,h5⟩:=h
  exact ⟨h1,e2,h2,hg.trans h3 hr hw,fun l i b hb=>h4 l i b (hr l i b hb),h5.trans hd hg.size h3⟩
def DrawOK (P:Program) (cf:CallK) (cfg:Cfg) (ops:List Oper):Prop :=
  ∀ (s s':RS),s.als = noAls → steps P cf (cfgN ops cfg) true ops (List.range ops.length) s = some s' → ∀ t,steps P cf (cfgN ops cfg) true ops (Region.schedule (P.follows .mixedOrders) ops.toArray t) s = some s'
theorem FRel.drawn {fr:Fr} (h:FRel n e fr a):FRel n e fr a:=h
theorem Grow.drew (e:Env) (w:World) (wr:Wr):Grow e w e { w with drawn:=w.drawn + 1 } wr :=
  ⟨rfl,rfl,rfl,Nat.le_refl _,ClLe.refl _,fun _ _ _=>⟨rfl,rfl,fun _=>rfl⟩,fun _ _ _ h=>h,fun _ _ _ _ _=>rfl⟩
theorem CR.drew {fr:Fr} {H:Stack} (h:CR n A e fr H a w):CR n A e fr H a { w with drawn:=w.drawn + 1 } :=
  ⟨⟨h.wok.holds,h.wok.free⟩,⟨h.hr.par,h.hr.ob⟩,h.fr⟩
def mapDst (ops:List Oper) (d:Nat):Prop:=∃ o ∈ ops,mapDstOf o = some d
theorem hide_undef:∀ (ops:List Oper) (fr:Fr) (d:Nat),mapDst ops d → hideMaps ops fr d = .undef
  | [],fr,d,⟨o,ho,_⟩=>by cases ho
  | x :: r,fr,d,⟨o,ho,hd⟩=>by
    unfold hideMaps
    rcases List.mem_cons.1 ho with rfl | ho
    · rw [hd]; exact upd_same _ _ _
    · have ih:=hide_undef r fr d ⟨o,ho,hd⟩
      cases mapDstOf x with
      | some d' =>
        simp only
        by_cases hdd:d = d'
        · subst hdd; exact upd_same _ _ _
        · rw [upd_ne _ _ hdd]; exact ih
      | none=>exact ih
theorem hide_cases:∀ (ops:List Oper) (fr:Fr) (d:Nat),hideMaps ops fr d = .undef ∨ hideMaps ops fr d = fr d
  | [],fr,d=>.inr rfl
  | x :: r,fr,d=>by
    unfold hideMaps
    cases mapDstOf x with
    | some d' =>
      simp only
      by_cases hdd:d = d'
      · subst hdd; exact .inl (upd_same _ _ _)
      · rw [upd_ne _ _ hdd]; exact hide_cases r fr d
    | none=>exact hide_cases r fr d
theorem FRel.hide {fr:Fr} (ops:List Oper) (h:FRel n e fr a):FRel n e (hideMaps ops fr) a :=
  ⟨h.size,fun t ht=>by
    rcases hide_cases ops fr t with g | g
    · rw [g]; simp only [VR]
    · rw [g]; exact h.val t ht⟩
def RegOK (n:Nat) (A:AbsR) (P:Program) (cf:CallK) (cfg:Cfg) (ops:Array Oper):Prop :=
  opsB n ops.toList = true → ∀ (K:Nat → Prop),(∀ o ∈ ops.toList,∀ d,o.dst = some d → ¬ K d) → ∀ (s s':RS),s.als = noAls → s.lds = noLds → (∀ d,mapDst ops.toList d → s.fr d = .undef) →
    steps P cf (cfgN ops.toList cfg) true ops.toList (List.range ops.toList.length) s = some s' → ∀ (t:Nat) (e:Env) (a:Act) (w:World),RR n A e s a w →
    ∀ Q:Exit → Act → World → Prop,(∀ a' w',Post K n A e a w s' a' w' → Q .normal a' w') → wpOps P ops Q (Region.schedule (P.follows .mixedOrders) ops t) a w
theorem DrawOK.reg (hcf:CfOK P A cf) {ops:Array Oper} (h:DrawOK P cf cfg ops.toList):RegOK n A P cf cfg ops:=by
  intro hb K hK s s' hal _ _ hs t e a w hR Q hQ
  have h1:=h s s' hal hs t
  have hops:ops.toList.toArray = ops:=by simp
  rw [hops] at h1
  exact steps_sim hcf hb hK _ e s a w s' hR h1 Q hQ
theorem region_sim (hcf:CfOK P A cf) {id:Nat} {ops:Array Oper} {dr:Bool} {fr:Fr} {H:Stack} {wr:Wr} {k:Kont} {r:Res} (hb:opsB n ops.toList = true) (hK:∀ o ∈ ops.toList,∀ d,o.dst = some d → ¬ K d) (hdr:dr = true → RegOK n A P cf cfg ops) (hr:region P cf cfg dr ops.toList fr H wr k = some r) :
    ∃ ex fr' H' wr',k ex fr' H' wr' = some r ∧ WLe wr wr' ∧ ∀ e a w,CR n A e fr H a w → (Code.region id ops dr).wp P (CPost K n A e a w ex fr' H' wr') a w:=by
  unfold region at hr
  obtain ⟨s',h1,h2⟩:=opers_steps hcf ops.toList 0 _ (by simp) hr
  rw [← List.range_eq_range'] at h1
  refine ⟨.normal,s'.fr,s'.H,app s'.wr wr,h2,WLe.right _ _,fun e a w h=>?_⟩
  have hpost:∀ w a' w',Post K n A e a w s' a' w' → CPost K n A e a w .normal s'.fr s'.H (app s'.wr wr) .normal a' w':=by
    intro w a' w' ⟨e',k1,k2,k3,k4⟩
    exact ⟨trivial,e',⟨k1.wok,k1.hr,k1.fr⟩,(k2.weaken (WLe.left _ _)).one,k3.one,k4.kept⟩
  cases dr with
  | false =>
    refine wp_region ?_
    have:=steps_sim hcf hb hK (List.range ops.toList.length) e _ a w s' ⟨h.wok,h.hr,h.fr,fun t src _ hs=>by simp [noAls] at hs⟩ h1 (CPost K n A e a w .normal s'.fr s'.H (app s'.wr wr)) (hpost w)
    simpa using this
  | true =>
    refine wp_region_draw fun t=>?_
    have hd:=h.drew
    have:=hdr rfl hb K hK _ s' rfl rfl (fun d hd=>by simpa using hide_undef ops.toList fr d hd) h1 t e a _ ⟨hd.wok,hd.hr,by simpa using hd.fr.hide ops.toList,fun t src _ hs=>by simp [noAls] at hs⟩ (CPost K n A e a w .normal s'.fr s'.H (app s'.wr wr)) (fun a' w' hp=>by
      have:=hpost _ a' w' hp
      exact CPost.trans (Grow.drew e w (app s'.wr wr)).one (fun _ _ _ h=>h) (Kept.refl _ _ _ _ _) (WLe.refl _) this)
    exact this
end Go.Vm
namespace Go.Vm
variable {K:Nat → Prop} {P:Program} {n:Nat} {A:AbsR} {e:Env} {s:RS} {a:Act} {w:World} {o:Oper} {cf:CallK} {cfg:Cfg}
def Env.trunc (e:Env) (m:Nat):Env:={ e with rho:=match e.rho with | r :: R=>r.take m :: R | []=>[] }
theorem trunc_at {e:Env} {m l i b:Nat} (h:rhoAt e.rho l i = some b) (hm:l = 0 → i < m):rhoAt (e.trunc m).rho l i = some b:=by
  obtain ⟨rho,own,cl⟩:=e
  simp only [Env.trunc]
  cases rho with
  | nil=>simp [rhoAt] at h
  | cons r R =>
    cases l with
    | zero=>simp only [rhoAt,nth_eq] at h ⊢; rw [List.getElem?_take,if_pos (hm rfl)]; exact h
    | succ l=>simpa only [rhoAt] using h
mutual
theorem VR.trunc {e:Env} (m:Nat):∀ (a:AV) (p:Option Pl) (q:Option (Nat → Pl)) (v:Value),local? m a = false → VR e p q a v → VR (e.trunc m) p q a v
  | .undef,_,_,_,_,_=>by simp [VR]
  | .bool b,_,_,_,_,h=>by simpa [VR] using h
  | .int k n,_,_,_,_,h=>by simpa [VR] using h
  | .str s,_,_,_,_,h=>by simpa [VR] using h
  | .slice T xs lv,_,_,_,_,h=>by
    simp only [VR] at h ⊢
    refine ⟨h.1,?_⟩
    cases lv <;> exact h.2
  | .ptr l i o,_,_,_,hn,h=>by
    simp only [VR] at h ⊢
    obtain ⟨b,h1,h2⟩:=h
    refine ⟨b,trunc_at h1 fun hl=>?_,h2⟩
    subst hl
    simp only [local?] at hn
    rcases Nat.lt_or_ge i m with h' | h'
    · exact h'
    · rw [(ble_iff m i).2 h'] at hn; cases hn
  | .nilp,_,_,_,_,h=>by simpa [VR] using h
  | .cptr cs o,_,_,_,hn,h=>by
    simp only [VR] at h ⊢; obtain ⟨b,off,h1,h2⟩:=h; exact ⟨b,off,h1,CRs.trunc m cs b off hn h2⟩
  | .func f a c,_,_,_,hn,h=>by
    simp only [local?,Bool.or_eq_false_iff] at hn
    simp only [VR] at h ⊢; obtain ⟨va,vc,h1,h2,h3⟩:=h
    exact ⟨va,vc,h1,VRs.trunc m a none 0 _ hn.1 h2,VRs.trunc m c none 0 _ hn.2 h3⟩
  | .nilf,_,_,_,_,h=>by simpa [VR] using h
  | .agg cs,_,q,_,hn,h=>by
    simp only [VR] at h ⊢; obtain ⟨a,h1,h2⟩:=h; exact ⟨a,h1,VRs.trunc m cs q 0 _ hn h2⟩
  | .tuple cs,_,q,_,hn,h=>by
    simp only [VR] at h ⊢; obtain ⟨a,h1,h2⟩:=h; exact ⟨a,h1,VRs.trunc m cs q 0 _ hn h2⟩
  | .row cs lv,_,_,_,hn,h=>by
    simp only [VR] at h ⊢
    obtain ⟨⟨a,len,cap,h1,h2,h3,h4,h5,h6⟩,h7⟩:=h
    refine ⟨⟨a,len,cap,h1,h2,h3,h4,h5,?_⟩,by cases lv <;> exact h7⟩
    rcases h6 with h | ⟨b,off,g1,g2⟩
    · exact .inl h
    · exact .inr ⟨b,off,g1,CRs.trunc m cs b off hn g2⟩
theorem VRs.trunc {e:Env} (m:Nat):∀ (as:List AV) (q:Option (Nat → Pl)) (j:Nat) (vs:List Value),local?.locals? m as = false → VRs e q j as vs → VRs (e.trunc m) q j as vs
  | [],_,_,_,_,h=>by rw [VRs.nil] at h ⊢; exact h
  | a :: r,q,j,vs,hn,h=>by
    simp only [local?.locals?,Bool.or_eq_false_iff] at hn
    rw [VRs.cons] at h ⊢
    obtain ⟨v,s,e1,h1,h2⟩:=h
    exact ⟨v,s,e1,VR.trunc m a _ none v hn.1 h1,VRs.trunc m r q (j + 1) s hn.2 h2⟩
theorem CRs.trunc {e:Env} (m:Nat):∀ (cs:List AV) (b off:Nat),local?.locals? m cs = false → CRs e b off cs → CRs (e.trunc m) b off cs
  | [],_,_,_,_=>by simp [CRs]
  | a :: r,b,off,hn,h=>by
    simp only [local?.locals?,Bool.or_eq_false_iff] at hn
    simp only [CRs] at h ⊢
    obtain ⟨⟨u,h1,h2⟩,h3⟩:=h
    exact ⟨⟨u,h1,VR.trunc m a none none u hn.1 h2⟩,CRs.trunc m r b (off + 1) hn.2 h3⟩
end
theorem locals_get {m:Nat}:∀ {vs:List AV} {i:Nat} {v:AV},local?.locals? m vs = false → vs[i]? = some v → local? m v = false
  | [],i,v,_,h=>by simp at h
  | x :: vs,0,v,hn,h=>by simp only [local?.locals?,Bool.or_eq_false_iff] at hn; simp at h; subst h; exact hn.1
  | x :: vs,i + 1,v,hn,h=>by simp only [local?.locals?,Bool.or_eq_false_iff] at hn; exact locals_get hn.2 (by simpa using h)
theorem locObs_get {m:Nat}:∀ {os:List Ob} {i:Nat} {x:Ob},locObs m os = false → os[i]? = some x → locOb m x = false
  | [],i,v,_,h=>by simp at h
  | x :: vs,0,v,hn,h=>by simp only [locObs,Bool.or_eq_false_iff] at hn; simp at h; subst h; exact hn.1
  | x :: vs,i + 1,v,hn,h=>by simp only [locObs,Bool.or_eq_false_iff] at hn; exact locObs_get hn.2 (by simpa using h)
theorem HR.trunc {l:List Ob} {S:Stack} {m:Nat} (h:HR A e (l :: S) w) (hl:locObs m (l.take m) = false):HR A (e.trunc m) (l.take m :: S) w:=by
  obtain ⟨rho,own,cl⟩:=e
  have hpar:=h.par
  cases rho with
  | nil=>simp [Par] at hpar
  | cons r R =>
    simp only [Par] at hpar
    refine ⟨⟨by simp [Env.trunc,hpar.1],hpar.2⟩,fun l' i x hx=>?_⟩
    have hx':getH (l :: S) l' i = some x ∧ (l' = 0 → i < m ∧ (l.take m)[i]? = some x):=by
      cases l' with
      | zero =>
        simp only [getH,nth_eq] at hx ⊢
        have hx0:=hx
        rw [List.getElem?_take] at hx
        split at hx
        · rename_i hi; exact ⟨hx,fun _=>⟨hi,hx0⟩⟩
        · cases hx
      | succ l'=>exact ⟨by simpa only [getH] using hx,fun h=>absurd h (Nat.succ_ne_zero _)⟩
    obtain ⟨b,hb,c,ty,fz,k1,k2,k3,k4⟩:=h.ob l' i x hx'.1
    refine ⟨b,trunc_at (e:=⟨r :: R,own,cl⟩) hb fun hl'=>(hx'.2 hl').1,c,ty,fz,k1,k2,k3,?_⟩
    cases x with
    | abs _ _=>exact k4
    | map _=>trivial
    | cells cs =>
      refine ⟨k4.1,fun o av u g1 g2=>?_⟩
      have hv:=k4.2 o av u g1 g2
      cases l' with
      | zero =>
        have hloc:=locObs_get hl (hx'.2 rfl).2
        have:=VR.trunc m av _ _ u (locals_get hloc g1) hv
        exact this
      | succ l'=>exact hv
theorem pick_get (fr:Fr):∀ (ls:List Nat) (t:Nat),mkFr ls (pickAll fr ls) t = .undef ∨ (mkFr ls (pickAll fr ls) t = fr t ∧ ∃ i:Nat,(pickAll fr ls)[i]? = some (fr t))
  | [],t=>.inl rfl
  | x :: ls,t=>by
    simp only [pickAll,mkFr]
    by_cases h:t = x
    · subst h; rw [upd_same]; exact .inr ⟨rfl,0,by simp⟩
    · rw [upd_ne _ _ h]
      rcases pick_get fr ls t with h1 | ⟨h1,i,h2⟩
      · exact .inl h1
      · exact .inr ⟨h1,i + 1,by simpa using h2⟩
theorem FRel.pick {fr:Fr} {ls:List Nat} (h:FRel n e fr a):FRel n e (mkFr ls (pickAll fr ls)) a :=
  ⟨h.size,fun t ht=>by
    rcases pick_get fr ls t with h1 | ⟨h1,_⟩
    · rw [h1]; simp [VR]
    · rw [h1]; exact h.val t ht⟩
theorem inv_iff {ps:List (Nat × Nat)} {m x i:Nat} (h:inv ps m x = some i):sig ps i = x ∧ i < m:=by
  unfold inv at h
  cases hc:(Nat.beq (sig ps (invc ps x)) x && Nat.blt (invc ps x) m) with
  | false=>rw [hc] at h; cases h
  | true =>
    rw [hc] at h
    simp only [cond_true,Option.some.injEq] at h
    subst h
    simp only [Bool.and_eq_true,beq_iff,blt_iff] at hc
    exact hc
theorem renAs_length {ps:List (Nat × Nat)} {m:Nat}:∀ {cs c:List AV},renA.renAs ps m cs = some c → c.length = cs.length
  | [],c,h=>by simp only [renA.renAs,Option.some.injEq] at h; subst h; rfl
  | a :: r,c,h=>by
    simp only [renA.renAs] at h
    cases h1:renA ps m a with
    | none=>rw [h1] at h; cases h
    | some a' =>
      cases h2:renA.renAs ps m r with
      | none=>rw [h1,h2] at h; cases h
      | some r' =>
        rw [h1,h2] at h
        simp only [Option.some.injEq] at h
        subst h
        simp [renAs_length h2]
mutual
theorem VR.moved {e e':Env} {ps:List (Nat × Nat)} {m:Nat} (hc:e'.cl = e.cl) (ho:e'.own = e.own) (hr1:RhoLe1 e e') (hr0:∀ x i b,inv ps m x = some i → rhoAt e.rho 0 x = some b → rhoAt e'.rho 0 i = some b):∀ (a a':AV) (p:Option Pl) (q:Option (Nat → Pl)) (v:Value),renA ps m a = some a' → VR e p q a v → VR e' p q a' v
  | .undef,_,_,_,_,hn,h=>by simp only [renA,Option.some.injEq] at hn; subst hn; simp [VR]
  | .bool b,_,_,_,_,hn,h=>by simp only [renA,Option.some.injEq] at hn; subst hn; simpa [VR] using h
  | .int k n,_,_,_,_,hn,h=>by simp only [renA,Option.some.injEq] at hn; subst hn; simpa [VR] using h
  | .str s,_,_,_,_,hn,h=>by simp only [renA,Option.some.injEq] at hn; subst hn; simpa [VR] using h
  | .slice T xs lv,_,_,_,_,hn,h=>by
    simp only [renA,Option.some.injEq] at hn; subst hn
    simp only [VR] at h ⊢
    refine ⟨by rw [hc]; exact h.1,?_⟩
    have h2:=h.2
    cases lv with
    | view=>trivial
    | full=>exact h2
    | nn=>exact h2
    | nilv=>exact h2
    | own=>simp only [LvR] at h2 ⊢; rw [hc,ho]; exact h2
    | mine=>simp only [LvR] at h2 ⊢; rw [hc,ho]; exact h2
  | .ptr 0 x o,_,_,_,_,hn,h=>by
    simp only [renA] at hn
    cases hi:inv ps m x with
    | none=>rw [hi] at hn; cases hn
    | some i =>
      rw [hi] at hn
      simp only [Option.some.injEq] at hn
      subst hn
      simp only [VR] at h ⊢
      obtain ⟨b,h1,h2⟩:=h
      exact ⟨b,hr0 x i b hi h1,h2⟩
  | .ptr (l + 1) x o,_,_,_,_,hn,h=>by
    simp only [renA,Option.some.injEq] at hn; subst hn
    simp only [VR] at h ⊢
    obtain ⟨b,h1,h2⟩:=h
    exact ⟨b,hr1 l x b h1,h2⟩
  | .nilp,_,_,_,_,hn,h=>by simp only [renA,Option.some.injEq] at hn; subst hn; simpa [VR] using h
  | .cptr cs o,_,_,_,_,hn,h=>by
    simp only [renA] at hn
    cases hi:renA.renAs ps m cs with
    | none=>rw [hi] at hn; cases hn
    | some c =>
      rw [hi] at hn
      simp only [Option.some.injEq] at hn
      subst hn
      simp only [VR] at h ⊢
      obtain ⟨b,off,h1,h2⟩:=h
      exact ⟨b,off,h1,CRs.moved hc ho hr1 hr0 cs c b off hi h2⟩
  | .func f a c,_,_,_,_,hn,h=>by
    simp only [renA] at hn
    cases hi:renA.renAs ps m a with
    | none=>rw [hi] at hn; cases hn
    | some a' =>
      cases hj:renA.renAs ps m c with
      | none=>rw [hi,hj] at hn; cases hn
      | some c' =>
        rw [hi,hj] at hn
        simp only [Option.some.injEq] at hn
        subst hn
        simp only [VR] at h ⊢
        obtain ⟨va,vc,h1,h2,h3⟩:=h
        exact ⟨va,vc,h1,VRs.moved hc ho hr1 hr0 a a' none 0 _ hi h2,VRs.moved hc ho hr1 hr0 c c' none 0 _ hj h3⟩
  | .nilf,_,_,_,_,hn,h=>by simp only [renA,Option.some.injEq] at hn; subst hn; simpa [VR] using h
  | .agg cs,_,_,q,_,hn,h=>by
    simp only [renA] at hn
    cases hi:renA.renAs ps m cs with
    | none=>rw [hi] at hn; cases hn
    | some c =>
      rw [hi] at hn
      simp only [Option.some.injEq] at hn
      subst hn
      simp only [VR] at h ⊢
      obtain ⟨a,h1,h2⟩:=h
      exact ⟨a,h1,VRs.moved hc ho hr1 hr0 cs c q 0 _ hi h2⟩
  | .tuple cs,_,_,q,_,hn,h=>by
    simp only [renA] at hn
    cases hi:renA.renAs ps m cs with
    | none=>rw [hi] at hn; cases hn
    | some c =>
      rw [hi] at hn
      simp only [Option.some.injEq] at hn
      subst hn
      simp only [VR] at h ⊢
      obtain ⟨a,h1,h2⟩:=h
      exact ⟨a,h1,VRs.moved hc ho hr1 hr0 cs c q 0 _ hi h2⟩
  | .row cs lv,_,_,_,_,hn,h=>by
    simp only [renA] at hn
    cases hi:renA.renAs ps m cs with
    | none=>rw [hi] at hn; cases hn
    | some c =>
      rw [hi] at hn
      simp only [Option.some.injEq] at hn
      subst hn
      simp only [VR] at h ⊢
      obtain ⟨⟨a,len,cap,h1,h2,h3,h4,h5,h6⟩,h7⟩:=h
      refine ⟨⟨a,len,cap,h1,(renAs_length hi).trans h2,h3,h4,h5,?_⟩,?_⟩
      · rcases h6 with h | ⟨b,off,g1,g2⟩
        · exact .inl (List.eq_nil_of_length_eq_zero (by rw [renAs_length hi,h]; rfl))
        · exact .inr ⟨b,off,g1,CRs.moved hc ho hr1 hr0 cs c b off hi g2⟩
      · cases lv with
        | view=>trivial
        | full=>exact h7
        | nn=>exact h7
        | nilv=>exact h7
        | own=>simp only [LvR] at h7 ⊢; rw [hc,ho]; exact h7
        | mine=>simp only [LvR] at h7 ⊢; rw [hc,ho]; exact h7
theorem VRs.moved {e e':Env} {ps:List (Nat × Nat)} {m:Nat} (hc:e'.cl = e.cl) (ho:e'.own = e.own) (hr1:RhoLe1 e e') (hr0:∀ x i b,inv ps m x = some i → rhoAt e.rho 0 x = some b → rhoAt e'.rho 0 i = some b):∀ (as as':List AV) (q:Option (Nat → Pl)) (j:Nat) (vs:List Value),renA.renAs ps m as = some as' → VRs e q j as vs → VRs e' q j as' vs
  | [],_,_,_,_,hn,h=>by simp only [renA.renAs,Option.some.injEq] at hn; subst hn; rw [VRs.nil] at h ⊢; exact h
  | a :: r,_,q,j,vs,hn,h=>by
    simp only [renA.renAs] at hn
    cases hi:renA ps m a with
    | none=>rw [hi] at hn; cases hn
    | some a' =>
      cases hj:renA.renAs ps m r with
      | none=>rw [hi,hj] at hn; cases hn
      | some r' =>
        rw [hi,hj] at hn
        simp only [Option.some.injEq] at hn
        subst hn
        rw [VRs.cons] at h ⊢
        obtain ⟨v,s,e1,h1,h2⟩:=h
        exact ⟨v,s,e1,VR.moved hc ho hr1 hr0 a a' _ none v hi h1,VRs.moved hc ho hr1 hr0 r r' q (j + 1) s hj h2⟩
theorem CRs.moved {e e':Env} {ps:List (Nat × Nat)} {m:Nat} (hc:e'.cl = e.cl) (ho:e'.own = e.own) (hr1:RhoLe1 e e') (hr0:∀ x i b,inv ps m x = some i → rhoAt e.rho 0 x = some b → rhoAt e'.rho 0 i = some b):∀ (cs cs':List AV) (b off:Nat),renA.renAs ps m cs = some cs' → CRs e b off cs → CRs e' b off cs'
  | [],_,_,_,hn,h=>by simp only [renA.renAs,Option.some.injEq] at hn; subst hn; simp [CRs]
  | a :: r,_,b,off,hn,h=>by
    simp only [renA.renAs] at hn
    cases hi:renA ps m a with
    | none=>rw [hi] at hn; cases hn
    | some a' =>
      cases hj:renA.renAs ps m r with
      | none=>rw [hi,hj] at hn; cases hn
      | some r' =>
        rw [hi,hj] at hn
        simp only [Option.some.injEq] at hn
        subst hn
        simp only [CRs] at h ⊢
        obtain ⟨⟨u,h1,h2⟩,h3⟩:=h
        exact ⟨⟨u,by rw [hc]; exact h1,VR.moved hc ho hr1 hr0 a a' none none u hi h2⟩,CRs.moved hc ho hr1 hr0 r r' b (off + 1) hj h3⟩
end
theorem renAs_get {ps:List (Nat × Nat)} {m:Nat}:∀ {as as':List AV},renA.renAs ps m as = some as' → as'.length = as.length ∧ ∀ (i:Nat) (a':AV),as'[i]? = some a' → ∃ a,as[i]? = some a ∧ renA ps m a = some a'
  | [],as',h=>by simp only [renA.renAs,Option.some.injEq] at h; subst h; exact ⟨rfl,fun i a' hi=>by simp at hi⟩
  | a :: r,as',h=>by
    simp only [renA.renAs] at h
    cases hi:renA ps m a with
    | none=>rw [hi] at h; cases h
    | some a' =>
      cases hj:renA.renAs ps m r with
      | none=>rw [hi,hj] at h; cases h
      | some r' =>
        rw [hi,hj] at h
        simp only [Option.some.injEq] at h
        subst h
        obtain ⟨g1,g2⟩:=renAs_get hj
        refine ⟨by simp [g1],fun i x hx=>?_⟩
        cases i with
        | zero=>simp at hx; subst hx; exact ⟨a,by simp,hi⟩
        | succ i=>simpa using g2 i x (by simpa using hx)
theorem moved_get {ps:List (Nat × Nat)} {m:Nat} {l:List Ob}:∀ (q i:Nat) (l2:List Ob),moved ps m l i q = some l2 → l2.length = q ∧ ∀ (k:Nat) (o':Ob),l2[k]? = some o' → ∃ o,inv ps m (sig ps (i + k)) = some (i + k) ∧ l[sig ps (i + k)]? = some o ∧ renOb ps m o = some o'
  | 0,i,l2,h=>by simp only [Vm.moved,Option.some.injEq] at h; subst h; exact ⟨rfl,fun k o' hk=>by simp at hk⟩
  | q + 1,i,l2,h=>by
    simp only [Vm.moved] at h
    split at h
    · rename_i k o r h1 h2 h3
      split at h
      · rename_i o' h4
        rcases cond_some h with ⟨hk,h⟩ | ⟨_,h⟩
        · simp only [Option.some.injEq] at h
          subst h
          have hk:=(beq_iff _ _).1 hk
          subst hk
          obtain ⟨g1,g2⟩:=moved_get q (k + 1) r h3
          refine ⟨by simp [g1],fun j x hx=>?_⟩
          cases j with
          | zero=>simp at hx; subst hx; exact ⟨o,h1,by rw [← nth_eq]; exact h2,h4⟩
          | succ j =>
            obtain ⟨o2,q1,q2,q3⟩:=g2 j x (by simpa using hx)
            rw [show k + (j + 1) = k + 1 + j by omega]
            exact ⟨o2,q1,q2,q3⟩
        · cases h
      · cases h
    · cases h
def movF (ps:List (Nat × Nat)) (m:Nat):Pl → Pl
  | .ob 0 x=>match inv ps m x with | some i=>.ob 0 i | none=>.hid (.ob 0 x)
  | .cell 0 x o=>match inv ps m x with | some i=>.cell 0 i o | none=>.hid (.cell 0 x o)
  | p=>p
instance (ps:List (Nat × Nat)) (m:Nat):ObF (movF ps m):=⟨fun p=>by
  unfold movF
  repeat' split
  all_goals rfl⟩
def newRho (ps:List (Nat × Nat)) (m:Nat) (r:List Nat):List Nat:=(List.range m).map fun i=>r.getD (sig ps i) 0
theorem newRho_at {ps:List (Nat × Nat)} {m:Nat} {r:List Nat} {R:Rho} {i b:Nat} (hi:i < m) (h:r[sig ps i]? = some b):rhoAt (newRho ps m r :: R) 0 i = some b:=by
  simp only [rhoAt,nth_eq,newRho,List.getElem?_map,List.getElem?_range hi,Option.map_some,List.getD_eq_getElem?_getD,h,Option.getD_some]
theorem renOb_hb {ps:List (Nat × Nat)} {m:Nat} {x y:Ob} {q:Option Obj} {c:Array Value} {ty:TypeId} {fz:Nat × Nat} (h:renOb ps m x = some y) (k:HB q c ty fz x):HB q c ty fz y:=by
  cases x with
  | map _=>simp only [renOb,Option.some.injEq] at h; subst h; exact k
  | abs _ _=>simp only [renOb,Option.some.injEq] at h; subst h; exact k
  | cells cs =>
    simp only [renOb] at h
    cases hcs:renA.renAs ps m cs with
    | none=>rw [hcs] at h; cases h
    | some cs'=>rw [hcs] at h; simp only [Option.some.injEq] at h; subst h; exact k
theorem adopt_sim {m:Nat} {fr fr2:Fr} {ps:List (Nat × Nat)} {l l2:List Ob} {S:Stack} (h:CR n A e fr (l :: S) a w) (hm:Vm.moved ps m l 0 m = some l2) (hfr:∀ t,fr2 t = .undef ∨ renA ps m (fr t) = some (fr2 t)) :
    ∃ e',CR n A e' fr2 (l2 :: S) a w ∧ (∀ wr,Grow1 e w e' w wr) ∧ RhoLe1 e e':=by
  obtain ⟨rho,own,cl⟩:=e
  have hpar:=h.hr.par
  match rho,hpar with
  | r :: R,hpar =>
    simp only [Par] at hpar
    obtain ⟨g1,g2⟩:=moved_get m 0 l2 hm
    have hr1:∀ l i b,rhoAt (r :: R) (l + 1) i = some b → rhoAt (newRho ps m r :: R) (l + 1) i = some b:=fun l i b hb=>hb
    have hr0:∀ x i b,inv ps m x = some i → rhoAt (r :: R) 0 x = some b → rhoAt (newRho ps m r :: R) 0 i = some b:=by
      intro x i b hx hb
      obtain ⟨h1,h2⟩:=inv_iff hx
      refine newRho_at h2 ?_
      rw [h1]
      simpa only [rhoAt,nth_eq] using hb
    refine ⟨{ (Env.ren (movF ps m) ⟨r :: R,own,cl⟩) with rho:=newRho ps m r :: R },⟨⟨fun b o x hx=>h.wok.holds b o x hx,fun b p k hp=>(h.wok.ren (f:=movF ps m)).free b p k hp⟩,⟨⟨by simp [newRho,g1],hpar.2⟩,fun l' i x hx=>?_⟩,⟨h.fr.size,fun t ht=>?_⟩⟩,fun wr=>?_,fun l i b hb=>hb⟩
    · cases l' with
      | succ l' =>
        obtain ⟨b,hb,c,ty,fz,k1,k2,k3,k4⟩:=h.hr.ob (l' + 1) i x (by simpa only [getH] using hx)
        refine ⟨b,hb,c,ty,fz,k1,by have:=Env.ren_own (f:=movF ps m) k2; exact this,k3,?_⟩
        cases x with
        | abs _ _=>exact k4
        | map _=>trivial
        | cells cs =>
          refine ⟨k4.1,fun o av u q1 q2=>?_⟩
          have hv:=k4.2 o av u q1 q2
          exact VR.ren (f:=movF ps m) (e:=Env.dr ⟨r :: R,own,cl⟩ (l' + 1)) (by simp [movF]) (by simp) hv
      | zero =>
        simp only [getH,nth_eq] at hx
        obtain ⟨o,q1,q2,q3⟩:=g2 i x hx
        rw [Nat.zero_add] at q1 q2
        have him:i < m:=by rw [← g1]; exact (List.getElem?_eq_some_iff.1 hx).1
        obtain ⟨b,hb,c,ty,fz,k1,k2,k3,k4⟩:=h.hr.ob 0 (sig ps i) o (by simpa only [getH,nth_eq] using q2)
        have hown:=Env.ren_own (f:=movF ps m) k2
        simp only [movF,q1] at hown
        refine ⟨b,hr0 _ i b q1 hb,c,ty,fz,renOb_hb q3 k1,hown,k3,?_⟩
        cases o with
        | map _=>simp only [renOb,Option.some.injEq] at q3; subst q3; trivial
        | abs k d=>simp only [renOb,Option.some.injEq] at q3; subst q3; exact k4
        | cells cs =>
          simp only [renOb] at q3
          cases hcs:renA.renAs ps m cs with
          | none=>rw [hcs] at q3; cases q3
          | some cs' =>
            rw [hcs] at q3
            simp only [Option.some.injEq] at q3
            subst q3
            obtain ⟨z1,z2⟩:=renAs_get hcs
            refine ⟨by rw [z1]; exact k4.1,fun o' av u y1 y2=>?_⟩
            obtain ⟨av0,y3,y4⟩:=z2 o' av y1
            have hv:=k4.2 o' av0 u y3 y2
            have h1:=VR.ren (f:=movF ps m) (e:=Env.dr ⟨r :: R,own,cl⟩ 0) (p':=some (.cell 0 i o')) (q':=none) (by simp [movF,q1]) (by simp) hv
            exact VR.moved (e:=(Env.dr ⟨r :: R,own,cl⟩ 0).ren (movF ps m)) (e':=Env.dr { (Env.ren (movF ps m) ⟨r :: R,own,cl⟩) with rho:=newRho ps m r :: R } 0) (ps:=ps) (m:=m) rfl rfl hr1 hr0 av0 av _ _ u y4 h1
    · rcases hfr t with h1 | h1
      · rw [h1]; simp [VR]
      · have h2:=VR.ren (f:=movF ps m) (p':=some (.slot t 0)) (q':=some fun j=>.slot t (j + 1)) (by simp [movF]) (by simp [movF]) (h.fr.val t ht)
        exact VR.moved (e:=Env.ren (movF ps m) ⟨r :: R,own,cl⟩) (e':={ (Env.ren (movF ps m) ⟨r :: R,own,cl⟩) with rho:=newRho ps m r :: R }) (ps:=ps) (m:=m) rfl rfl hr1 hr0 _ _ _ _ _ h1 h2
    · refine ⟨rfl,rfl,rfl,Nat.le_refl _,ClLe.refl _,fun b hb ho=>⟨rfl,?_,fun _=>rfl⟩,fun _ _ _ _ _=>rfl⟩
      rcases ho with ho | ⟨p,k,ho⟩
      · simp only [Env.ren] at ho ⊢; rw [ho]
      · simp only [Env.ren] at ho ⊢; rw [ho]; rfl
theorem pick_ren {ps:List (Nat × Nat)} {m:Nat} (fr:Fr):∀ (ls:List Nat) (vs2:List AV),renA.renAs ps m (pickAll fr ls) = some vs2 → ∀ t,mkFr ls vs2 t = .undef ∨ renA ps m (fr t) = some (mkFr ls vs2 t)
  | [],vs2,h,t=>.inl (by cases vs2 <;> rfl)
  | x :: ls,vs2,h,t=>by
    simp only [pickAll,renA.renAs] at h
    cases hi:renA ps m (fr x) with
    | none=>rw [hi] at h; cases h
    | some a' =>
      cases hj:renA.renAs ps m (pickAll fr ls) with
      | none=>rw [hi,hj] at h; cases h
      | some r' =>
        rw [hi,hj] at h
        simp only [Option.some.injEq] at h
        subst h
        simp only [mkFr]
        by_cases hx:t = x
        · subst hx; rw [upd_same]; exact .inr hi
        · rw [upd_ne _ _ hx]; exact pick_ren fr ls r' hj t
theorem settle_sim {m:Nat} {fr:Fr} {ls:List Nat} {vs0 vs2:List AV} {H0 H H2:Stack} (h:CR n A e fr H a w) (hf:settle m vs0 H0 (pickAll fr ls) H = some (vs2,H2)) :
    ∃ e',CR n A e' (mkFr ls vs2) H2 a w ∧ (∀ wr,Grow1 e w e' w wr) ∧ RhoLe1 e e':=by
  unfold settle at hf
  cases H with
  | nil=>cases hf
  | cons l S =>
    simp only at hf
    cases hle:Nat.ble (lenN l) m with
    | true =>
      rw [hle] at hf
      simp only [cond_true,Option.some.injEq,Prod.mk.injEq] at hf
      obtain ⟨rfl,rfl⟩:=hf
      exact ⟨e,⟨h.wok,h.hr,h.fr.pick⟩,fun wr=>Grow1.refl _ _ _,fun _ _ _ h=>h⟩
    | false =>
      rw [hle] at hf
      simp only [cond_false] at hf
      cases hn:(local?.locals? m (pickAll fr ls) || locObs m (tkN m l)) with
      | true =>
        rw [hn] at hf
        simp only [cond_true] at hf
        cases H0 with
        | nil=>cases hf
        | cons l0 S0 =>
          simp only at hf
          split at hf
          · rename_i v2 o2 h1 h2
            simp only [Option.some.injEq,Prod.mk.injEq] at hf
            obtain ⟨rfl,rfl⟩:=hf
            exact adopt_sim h h2 (pick_ren fr ls _ h1)
          · simp only [Option.some.injEq,Prod.mk.injEq] at hf
            obtain ⟨rfl,rfl⟩:=hf
            exact ⟨e,⟨h.wok,h.hr,h.fr.pick⟩,fun wr=>Grow1.refl _ _ _,fun _ _ _ h=>h⟩
      | false =>
        rw [hn] at hf
        simp only [cond_false,Option.some.injEq,Prod.mk.injEq] at hf
        obtain ⟨rfl,rfl⟩:=hf
        simp only [Bool.or_eq_false_iff,tkN_eq] at hn
        rw [tkN_eq]
        refine ⟨e.trunc m,⟨⟨h.wok.holds,h.wok.free⟩,h.hr.trunc hn.2,⟨h.fr.size,fun t ht=>?_⟩⟩,fun wr=>?_,fun l i b hb=>trunc_at hb fun h=>absurd h (Nat.succ_ne_zero _)⟩
        · rcases pick_get fr ls t with h1 | ⟨h1,i,h2⟩
          · rw [h1]; simp [VR]
          · rw [h1]; exact VR.trunc m _ _ _ _ (locals_get hn.1 h2) (h.fr.val t ht)
        · exact ⟨rfl,rfl,rfl,Nat.le_refl _,ClLe.refl _,fun _ _ _=>⟨rfl,rfl,fun _=>rfl⟩,fun _ _ _ _ _=>rfl⟩
def LWp (P:Program) (c:Code) (Q:Exit → Act → World → Prop) (a:Act) (w:World):Prop :=
  ∀ (b:Frame) (k:List Item) (cs:List Frame),∃ e a' w',Q e a' w' ∧ Arrives P (lone (b.at a (.code c :: .inLoop c :: k)) cs w) b k cs e a' w'
def BodyOK (K:Nat → Prop) (P:Program) (n:Nat) (A:AbsR) (c:Code) (bodyC:Fr → Stack → Wr → Kont → Option Res):Prop :=
  ∀ fr H wr (k:Kont) r,bodyC fr H wr k = some r → ∃ ex fr' H' wr',k ex fr' H' wr' = some r ∧ WLe wr wr' ∧ ∀ e a w,CR n A e fr H a w → c.wp P (CPost K n A e a w ex fr' H' wr') a w
theorem loop_round {c:Code} {bodyC:Fr → Stack → Wr → Kont → Option Res} (hbody:BodyOK K P n A c bodyC) {live:List Nat} {m:Nat}:∀ (N:Nat) (vs:List AV) (H:Stack) (wr:Wr) (k:Kont) (r:Res),loopC bodyC live m N vs H wr k = some r →
    ∃ ex fr' H' wr',k ex fr' H' wr' = some r ∧ WLe wr wr' ∧ ∀ e0 a0 w0 e a w,CR n A e (mkFr live vs) H a w → Grow1 e0 w0 e w wr → RhoLe1 e0 e → Kept K a0 w0 e a w → LWp P c (CPost K n A e0 a0 w0 ex fr' H' wr') a w
  | 0,vs,H,wr,k,r,h=>by simp [loopC] at h
  | N + 1,vs,H,wr,k,r,h=>by
    simp only [loopC] at h
    obtain ⟨ex,fr1,H1,wr1,h1,h2,h3⟩:=hbody _ _ _ _ _ h
    have hpass:∀ (ex':Ex),ex' = ex → ex' ≠ .normal → k ex' fr1 H1 wr1 = some r → ∃ ex fr' H' wr',k ex fr' H' wr' = some r ∧ WLe wr wr' ∧ ∀ e0 a0 w0 e a w,CR n A e (mkFr live vs) H a w → Grow1 e0 w0 e w wr → RhoLe1 e0 e → Kept K a0 w0 e a w → LWp P c (CPost K n A e0 a0 w0 ex fr' H' wr') a w:=by
      intro ex' hex hne hk
      subst hex
      refine ⟨ex',fr1,H1,wr1,hk,h2,fun e0 a0 w0 e a w hC hG hR hD b k' cs=>?_⟩
      obtain ⟨x,a1,w1,hq,harr⟩:=h3 e a w hC b (.inLoop c :: k') cs
      have hq':=CPost.trans hG hR hD h2 hq
      cases ex' with
      | normal=>exact absurd rfl hne
      | exit i =>
        obtain ⟨hx,_⟩:=hq
        cases x <;> simp only [exMatch] at hx
        exact ⟨_,a1,w1,hq',.pass (x:=.inLoop c) rfl (fun _ _=>.inl (by simp)) harr⟩
      | ret =>
        obtain ⟨hx,_⟩:=hq
        cases x <;> simp only [exMatch] at hx
        exact ⟨_,a1,w1,hq',.pass (x:=.inLoop c) rfl (fun _ _=>.inl (by simp)) harr⟩
    cases ex with
    | normal =>
      simp only at h1
      cases hf:settle m vs H (pickAll fr1 live) H1 with
      | none=>rw [hf] at h1; cases h1
      | some vH =>
        obtain ⟨vs2,H2⟩:=vH
        rw [hf] at h1
        simp only at h1
        obtain ⟨ex,fr',H',wr',k1,k2,k3⟩:=loop_round hbody N _ _ _ _ _ h1
        refine ⟨ex,fr',H',wr',k1,h2.trans k2,fun e0 a0 w0 e a w hC hG hR hD b k' cs=>?_⟩
        obtain ⟨x,a1,w1,hq,harr⟩:=h3 e a w hC b (.inLoop c :: k') cs
        obtain ⟨hx,e1,g1,g2,g3,g4⟩:=hq
        cases x <;> simp only [exMatch] at hx
        obtain ⟨e2,m1,m2,m3⟩:=settle_sim g1 hf
        have hR1:RhoLe1 e0 e1:=fun l i b hb=>g3 _ _ _ (hR _ _ _ hb)
        have hG1:=(hG.trans g2 hR h2).trans (m2 wr1) hR1 (WLe.refl _)
        obtain ⟨x2,a2,w2,hq2,harr2⟩:=k3 e0 a0 w0 e2 a1 w1 m1 hG1 (fun l i b hb=>m3 _ _ _ (hR1 _ _ _ hb)) ((g4.trans hD hG.size g2).env (m2 wr1)) b k' cs
        exact ⟨x2,a2,w2,hq2,.of_steps (Steps.trans harr (.one step_inLoop)) harr2⟩
    | exit i=>exact hpass (.exit i) rfl (by simp) h1
    | ret=>exact hpass .ret rfl (by simp) h1
theorem loop_sim {c:Code} {bodyC:Fr → Stack → Wr → Kont → Option Res} (hbody:BodyOK K P n A c bodyC) {live:List Nat} {N:Nat} {fr:Fr} {H:Stack} {wr:Wr} {k:Kont} {r:Res} (h:loopC bodyC live (headLen H) N (pickAll fr live) H wr k = some r) :
    ∃ ex fr' H' wr',k ex fr' H' wr' = some r ∧ WLe wr wr' ∧ ∀ e a w,CR n A e fr H a w → (Code.loop c).wp P (CPost K n A e a w ex fr' H' wr') a w:=by
  obtain ⟨ex,fr',H',wr',h1,h2,h3⟩:=loop_round hbody N _ _ _ _ _ h
  refine ⟨ex,fr',H',wr',h1,h2,fun e a w hC b k' cs=>?_⟩
  obtain ⟨x,a',w',hq,harr⟩:=h3 e a w e a w ⟨hC.wok,hC.hr,hC.fr.pick⟩ (Grow1.refl _ _ _) (fun _ _ _ h=>h) (Kept.refl _ _ _ _ _) b k' cs
  exact ⟨x,a',w',hq,.of_steps (.one step_loop) harr⟩
structure LoopOK (n:Nat) (bodyC:Fr → Stack → Wr → Kont → Option Res) (L:LoopSum):Prop where
  lt:∀ t ∈ L.live,t < n
  nat:∀ vs H wr k r,L.sum vs H wr k = some r → ∃ ex vs' H' wr',WLe wr wr' ∧ k ex vs' H' wr' = some r
  ok:∀ vs H wr k r,L.sum vs H wr k = some r → okAVs vs → okH H → ∃ N,loopC bodyC L.live (headLen H) N vs H wr (fun ex fr H' wr'=>k ex (pickAll fr L.outs) H' wr') = some r
theorem pick_ok {fr:Fr} {H:Stack} {live:List Nat} (hC:CR n A e fr H a w) (hl:∀ t ∈ live,t < n):okAVs (pickAll fr live):=by
  induction live with
  | nil=>simp [pickAll,okAVs]
  | cons t r ih =>
    simp only [pickAll,okAVs]
    exact ⟨VR.ok _ _ _ _ (hC.fr.val t (hl t (by simp))),ih fun t ht=>hl t (by simp [ht])⟩
structure RangeOK (P:Program) (A:AbsR) (n:Nat) (c:Code) (L:LoopSum):Prop where
  lt:∀ t ∈ L.live,t < n
  nat:∀ vs H wr k r,L.sum vs H wr k = some r → ∃ ex vs' H' wr',WLe wr wr' ∧ k ex vs' H' wr' = some r
  ok:∀ vs H wr k r,L.sum vs H wr k = some r → okAVs vs → okH H → ∃ ex vs' H' wr',k ex vs' H' wr' = some r ∧ WLe wr wr' ∧ ∀ (K:Nat → Prop) (fr:Fr) e a w,pickAll fr L.live = vs → CR n A e fr H a w → c.wp P (CPost K n A e a w ex (mkFr L.outs vs') H' wr') a w
def CodeOK (A:AbsR) (P:Program) (cf:CallK) (cfg:Cfg) (lf:Nat → Option LoopSum) (live:Nat → Option (List Nat)) (n:Nat):Code → Nat → Prop
  | .region _ ops dr,_=>opsB n ops.toList = true ∧ (dr = true → RegOK n A P cf cfg ops)
  | .seq x y,p=>CodeOK A P cf cfg lf live n x (2 * p) ∧ CodeOK A P cf cfg lf live n y (2 * p + 1)
  | .cond c x y,p=>opdB n c = true ∧ CodeOK A P cf cfg lf live n x (2 * p) ∧ CodeOK A P cf cfg lf live n y (2 * p + 1)
  | .block _ c,p=>CodeOK A P cf cfg lf live n c (2 * p)
  | .scope c,p=>CodeOK A P cf cfg lf live n c (2 * p)
  | .loop c,p=>CodeOK A P cf cfg lf live n c (2 * p) ∧ ∀ L,lf p = some L → LoopOK n (fun fr H wr k=>code P cf cfg lf live c (2 * p) fr H wr k) L
  | .rangeFunc g ps x y,p=>∀ L,lf p = some L → RangeOK P A n (.rangeFunc g ps x y) L
  | _,_=>True
def CodeK (K:Nat → Prop):Code → Prop
  | .region _ ops _=>∀ o ∈ ops.toList,∀ d,o.dst = some d → ¬ K d
  | .seq x y=>CodeK K x ∧ CodeK K y
  | .cond _ x y=>CodeK K x ∧ CodeK K y
  | .block _ c=>CodeK K c
  | .scope c=>CodeK K c
  | .loop c=>CodeK K c
  | _=>True
theorem CodeK.none:∀ c:Code,CodeK (fun _=>False) c
  | .region _ ops _=>fun _ _ _ _ h=>h
  | .seq x y=>⟨CodeK.none x,CodeK.none y⟩
  | .cond _ x y=>⟨CodeK.none x,CodeK.none y⟩
  | .block _ c=>CodeK.none c
  | .scope c=>CodeK.none c
  | .loop c=>CodeK.none c
  | .skip=>trivial
  | .label _=>trivial
  | .ret=>trivial
  | .exit _=>trivial
  | .goto _=>trivial
  | .rangeFunc ..=>trivial
  | .refuse _=>trivial
theorem CR.refl_post {fr:Fr} {H:Stack} {wr:Wr} {ex:Ex} {x:Exit} (h:CR n A e fr H a w) (hx:exMatch ex x):CPost K n A e a w ex fr H wr x a w :=
  ⟨hx,e,h,Grow1.refl _ _ _,fun _ _ _ h=>h,Kept.refl _ _ _ _ _⟩
theorem code_sim (hcf:CfOK P A cf) {lf:Nat → Option LoopSum} {live:Nat → Option (List Nat)}:∀ (c:Code) (p:Nat),CodeOK A P cf cfg lf live n c p → CodeK K c → BodyOK K P n A c (fun fr H wr k=>code P cf cfg lf live c p fr H wr k)
  | .skip,p,hc,hk,fr,H,wr,k,r,h=>⟨.normal,fr,H,wr,h,WLe.refl _,fun e a w hC=>wp_skip (hC.refl_post trivial)⟩
  | .label l,p,hc,hk,fr,H,wr,k,r,h=>⟨.normal,fr,H,wr,h,WLe.refl _,fun e a w hC=>wp_label (hC.refl_post trivial)⟩
  | .ret,p,hc,hk,fr,H,wr,k,r,h=>⟨.ret,fr,H,wr,h,WLe.refl _,fun e a w hC=>wp_ret (hC.refl_post trivial)⟩
  | .exit id,p,hc,hk,fr,H,wr,k,r,h=>⟨.exit id,fr,H,wr,h,WLe.refl _,fun e a w hC=>wp_exit (hC.refl_post rfl)⟩
  | .region id ops dr,p,hc,hk,fr,H,wr,k,r,h=>region_sim hcf hc.1 hk hc.2 h
  | .seq x y,p,hc,hk,fr,H,wr,k,r,h=>by
    obtain ⟨ex,fr1,H1,wr1,h1,h2,h3⟩:=code_sim hcf x (2 * p) hc.1 hk.1 fr H wr _ r h
    cases ex with
    | normal =>
      obtain ⟨ex,fr2,H2,wr2,k1,k2,k3⟩:=code_sim hcf y (2 * p + 1) hc.2 hk.2 fr1 H1 wr1 k r h1
      refine ⟨ex,fr2,H2,wr2,k1,h2.trans k2,fun e a w hC=>wp_seq (wp_mono (h3 e a w hC) fun x' a' w' hq=>?_)⟩
      obtain ⟨hx,e1,g1,g2,g3,g4⟩:=hq
      cases x' <;> simp only [exMatch] at hx
      exact wp_mono (k3 e1 a' w' g1) fun x2 a2 w2 hq2=>CPost.trans (g2.weaken k2) g3 g4 (WLe.refl _) hq2
    | exit i =>
      refine ⟨.exit i,fr1,H1,wr1,h1,h2,fun e a w hC=>wp_seq (wp_mono (h3 e a w hC) fun x' a' w' hq=>?_)⟩
      have hx:=hq.1
      cases x' <;> simp only [exMatch] at hx
      exact hq
    | ret =>
      refine ⟨.ret,fr1,H1,wr1,h1,h2,fun e a w hC=>wp_seq (wp_mono (h3 e a w hC) fun x' a' w' hq=>?_)⟩
      have hx:=hq.1
      cases x' <;> simp only [exMatch] at hx
      exact hq
  | .cond c x y,p,hc,hk,fr,H,wr,k,r,h=>by
    simp only [code] at h
    cases c with
    | tmp t =>
      simp only at h
      cases ht:fr t with
      | bool b =>
        rw [ht] at h
        simp only at h
        have hev:∀ e a w,CR n A e fr H a w → a.eval (.tmp t) = .bool b:=fun e a w hC=>by
          have:=hC.fr.val t (opdB_ok hc.1)
          rw [ht] at this
          simp only [VR] at this
          exact this
        rcases cond_some h with ⟨rfl,h⟩ | ⟨rfl,h⟩
        · obtain ⟨ex,fr1,H1,wr1,h1,h2,h3⟩:=code_sim hcf x (2 * p) hc.2.1 hk.1 fr H wr _ r h
          exact ⟨ex,fr1,H1,wr1,h1,h2,fun e a w hC=>wp_cond (hev e a w hC) (h3 e a w hC)⟩
        · obtain ⟨ex,fr1,H1,wr1,h1,h2,h3⟩:=code_sim hcf y (2 * p + 1) hc.2.2 hk.2 fr H wr _ r h
          exact ⟨ex,fr1,H1,wr1,h1,h2,fun e a w hC=>wp_cond (hev e a w hC) (h3 e a w hC)⟩
      | _=>rw [ht] at h; cases h
    | _=>cases h
  | .block id c,p,hc,hk,fr,H,wr,k,r,h=>by
    obtain ⟨ex,fr1,H1,wr1,h1,h2,h3⟩:=code_sim hcf c (2 * p) hc hk fr H wr _ r h
    cases ex with
    | normal =>
      refine ⟨.normal,fr1,H1,wr1,h1,h2,fun e a w hC=>wp_block (wp_mono (h3 e a w hC) fun x' a' w' hq=>?_)⟩
      have hx:=hq.1
      cases x' <;> simp only [exMatch] at hx
      exact hq
    | ret =>
      refine ⟨.ret,fr1,H1,wr1,h1,h2,fun e a w hC=>wp_block (wp_mono (h3 e a w hC) fun x' a' w' hq=>?_)⟩
      have hx:=hq.1
      cases x' <;> simp only [exMatch] at hx
      exact hq
    | exit i =>
      simp only at h1
      rcases cond_some h1 with ⟨hi,h1⟩ | ⟨hi,h1⟩
      · refine ⟨.normal,fr1,H1,wr1,h1,h2,fun e a w hC=>wp_block (wp_mono (h3 e a w hC) fun x' a' w' hq=>?_)⟩
        obtain ⟨hx,hrest⟩:=hq
        cases x' <;> simp only [exMatch] at hx
        subst hx
        simp only [Exit.inBlock]
        rw [if_pos ((beq_iff _ _).1 hi)]
        exact ⟨trivial,hrest⟩
      · refine ⟨.exit i,fr1,H1,wr1,h1,h2,fun e a w hC=>wp_block (wp_mono (h3 e a w hC) fun x' a' w' hq=>?_)⟩
        obtain ⟨hx,hrest⟩:=hq
        cases x' <;> simp only [exMatch] at hx
        subst hx
        simp only [Exit.inBlock]
        rw [if_neg (beq_false.1 hi)]
        exact ⟨rfl,hrest⟩
  | .scope c,p,hc,hk,fr,H,wr,k,r,h=>by
    obtain ⟨ex,fr1,H1,wr1,h1,h2,h3⟩:=code_sim hcf c (2 * p) hc hk fr H wr _ r h
    refine ⟨ex,fr1,H1,wr1,h1,h2,fun e a w hC=>wp_scope_straight (wp_mono (h3 e a w hC) fun x' a' w' hq=>?_)⟩
    have hx:=hq.1
    cases ex <;> cases x' <;> simp only [exMatch] at hx <;> exact hq
  | .loop c,p,hc,hk,fr,H,wr,k,r,h=>by
    simp only [code] at h
    have hb:=code_sim hcf c (2 * p) hc.1 hk
    cases hl:lf p with
    | none =>
      rw [hl] at h
      simp only at h
      cases hls:live p with
      | none=>rw [hls] at h; cases h
      | some ls=>rw [hls] at h; exact loop_sim hb h
    | some L =>
      rw [hl] at h
      simp only at h
      have hL:=hc.2 L hl
      by_cases hok:okAVs (pickAll fr L.live) ∧ okH H
      · obtain ⟨N,hN⟩:=hL.ok _ _ _ _ _ h hok.1 hok.2
        obtain ⟨ex,fr1,H1,wr1,h1,h2,h3⟩:=loop_sim hb hN
        refine ⟨ex,mkFr L.outs (pickAll fr1 L.outs),H1,wr1,h1,h2,fun e a w hC=>wp_mono (h3 e a w hC) fun x' a' w' hq=>?_⟩
        obtain ⟨hx,e1,g1,g2,g3,g4⟩:=hq
        exact ⟨hx,e1,⟨g1.wok,g1.hr,g1.fr.pick⟩,g2,g3,g4⟩
      · obtain ⟨ex,vs',H',wr',h1,h2⟩:=hL.nat _ _ _ _ _ h
        exact ⟨ex,mkFr L.outs vs',H',wr',h2,h1,fun e a w hC=>absurd ⟨pick_ok hC hL.lt,hC.hr.ok⟩ hok⟩
  | .goto _,p,hc,hk,fr,H,wr,k,r,h=>by simp [code] at h
  | .rangeFunc g ps x y,p,hc,hk,fr,H,wr,k,r,h=>by
    simp only [code] at h
    cases hl:lf p with
    | none=>rw [hl] at h; cases h
    | some L =>
      rw [hl] at h
      simp only at h
      have hL:=hc L hl
      by_cases hok:okAVs (pickAll fr L.live) ∧ okH H
      · obtain ⟨ex,vs',H',wr',h1,h2,h3⟩:=hL.ok _ _ _ _ _ h hok.1 hok.2
        exact ⟨ex,mkFr L.outs vs',H',wr',h1,h2,fun e a w hC=>h3 K fr e a w rfl hC⟩
      · obtain ⟨ex,vs',H',wr',h1,h2⟩:=hL.nat _ _ _ _ _ h
        exact ⟨ex,mkFr L.outs vs',H',wr',h2,h1,fun e a w hC=>absurd ⟨pick_ok hC hL.lt,hC.hr.ok⟩ hok⟩
end Go.Vm
namespace Go.Vm
variable {P:Program} {n:Nat} {A:AbsR} {e:Env} {s:RS} {a:Act} {w:World} {o:Oper} {cf:CallK} {cfg:Cfg}
theorem downs_length (base:Nat):∀ cs:List AV,(down.downs base cs).length = cs.length
  | []=>rfl
  | _ :: r=>by simp [down.downs,downs_length base r]
mutual
theorem up_eq:∀ a:AV,up a = shift 1 a
  | .undef=>by simp [up,shift]
  | .bool _=>by simp [up,shift]
  | .int _ _=>by simp [up,shift]
  | .str _=>by simp [up,shift]
  | .slice _ _ _=>by simp [up,shift]
  | .ptr l i o=>by simp [up,shift,Nat.add_comm]
  | .nilp=>by simp [up,shift]
  | .cptr cs o=>by simp only [up,shift,ups_eq cs]
  | .func f x c=>by simp only [up,shift,ups_eq x,ups_eq c]
  | .nilf=>by simp [up,shift]
  | .agg cs=>by simp only [up,shift,ups_eq cs]
  | .tuple cs=>by simp only [up,shift,ups_eq cs]
  | .row cs lv=>by simp only [up,shift,ups_eq cs]
theorem ups_eq:∀ as:List AV,up.ups as = shift.shifts 1 as
  | []=>by simp [up.ups,shift.shifts]
  | a :: r=>by simp only [up.ups,shift.shifts,up_eq a,ups_eq r]
end
theorem ups_get:∀ (as:List AV) (i:Nat),(up.ups as)[i]? = (as[i]?).map up
  | [],i=>by simp [up.ups]
  | a :: r,0=>by simp [up.ups]
  | a :: r,i + 1=>by simp [up.ups,ups_get r i]
def inF:Pl → Pl
  | .io i j=>.slot i j
  | .ob l i=>.ob (l + 1) i
  | .cell l i o=>.cell (l + 1) i o
  | p=>p
instance:ObF inF:=⟨fun p=>by unfold inF; split <;> rfl⟩
def Env.enter (e:Env):Env:={ e.ren inF with rho:=[] :: e.rho }
theorem enter_dr (e:Env) (l:Nat):e.enter.dr (l + 1) = (e.dr l).ren inF:=rfl
theorem enter_hr {S:Stack} (h:HR A e S w):HR A e.enter ([] :: S) w:=by
  refine ⟨⟨rfl,h.par⟩,fun l i x hx=>?_⟩
  cases l with
  | zero=>simp [getH,nth] at hx
  | succ l =>
    simp only [getH] at hx
    obtain ⟨b,hb,c,ty,fz,k1,k2,k3,k4⟩:=h.ob l i x hx
    refine ⟨b,hb,c,ty,fz,k1,Env.ren_own (f:=inF) k2,k3,?_⟩
    cases x with
    | abs _ _=>exact k4
    | map _=>trivial
    | cells cs =>
      refine ⟨k4.1,fun o av u g1 g2=>?_⟩
      rw [enter_dr]
      exact VR.ren (by simp [inF]) (by simp) (k4.2 o av u g1 g2)
def args0 (N:Nat) (vs:Array Value):Act:={ tmps:=vs ++ Array.replicate (N - vs.size) undef,defers:=[] }
theorem enter_cr {S:Stack} {args:List AV} {vs:Array Value} {N:Nat} (hw:WOK e w) (h:HR A e S w) (ha:ArgsR e args vs.toList) (hN:args.length ≤ N):CR N A e.enter (nthD (up.ups args)) ([] :: S) (args0 N vs) w:=by
  have hl:args.length = vs.size:=by simpa using ha.1
  refine ⟨⟨hw.holds,fun b p m hb=>(hw.ren (f:=inF)).free b p m hb⟩,enter_hr h,⟨by simp [args0]; omega,fun t ht=>?_⟩⟩
  rw [nthD_eq,ups_get]
  cases hx:args[t]? with
  | none=>simp [VR]
  | some x =>
    have hlt:t < args.length:=(List.getElem?_eq_some_iff.1 hx).1
    have hv:vs.toList[t]? = some (vs[t]'(by omega)):=by simp [show t < vs.size by omega]
    have h1:=ha.2 t x _ hx hv
    have hat:Act.at (args0 N vs) t = vs[t]'(by omega):=by
      simp only [Act.at,args0,Array.getD_eq_getD_getElem?]
      rw [Array.getElem?_append_left (by omega),Array.getElem?_eq_getElem (by omega)]
      rfl
    rw [hat]
    simp only [Option.map_some,Option.getD_some]
    rw [up_eq]
    refine VR.shift (e:=e.enter) 1 x _ _ _ ?_
    show VR (e.ren inF) _ _ x _
    exact VR.ren (by simp [inF]) (by simp [inF]) h1
mutual
theorem VR.down {e e':Env} {base:Nat} (hc:e'.cl = e.cl) (ho:e'.own = e.own) (hr:∀ l i b,rhoAt e.rho (l + 1) i = some b → rhoAt e'.rho l i = some b):∀ (a:AV) (p:Option Pl) (q:Option (Nat → Pl)) (v:Value),
    ((∀ i b,rhoAt e.rho 0 i = some b → rhoAt e'.rho 0 (base + i) = some b) ∨ local? 0 a = false) → VR e p q a v → VR e' p q (down base a) v
  | .undef,_,_,_,_,_=>by simp [Vm.down,VR]
  | .bool b,_,_,_,_,h=>by simpa [Vm.down,VR] using h
  | .int k n,_,_,_,_,h=>by simpa [Vm.down,VR] using h
  | .str s,_,_,_,_,h=>by simpa [Vm.down,VR] using h
  | .slice T xs lv,_,_,_,_,h=>by
    simp only [Vm.down,VR] at h ⊢
    refine ⟨by rw [hc]; exact h.1,?_⟩
    have h2:=h.2
    cases lv with
    | view=>trivial
    | full=>exact h2
    | nn=>exact h2
    | nilv=>exact h2
    | own=>simp only [LvR] at h2 ⊢; rw [hc,ho]; exact h2
    | mine=>simp only [LvR] at h2 ⊢; rw [hc,ho]; exact h2
  | .ptr 0 i o,_,_,_,hn,h=>by
    simp only [VR] at h
    simp only [Vm.down,VR]
    obtain ⟨b,h1,h2⟩:=h
    rcases hn with hn | hn
    · exact ⟨b,hn i b h1,h2⟩
    · simp only [local?] at hn
      rw [(ble_iff 0 i).2 (Nat.zero_le _)] at hn; cases hn
  | .ptr (l + 1) i o,_,_,_,hn,h=>by
    simp only [VR] at h
    simp only [Vm.down,VR]
    obtain ⟨b,h1,h2⟩:=h
    exact ⟨b,hr l i b h1,h2⟩
  | .nilp,_,_,_,_,h=>by simpa [Vm.down,VR] using h
  | .cptr cs o,_,_,_,hn,h=>by
    simp only [Vm.down,VR] at h ⊢; obtain ⟨b,off,h1,h2⟩:=h; exact ⟨b,off,h1,CRs.down hc ho hr cs b off (hn.imp id id) h2⟩
  | .func f a c,_,_,_,hn,h=>by
    simp only [local?,Bool.or_eq_false_iff] at hn
    simp only [Vm.down,VR] at h ⊢; obtain ⟨va,vc,h1,h2,h3⟩:=h
    exact ⟨va,vc,h1,VRs.down hc ho hr a none 0 _ (hn.imp id (·.1)) h2,VRs.down hc ho hr c none 0 _ (hn.imp id (·.2)) h3⟩
  | .nilf,_,_,_,_,h=>by simpa [Vm.down,VR] using h
  | .agg cs,_,q,_,hn,h=>by
    simp only [Vm.down,VR] at h ⊢; obtain ⟨a,h1,h2⟩:=h; exact ⟨a,h1,VRs.down hc ho hr cs q 0 _ (hn.imp id id) h2⟩
  | .tuple cs,_,q,_,hn,h=>by
    simp only [Vm.down,VR] at h ⊢; obtain ⟨a,h1,h2⟩:=h; exact ⟨a,h1,VRs.down hc ho hr cs q 0 _ (hn.imp id id) h2⟩
  | .row cs lv,_,_,_,hn,h=>by
    simp only [Vm.down,VR] at h ⊢
    obtain ⟨⟨a,len,cap,h1,h2,h3,h4,h5,h6⟩,h7⟩:=h
    refine ⟨⟨a,len,cap,h1,(downs_length base cs).trans h2,h3,h4,h5,?_⟩,?_⟩
    · rcases h6 with h | ⟨b,off,g1,g2⟩
      · exact .inl (by rw [h]; rfl)
      · exact .inr ⟨b,off,g1,CRs.down hc ho hr cs b off (hn.imp id id) g2⟩
    · cases lv with
      | view=>trivial
      | full=>exact h7
      | nn=>exact h7
      | nilv=>exact h7
      | own=>simp only [LvR] at h7 ⊢; rw [hc,ho]; exact h7
      | mine=>simp only [LvR] at h7 ⊢; rw [hc,ho]; exact h7
theorem VRs.down {e e':Env} {base:Nat} (hc:e'.cl = e.cl) (ho:e'.own = e.own) (hr:∀ l i b,rhoAt e.rho (l + 1) i = some b → rhoAt e'.rho l i = some b):∀ (as:List AV) (q:Option (Nat → Pl)) (j:Nat) (vs:List Value),
    ((∀ i b,rhoAt e.rho 0 i = some b → rhoAt e'.rho 0 (base + i) = some b) ∨ local?.locals? 0 as = false) → VRs e q j as vs → VRs e' q j (down.downs base as) vs
  | [],_,_,_,_,h=>by rw [VRs.nil] at h; simp [Vm.down.downs,VRs.nil,h]
  | a :: r,q,j,vs,hn,h=>by
    simp only [local?.locals?,Bool.or_eq_false_iff] at hn
    rw [VRs.cons] at h; simp only [Vm.down.downs]; rw [VRs.cons]
    obtain ⟨v,s,e1,h1,h2⟩:=h
    exact ⟨v,s,e1,VR.down hc ho hr a _ none v (hn.imp id (·.1)) h1,VRs.down hc ho hr r q (j + 1) s (hn.imp id (·.2)) h2⟩
theorem CRs.down {e e':Env} {base:Nat} (hc:e'.cl = e.cl) (ho:e'.own = e.own) (hr:∀ l i b,rhoAt e.rho (l + 1) i = some b → rhoAt e'.rho l i = some b):∀ (cs:List AV) (b off:Nat),
    ((∀ i b,rhoAt e.rho 0 i = some b → rhoAt e'.rho 0 (base + i) = some b) ∨ local?.locals? 0 cs = false) → CRs e b off cs → CRs e' b off (down.downs base cs)
  | [],_,_,_,_=>by simp [Vm.down.downs,CRs]
  | a :: r,b,off,hn,h=>by
    simp only [local?.locals?,Bool.or_eq_false_iff] at hn
    simp only [Vm.down.downs,CRs] at h ⊢
    obtain ⟨⟨u,h1,h2⟩,h3⟩:=h
    exact ⟨⟨u,by rw [hc]; exact h1,VR.down hc ho hr a none none u (hn.imp id (·.1)) h2⟩,CRs.down hc ho hr r b (off + 1) (hn.imp id (·.2)) h3⟩
end
theorem VR.noq {e:Env} {p:Option Pl} {q q':Option (Nat → Pl)} {v:Value}:∀ {x:AV},VR e p q x v → VR e p q' (flatR x) v
  | .undef,h=>by simp [flatR,VR]
  | .bool _,h=>by simpa [flatR,VR] using h
  | .int _ _,h=>by simpa [flatR,VR] using h
  | .str _,h=>by simpa [flatR,VR] using h
  | .slice _ _ _,h=>by simpa only [flatR,VR] using h
  | .ptr _ _ _,h=>by simpa only [flatR,VR] using h
  | .nilp,h=>by simpa [flatR,VR] using h
  | .cptr _ _,h=>by simpa only [flatR,VR] using h
  | .func _ _ _,h=>by simpa only [flatR,VR] using h
  | .nilf,h=>by simpa [flatR,VR] using h
  | .agg cs,h=>VR.strip (.agg cs) p p q q' v h
  | .tuple vs,h=>VR.strip (.tuple vs) p p q q' v h
  | .row _ _,h=>by simpa only [flatR,VR] using h
def resB (n:Nat):List ResultVar → Bool
  | []=>true
  | .tmp t :: r=>Nat.blt t n && resB n r
  | .cell a _ :: r=>Nat.blt a n && resB n r
def resIx (t:Nat):List ResultVar → Nat
  | []=>0
  | .tmp u :: r=>bif Nat.beq u t then 0 else resIx t r + 1
  | .cell _ _ :: r=>resIx t r + 1
def distinctB (rs:List ResultVar):List ResultVar → Nat → Bool
  | [],_=>true
  | .tmp t :: r,j=>Nat.beq (resIx t rs) j && distinctB rs r (j + 1)
  | .cell _ _ :: r,j=>distinctB rs r (j + 1)
theorem distinctB_get {rs:List ResultVar}:∀ {r:List ResultVar} {j i t:Nat},distinctB rs r j = true → r[i]? = some (.tmp t) → resIx t rs = j + i
  | [],j,i,t,_,h=>by simp at h
  | x :: r,j,0,t,hd,h=>by
    simp at h; subst h
    simp only [distinctB,Bool.and_eq_true,beq_iff] at hd
    exact hd.1
  | x :: r,j,i + 1,t,hd,h=>by
    have hd':distinctB rs r (j + 1) = true:=by
      cases x with
      | tmp u=>simp only [distinctB,Bool.and_eq_true] at hd; exact hd.2
      | cell u v=>exact hd
    have:=distinctB_get hd' (by simpa using h)
    omega
def resGet (tmps:Array Value):ResultVar → Sem Value
  | .tmp t=>pure (tmps.getD t undef)
  | .cell a t=>do loadVar t (← asAddr (tmps.getD a undef))
theorem resVals_sim {fr:Fr} {H:Stack} (h:CR n A e fr H a w):∀ (rs:List ResultVar) (vs:List AV),resB n rs = true → resVals P fr H rs = some vs →
    ∃ us,(rs.mapM (resGet a.tmps)).run P w = .ok us w ∧ vs.length = us.length ∧ rs.length = us.length ∧ ∀ (j:Nat) (v:AV) (u:Value),vs[j]? = some v → us[j]? = some u → VR e none none v u ∨ ∃ t,rs[j]? = some (.tmp t) ∧ VR e (some (.slot t 0)) (some fun i=>.slot t (i + 1)) v u
  | [],vs,hb,hr=>by simp [resVals] at hr; subst hr; exact ⟨[],by simp,rfl,rfl,by simp⟩
  | .tmp t :: rs,vs,hb,hr=>by
    simp only [resB,Bool.and_eq_true,blt_iff] at hb
    simp only [resVals] at hr
    cases hrest:resVals P fr H rs with
    | none=>rw [hrest] at hr; cases hr
    | some q =>
      rw [hrest] at hr
      cases hr
      obtain ⟨us,k1,k2,k2',k3⟩:=resVals_sim h rs q hb.2 hrest
      refine ⟨Act.at a t :: us,?_,by simp [k2],by simp [k2'],fun j v u hv hu=>?_⟩
      · simp [List.mapM_cons,resGet,k1,Act.at]
      · cases j with
        | zero=>simp at hv hu; subst hv; subst hu; exact .inr ⟨t,by simp,h.fr.val t hb.1⟩
        | succ j =>
          rcases k3 j v u (by simpa using hv) (by simpa using hu) with g | ⟨t',g1,g2⟩
          · exact .inl g
          · exact .inr ⟨t',by simpa using g1,g2⟩
  | .cell x t :: rs,vs,hb,hr=>by
    simp only [resB,Bool.and_eq_true,blt_iff] at hb
    simp only [resVals] at hr
    have hvx:=h.fr.val x hb.1
    cases hx:fr x with
    | ptr l i off =>
      rw [hx] at hr hvx
      simp only [VR] at hvx
      obtain ⟨b,hb0,hb2⟩:=hvx
      simp only at hr
      cases hlo:Nat.blt off mapO with
      | false=>rw [hlo] at hr; cases hr
      | true =>
      rw [hlo,cond_true] at hr
      rw [pval_lt hlo] at hb2
      cases hg:getH H l i with
      | none=>rw [hg] at hr; cases hr
      | some ob =>
        rw [hg] at hr
        cases ob with
        | abs _ _=>cases hr
        | map _=>cases hr
        | cells cs =>
          simp only at hr
          split at hr
          · rename_i v q hok hv hrest
            cases hr
            obtain ⟨us,k1,k2,k2',k3⟩:=resVals_sim h rs q hb.2 hrest
            obtain ⟨d,hd⟩:=okT_iff hok
            obtain ⟨b',hb',c,ty,fz,h1,h2,h3,h4⟩:=h.hr.ob l i _ hg
            rw [hb0] at hb'; cases hb'
            simp only at h4
            obtain ⟨u,hrun,hcase⟩:=loadVar_sim (P:=P) (b:=b) (off0:=0) (off:=off) (us:=c.toList) w hd hv h4.1 (fun i u hu=>cell_of_cells h1 i u hu)
            rw [Nat.zero_add] at hrun
            have hvr:VR e none none (strip (shiftV l v)) u:=by
              rcases hcase with ⟨_,rfl,rfl⟩ | ⟨_,g1,g2⟩
              · refine VR.strip _ none none (some fun o=>.cell l i (off + o)) none _ (VR.shiftV ?_)
                simp only [VR]
                exact ⟨_,rfl,by simpa using h4.vrs.cut off (sizeB P t)⟩
              · exact VR.strip _ (some (.cell l i off)) none none none u (VR.shiftV (h4.2 off v u g1 g2))
            refine ⟨u :: us,?_,by simp [k2],by simp [k2'],fun j v' u' hv' hu'=>?_⟩
            · have hat:a.tmps.getD x undef = .pointer (some ⟨b,off,none⟩):=hb2
              simp only [List.mapM_cons,resGet,hat,asAddr,Sem.run_bind,Sem.run_pure,Result.andThen_ok,hrun,k1]
            · cases j with
              | zero=>simp at hv' hu'; subst hv'; subst hu'; exact .inl hvr
              | succ j =>
                rcases k3 j v' u' (by simpa using hv') (by simpa using hu') with g | ⟨t',g1,g2⟩
                · exact .inl g
                · exact .inr ⟨t',by simpa using g1,g2⟩
          · cases hr
    | _=>rw [hx] at hr; cases hr
def exitF (rs:List ResultVar) (base:Nat):Pl → Pl
  | .ob 0 i=>.ob 0 (base + i)
  | .ob (l + 1) i=>.ob l i
  | .cell 0 i o=>.cell 0 (base + i) o
  | .cell (l + 1) i o=>.cell l i o
  | .slot t j=>match rs with
    | [_]=>.io 0 j
    | rs=>.io 0 (resIx t rs + 1)
  | p=>p
instance (rs:List ResultVar) (base:Nat):ObF (exitF rs base):=⟨fun p=>by
  unfold exitF
  repeat' split
  all_goals rfl⟩
def tupOf:List Value → Value
  | [u]=>u
  | us=>.tuple us.toArray
theorem results_run {fn:Func} {tmps:Array Value} {us:List Value} (h:(fn.results.toList.mapM (resGet tmps)).run P w = .ok us w):(results fn tmps).run P w = .ok (tupOf us) w:=by
  have hm:(fn.results.mapM (resGet tmps)).run P w = .ok us.toArray w:=by
    rw [Array.mapM_eq_mapM_toList]
    simp [h]
  have:results fn tmps = (do let vs ← fn.results.mapM (resGet tmps); pure (if h:vs.size = 1 then vs[0] else .tuple vs)):=by
    unfold results
    congr 1
  rw [this,Sem.run_bind,hm,Result.andThen_ok,Sem.run_pure]
  congr 1
  match us with
  | []=>rfl
  | [u]=>rfl
  | u :: v :: r=>simp [tupOf]
theorem resOf_sim {rs:List ResultVar} {vs:List AV} {us:List Value} {base:Nat} (hd:distinctB rs rs 0 = true) (hl:vs.length = us.length) (hl':rs.length = us.length)
    (h:∀ (j:Nat) (v:AV) (u:Value),vs[j]? = some v → us[j]? = some u → VR e none none v u ∨ ∃ t,rs[j]? = some (.tmp t) ∧ VR e (some (.slot t 0)) (some fun i=>.slot t (i + 1)) v u) :
    VR (e.ren (exitF rs base)) (some (.io 0 0)) (some fun j=>.io 0 (j + 1)) (resOf vs) (tupOf us):=by
  match vs,us,rs,hl,hl' with
  | [v],[u],[r],_,_ =>
    simp only [resOf]
    rcases h 0 v u (by simp) (by simp) with g | ⟨t,g1,g2⟩
    · exact (VR.ren0 g).weak
    · exact VR.ren (by simp [exitF]) (by simp [exitF]) g2
  | [],[],[],_,_=>simp only [resOf,mapN,VR]; exact ⟨#[],rfl,by simp [VRs]⟩
  | v1 :: v2 :: vs,u1 :: u2 :: us,r1 :: r2 :: rs,hl,hl' =>
    simp only [resOf,VR]
    refine ⟨_,rfl,VRs.of (by simp [mapN_eq] at hl ⊢; omega) fun j x u hx hu=>?_⟩
    rw [mapN_eq,List.getElem?_map] at hx
    cases hv:(v1 :: v2 :: vs)[j]? with
    | none=>rw [hv] at hx; cases hx
    | some v =>
      rw [hv] at hx
      simp only [Option.map_some,Option.some.injEq] at hx
      subst hx
      rcases h j v u hv hu with g | ⟨t,g1,g2⟩
      · exact VR.noq (q:=none) (VR.ren0 g).weak
      · have hix:=distinctB_get hd g1
        refine VR.noq (q:=some fun i=>exitF (r1 :: r2 :: rs) base (.slot t (i + 1))) (VR.ren (fun y hy=>?_) (fun f hf=>?_) g2)
        · cases hy
          simp [exitF,hix]
        · cases hf; exact ⟨_,rfl,fun _=>rfl⟩
end Go.Vm
namespace Go.Vm
variable {P:Program} {n:Nat} {A:AbsR} {e:Env} {s:RS} {a:Act} {w:World} {o:Oper} {cf:CallK} {cfg:Cfg}
theorem memWr_outer:∀ (wr:Wr) (l i:Nat),memWr l i (outer wr) = memWr (l + 1) i wr
  | [],l,i=>rfl
  | (0,x) :: r,l,i=>by
    simp only [outer,memWr,memWr_outer r l i]
    have:Nat.beq (l + 1) 0 = false:=beq_false.2 (Nat.succ_ne_zero _)
    simp [this]
  | (m + 1,x) :: r,l,i=>by
    simp only [outer,memWr,memWr_outer r l i]
    have:Nat.beq (l + 1) (m + 1) = Nat.beq l m:=by
      cases h:Nat.beq l m with
      | true=>exact (beq_iff _ _).2 (by rw [(beq_iff _ _).1 h])
      | false=>exact beq_false.2 (by have:=beq_false.1 h; omega)
    rw [this]
def tailRho:Rho → Rho
  | _ :: R=>R
  | []=>[]
def absRho:Rho → Rho
  | r :: r0 :: R=>(r0 ++ r) :: R
  | R=>R
def Env.leave (e:Env) (rs:List ResultVar) (base:Nat) (R:Rho):Env:={ e.ren (exitF rs base) with rho:=R }
theorem leave_grow {e1:Env} {w':World} {rs:List ResultVar} {base:Nat} {R:Rho} {wr:Wr} (hG:Grow1 e.enter w e1 w' wr) (hR:∀ l i b,rhoAt e.rho l i = some b → rhoAt R l i = some b):Grow e w (e1.leave rs base R) w' (outer wr) where
  os:=hG.os
  tape:=hG.tape
  output:=hG.output
  size:=hG.size
  cl:=hG.cl
  stay:=fun b hb ho=>by
    have h0:e.enter.own b = none ∨ ∃ p m,e.enter.own b = some (.hid p,m):=by
      rcases ho with ho | ⟨p,m,ho⟩
      · left; simp [Env.enter,Env.ren,ho]
      · right; exact ⟨p,m,by simp [Env.enter,Env.ren,ho,inF]⟩
    obtain ⟨g1,g2,g3⟩:=hG.stay b hb h0
    refine ⟨g1,?_,g3⟩
    rcases ho with ho | ⟨p,m,ho⟩
    · have:e1.own b = none:=by rw [g2]; simp [Env.enter,Env.ren,ho]
      simp [Env.leave,Env.ren,this,ho]
    · have:e1.own b = some (.hid p,m):=by rw [g2]; simp [Env.enter,Env.ren,ho,inF]
      simp [Env.leave,Env.ren,this,ho,exitF]
  rho:=fun l i b hb=>hR _ _ _ hb
  obs:=fun l i b hb hm=>hG.obs l i b hb (by rw [← memWr_outer]; exact hm)
theorem leave_hr1 {e1:Env} {w':World} {rs:List ResultVar} {l:List Ob} {S:Stack} (h:HR A e1 (l :: S) w'):HR A (e1.leave rs 0 (tailRho e1.rho)) S w':=by
  obtain ⟨rho,own,cl⟩:=e1
  have hpar:=h.par
  cases rho with
  | nil=>simp [Par] at hpar
  | cons r R =>
    simp only [Par] at hpar
    refine ⟨hpar.2,fun l' i x hx=>?_⟩
    obtain ⟨b,hb,c,ty,fz,k1,k2,k3,k4⟩:=h.ob (l' + 1) i x hx
    refine ⟨b,hb,c,ty,fz,k1,by have:=Env.ren_own (f:=exitF rs 0) k2; exact this,k3,?_⟩
    cases x with
    | abs _ _=>exact k4
    | map _=>trivial
    | cells cs =>
      refine ⟨k4.1,fun o av u g1 g2=>?_⟩
      have hv:=k4.2 o av u g1 g2
      exact VR.ren (f:=exitF rs 0) (e:=Env.dr ⟨r :: R,own,cl⟩ (l' + 1)) (by simp [exitF]) (by simp) hv
theorem downOb_hb {m:Nat} {x:Ob} {q:Option Obj} {c:Array Value} {ty:TypeId} {fz:Nat × Nat} (k:HB q c ty fz x):HB q c ty fz (downOb m x):=by
  cases x <;> exact k
theorem leave_hr2 {e1:Env} {w':World} {rs:List ResultVar} {l l0:List Ob} {S:Stack} (h:HR A e1 (l :: l0 :: S) w'):HR A (e1.leave rs (lenN l0) (absRho e1.rho)) (app l0 (downObs (lenN l0) l) :: S) w':=by
  obtain ⟨rho,own,cl⟩:=e1
  have hpar:=h.par
  match rho,hpar with
  | r :: r0 :: R,hpar =>
    simp only [Par] at hpar
    have hdl:∀ (l:List Ob) (b:Nat),(downObs b l).length = l.length:=by
      intro l b; induction l with
      | nil=>rfl
      | cons x l ih=>simp [downObs,ih]
    have hdg:∀ (l:List Ob) (b i:Nat),(downObs b l)[i]? = (l[i]?).map (downOb b):=by
      intro l b; induction l with
      | nil=>intro i; simp [downObs]
      | cons x l ih=>intro i; cases i <;> simp [downObs,ih]
    refine ⟨⟨by simp [app_eq,hdl,hpar.1,hpar.2.1],hpar.2.2⟩,fun l' i x hx=>?_⟩
    cases l' with
    | succ l' =>
      obtain ⟨b,hb,c,ty,fz,k1,k2,k3,k4⟩:=h.ob (l' + 2) i x (by simpa only [getH] using hx)
      refine ⟨b,hb,c,ty,fz,k1,by have:=Env.ren_own (f:=exitF rs (lenN l0)) k2; exact this,k3,?_⟩
      cases x with
      | abs _ _=>exact k4
      | map _=>trivial
      | cells cs =>
        refine ⟨k4.1,fun o av u g1 g2=>?_⟩
        have hv:=k4.2 o av u g1 g2
        exact VR.ren (f:=exitF rs (lenN l0)) (e:=Env.dr ⟨r :: r0 :: R,own,cl⟩ (l' + 2)) (by simp [exitF]) (by simp) hv
    | zero =>
      simp only [getH,nth_eq,app_eq] at hx
      rcases get_append hx with hx | ⟨hi,hx⟩
      · obtain ⟨b,hb,c,ty,fz,k1,k2,k3,k4⟩:=h.ob 1 i x (by simpa only [getH,nth_eq] using hx)
        have hil:i < l0.length:=(List.getElem?_eq_some_iff.1 hx).1
        have hrho:∀ j b,rhoAt (r0 :: R) 0 j = some b → rhoAt ((r0 ++ r) :: R) 0 j = some b:=by
          intro j b hj
          simp only [rhoAt,nth_eq] at hj ⊢
          rw [List.getElem?_append_left (List.getElem?_eq_some_iff.1 hj).1]; exact hj
        refine ⟨b,hrho i b (by simpa only [rhoAt] using hb),c,ty,fz,k1,by have:=Env.ren_own (f:=exitF rs (lenN l0)) k2; exact this,k3,?_⟩
        cases x with
        | abs _ _=>exact k4
        | map _=>trivial
        | cells cs =>
          refine ⟨k4.1,fun o av u g1 g2=>?_⟩
          have hv:=k4.2 o av u g1 g2
          have h1:=VR.ren (f:=exitF rs (lenN l0)) (e:=Env.dr ⟨r :: r0 :: R,own,cl⟩ 1) (p':=some (.cell 0 i o)) (q':=none) (by simp [exitF]) (by simp) hv
          exact VR.mono (e:=(Env.dr ⟨r :: r0 :: R,own,cl⟩ 1).ren (exitF rs (lenN l0))) (e':=(Env.leave ⟨r :: r0 :: R,own,cl⟩ rs (lenN l0) (absRho (r :: r0 :: R))).dr 0) (fun m j b hj=>by
            cases m with
            | zero=>exact hrho j b hj
            | succ m=>exact hj) (ClLe.refl _) av _ _ _ _ u (fun y hy=>⟨y,hy,⟨fun b n h=>⟨h,fun _ h=>h⟩⟩⟩) (fun f hf=>⟨f,hf,fun j=>⟨fun b n h=>⟨h,fun _ h=>h⟩⟩⟩) h1
      · rw [hdg] at hx
        cases hy:l[i - l0.length]? with
        | none=>rw [hy] at hx; cases hx
        | some y =>
          rw [hy] at hx
          simp only [Option.map_some,Option.some.injEq] at hx
          subst hx
          obtain ⟨b,hb,c,ty,fz,k1,k2,k3,k4⟩:=h.ob 0 (i - l0.length) y (by simpa only [getH,nth_eq] using hy)
          have hii:lenN l0 + (i - l0.length) = i:=by rw [lenN_eq]; omega
          have hown:=Env.ren_own (f:=exitF rs (lenN l0)) k2
          simp only [exitF,hii] at hown
          refine ⟨b,?_,c,ty,fz,downOb_hb k1,hown,k3,?_⟩
          · have hb':r[i - l0.length]? = some b:=by have:nth r (i - l0.length) = some b:=hb; rwa [nth_eq] at this
            show nth (r0 ++ r) i = some b
            rw [nth_eq,List.getElem?_append_right (by rw [hpar.2.1]; exact hi),hpar.2.1]
            exact hb'
          · cases y with
            | abs _ _=>exact k4
            | map _=>trivial
            | cells cs =>
              have hds:∀ (cs:List AV) (b:Nat),(down.downs b cs).length = cs.length:=by
                intro cs b; induction cs with
                | nil=>rfl
                | cons x cs ih=>simp [down.downs,ih]
              have hdsg:∀ (cs:List AV) (b i:Nat),(down.downs b cs)[i]? = (cs[i]?).map (down b):=by
                intro cs b; induction cs with
                | nil=>intro i; simp [down.downs]
                | cons x cs ih=>intro i; cases i <;> simp [down.downs,ih]
              refine ⟨by rw [hds]; exact k4.1,fun o av u g1 g2=>?_⟩
              rw [hdsg] at g1
              cases hc:cs[o]? with
              | none=>rw [hc] at g1; cases g1
              | some x =>
                rw [hc] at g1
                simp only [Option.map_some,Option.some.injEq] at g1
                subst g1
                have hv:=k4.2 o x u hc g2
                have h1:=VR.ren (f:=exitF rs (lenN l0)) (e:=Env.dr ⟨r :: r0 :: R,own,cl⟩ 0) (p':=some (.cell 0 i o)) (q':=none) (by simp [exitF,hii]) (by simp) hv
                exact VR.down (e:=(Env.dr ⟨r :: r0 :: R,own,cl⟩ 0).ren (exitF rs (lenN l0))) (e':=(Env.leave ⟨r :: r0 :: R,own,cl⟩ rs (lenN l0) (absRho (r :: r0 :: R))).dr 0) (base:=lenN l0) rfl rfl (fun m j b hj=>by
                  cases m with
                  | zero =>
                    have hj':r0[j]? = some b:=by have:nth r0 j = some b:=hj; rwa [nth_eq] at this
                    show nth (r0 ++ r) j = some b
                    rw [nth_eq,List.getElem?_append_left (List.getElem?_eq_some_iff.1 hj').1]; exact hj'
                  | succ m=>exact hj) x _ _ u (.inl fun j b hj=>by
                    have hj':r[j]? = some b:=by have:nth r j = some b:=hj; rwa [nth_eq] at this
                    show nth (r0 ++ r) (lenN l0 + j) = some b
                    rw [nth_eq,lenN_eq,List.getElem?_append_right (by omega),hpar.2.1]
                    simpa using hj') h1
def tailK (P:Program) (own:Bool) (rs:List ResultVar) (fr:Fr) (H:Stack) (wr:Wr) (k:Res → Option Res):Option Res :=
  match resVals P fr H rs,H with
  | some vs,l :: S' =>
    let v:=bif own then resOf vs else strip (resOf vs)
    bif local? 0 v then
      match S' with
      | l0 :: S0=>k (down (lenN l0) v,outer wr,app l0 (downObs (lenN l0) l) :: S0)
      | []=>none
    else k (down 0 v,outer wr,S')
  | _,_=>none
theorem tail_sim {own:Bool} {fn:Func} {fr:Fr} {H:Stack} {wr:Wr} {k:Res → Option Res} {r:Res} (hb:resB n fn.results.toList = true) (hd:distinctB fn.results.toList fn.results.toList 0 = true) (h:tailK P own fn.results.toList fr H wr k = some r) :
    ∃ res,k res = some r ∧ ∀ e w e1 a' w',CR n A e1 fr H a' w' → Grow1 e.enter w e1 w' wr → RhoLe1 e.enter e1 → ∃ v,(results fn a'.tmps).run P w' = .ok v w' ∧ Ends A e w res v w':=by
  unfold tailK at h
  cases hrv:resVals P fr H fn.results.toList with
  | none=>rw [hrv] at h; cases h
  | some vs =>
    rw [hrv] at h
    cases H with
    | nil=>cases h
    | cons l S' =>
      simp only at h
      have hval:∀ e1 a' w',CR n A e1 fr (l :: S') a' w' → ∃ v,(results fn a'.tmps).run P w' = .ok v w' ∧ ∀ base,VR (e1.ren (exitF fn.results.toList base)) (some (.io 0 0)) (some fun j=>.io 0 (j + 1)) (bif own then resOf vs else strip (resOf vs)) v:=by
        intro e1 a' w' hC
        obtain ⟨us,k1,k2,k2',k3⟩:=resVals_sim hC fn.results.toList vs hb hrv
        refine ⟨_,results_run k1,fun base=>?_⟩
        have hv:=resOf_sim (e:=e1) (base:=base) hd k2 k2' k3
        cases own with
        | true=>exact hv
        | false=>exact VR.strip _ _ _ _ _ _ hv
      rcases cond_some h with ⟨hl,h⟩ | ⟨hl,h⟩
      · cases S' with
        | nil=>cases h
        | cons l0 S0 =>
          refine ⟨_,h,fun e w e1 a' w' hC hG hR=>?_⟩
          obtain ⟨v,k1,k2⟩:=hval e1 a' w' hC
          have hpar:=hC.hr.par
          obtain ⟨rho,own1,cl1⟩:=e1
          match rho,hpar with
          | r1 :: r0 :: R,hpar =>
            simp only [Par] at hpar
            have hR':∀ l i b,rhoAt e.rho l i = some b → rhoAt (absRho (r1 :: r0 :: R)) l i = some b:=by
              intro l i b hb0
              have:=hR l i b hb0
              simp only [rhoAt] at this
              cases l with
              | zero =>
                simp only [rhoAt,nth_eq] at this
                simp only [absRho,rhoAt,nth_eq]
                rw [List.getElem?_append_left (List.getElem?_eq_some_iff.1 this).1]; exact this
              | succ l=>simpa only [absRho,rhoAt] using this
            refine ⟨v,k1,Env.leave ⟨r1 :: r0 :: R,own1,cl1⟩ fn.results.toList (lenN l0) (absRho (r1 :: r0 :: R)),⟨fun b o x hx=>hC.wok.holds b o x hx,fun b p m hp=>(hC.wok.ren (f:=exitF fn.results.toList (lenN l0))).free b p m hp⟩,leave_hr2 hC.hr,?_,leave_grow hG hR',hR'⟩
            refine VR.down (e:=Env.ren (exitF fn.results.toList (lenN l0)) ⟨r1 :: r0 :: R,own1,cl1⟩) (e':=Env.leave ⟨r1 :: r0 :: R,own1,cl1⟩ fn.results.toList (lenN l0) (absRho (r1 :: r0 :: R))) (base:=lenN l0) rfl rfl (fun m j b hj=>?_) _ _ _ v (.inl fun j b hj=>?_) (k2 (lenN l0))
            · cases m with
              | zero =>
                have hj':r0[j]? = some b:=by have:nth r0 j = some b:=hj; rwa [nth_eq] at this
                show nth (r0 ++ r1) j = some b
                rw [nth_eq,List.getElem?_append_left (List.getElem?_eq_some_iff.1 hj').1]; exact hj'
              | succ m=>exact hj
            · have hj':r1[j]? = some b:=by have:nth r1 j = some b:=hj; rwa [nth_eq] at this
              show nth (r0 ++ r1) (lenN l0 + j) = some b
              rw [nth_eq,lenN_eq,List.getElem?_append_right (by omega),hpar.2.1]
              simpa using hj'
      · refine ⟨_,h,fun e w e1 a' w' hC hG hR=>?_⟩
        obtain ⟨v,k1,k2⟩:=hval e1 a' w' hC
        have hpar:=hC.hr.par
        obtain ⟨rho,own1,cl1⟩:=e1
        match rho,hpar with
        | r1 :: R,hpar =>
          have hR':∀ l i b,rhoAt e.rho l i = some b → rhoAt (tailRho (r1 :: R)) l i = some b:=by
            intro l i b hb0
            have:=hR l i b hb0
            simpa only [rhoAt,tailRho] using this
          refine ⟨v,k1,Env.leave ⟨r1 :: R,own1,cl1⟩ fn.results.toList 0 (tailRho (r1 :: R)),⟨fun b o x hx=>hC.wok.holds b o x hx,fun b p m hp=>(hC.wok.ren (f:=exitF fn.results.toList 0)).free b p m hp⟩,leave_hr1 hC.hr,?_,leave_grow hG hR',hR'⟩
          exact VR.down (e:=Env.ren (exitF fn.results.toList 0) ⟨r1 :: R,own1,cl1⟩) (e':=Env.leave ⟨r1 :: R,own1,cl1⟩ fn.results.toList 0 (tailRho (r1 :: R))) (base:=0) rfl rfl (fun m j b hj=>hj) _ _ _ v (.inr hl) (k2 0)
theorem HB.ne {x:Ob} {q:Option Obj} {c:Array Value} {ty:TypeId} {fz:Nat × Nat} {z:Option (List Deferred)} (k:HB q c ty fz x):q ≠ Option.some (Obj.deferred z):=by
  cases x with
  | map _=>obtain ⟨_,es,clk,k,_⟩:=k; rw [k]; simp
  | cells _=>rw [show q = _ from k]; simp
  | abs _ _=>rw [show q = _ from k]; simp
theorem FB.ne {q:Option Obj} {p:Pl} {c:Array Value} {ty:TypeId} {lo hi:Nat} {z:Option (List Deferred)} (k:FB q p c ty lo hi):q ≠ Option.some (Obj.deferred z):=by
  rcases k with ⟨k,_⟩ | ⟨_,_,es,clk,k⟩ <;> rw [k] <;> simp
theorem put_ne {w:World} {D b:Nat} {o:Obj} {z:Option (List Deferred)} (hD:w.heap[D]? = some (.deferred z)) (h:w.heap[b]? ≠ some (.deferred z)):(w.putObj D o).heap[b]? = w.heap[b]? :=
  World.putObj_heap_other fun he=>by rw [he,hD] at h; exact h rfl
theorem CR.put {fr:Fr} {H:Stack} {D:Nat} {o:Obj} (h:CR n A e fr H a w) (hD:w.heap[D]? = some (.deferred (some []))):CR n A e fr H a (w.putObj D o):=by
  refine ⟨⟨fun b q x hx=>?_,fun b p m hp=>?_⟩,⟨h.hr.par,fun l i x hx=>?_⟩,h.fr⟩
  · have h1:=h.wok.holds b q x hx
    have hne:b ≠ D:=fun he=>by simp [World.cell?,he,hD] at h1
    simp only [World.cell?] at h1 ⊢
    rw [World.putObj_heap_other hne]; exact h1
  · obtain ⟨c,ty,lo,hi,k1,k2,k3⟩:=h.wok.free b p m hp
    exact ⟨c,ty,lo,hi,by rw [put_ne hD k1.ne]; exact k1,k2,k3⟩
  · obtain ⟨b,hb,c,ty,fz,k1,k2,k3,k4⟩:=h.hr.ob l i x hx
    exact ⟨b,hb,c,ty,fz,by rw [put_ne hD k1.ne]; exact k1,k2,k3,k4⟩
theorem Grow1.put {e1:Env} {w1:World} {wr:Wr} {D:Nat} {o:Obj} (h:Grow1 e w e1 w1 wr) (hD:w.heap.size ≤ D) (hlt:∀ l i b,rhoAt e.rho (l + 1) i = some b → b < w.heap.size):Grow1 e w e1 (w1.putObj D o) wr where
  os:=h.os
  tape:=h.tape
  output:=h.output
  size:=by rw [World.putObj_size]; exact h.size
  cl:=h.cl
  stay:=fun b hb ho=>by
    obtain ⟨h1,h2,h3⟩:=h.stay b hb ho
    exact ⟨by rw [World.putObj_heap_other (by omega)]; exact h1,h2,h3⟩
  obs:=fun l i b hb hm=>by
    have:=hlt l i b hb
    rw [World.putObj_heap_other (by omega)]; exact h.obs l i b hb hm
theorem rho_lt {S:Stack} (h:HR A e S w):∀ l i b,rhoAt e.rho l i = some b → b < w.heap.size:=by
  intro l i b hb
  have hg:=h.par.get l i
  rw [hb] at hg
  obtain ⟨x,hx⟩:=Option.isSome_iff_exists.1 (show (getH S l i).isSome = true by rw [← hg]; rfl)
  obtain ⟨b',hb',c,ty,fz,k1,_⟩:=h.ob l i x hx
  rw [hb] at hb'; cases hb'
  exact heap_lt k1.some
theorem leaves_marks {fn:Func} {fr:Fr} {H:Stack} {e1:Env} {m0:Nat} {G:World → Prop} {R:Ending → World → Prop} (hput:∀ (w':World) (D:Nat) (o:Obj),G w' → m0 ≤ D → G (w'.putObj D o))
    (hfin:∀ w',CR n A e1 fr H a w' → G w' → ∃ v,(results fn a.tmps).run P w' = .ok v w' ∧ R (.returned v) w') :
    ∀ (ms:List Nat) (w':World),CR n A e1 fr H a w' → G w' → ms.Nodup → (∀ D ∈ ms,m0 ≤ D ∧ w'.heap[D]? = some (.deferred (some [])) ∧ e1.own D = none) → LeavesInM Fence.wide 0 P fn a.tmps R (ms.map markD) .returning w'
  | [],w',hC,hG,_,_=>by
    obtain ⟨v,h1,h2⟩:=hfin w' hC hG
    exact ⟨v,h1,h2⟩
  | D :: ms,w',hC,hG,hn,hm=>by
    obtain ⟨q1,q2,q3⟩:=hm D (by simp)
    rw [List.nodup_cons] at hn
    refine ⟨by simp,.inl ⟨D,w'.putObj D (.deferred none),rfl,run_takeDeferred q2,?_⟩⟩
    refine leaves_marks hput hfin ms _ (hC.put q2) (hput _ _ _ hG q1) hn.2 fun D' hD'=>?_
    obtain ⟨p1,p2,p3⟩:=hm D' (by simp [hD'])
    have hne:D' ≠ D:=fun he=>hn.1 (he ▸ hD')
    exact ⟨p1,by rw [World.putObj_heap_other hne]; exact p2,p3⟩
theorem body_sim (hcf:CfOK P A cf) {lf:Nat → Option LoopSum} {g:Nat} {fn:Func} {c:Code} {args:List AV} {S:Stack} {k:Res → Option Res} {r:Res} (hf:P.funcs[g]? = some fn) (hb:fn.body = some c) (hc:CodeOK A P cf cfg lf (cfg.live g) fn.ntmps c 1) (hres:resB fn.ntmps fn.results.toList = true) (hd:distinctB fn.results.toList fn.results.toList 0 = true) (h:body P cf cfg lf g args S k = some r) :
    ∃ res,k res = some r ∧ ∀ e vs w,WOK e w → HR A e S w → ArgsR e args vs.toList → Calls P g vs w fun | .returned v,w'=>Ends A e w res v w' | _,_=>False:=by
  unfold body at h
  rw [hf] at h
  simp only [hb] at h
  obtain ⟨hN,h⟩:=cond_none h
  have hN':args.length ≤ fn.ntmps:=by rw [← lenN_eq]; exact (ble_iff _ _).1 hN
  obtain ⟨ex,fr1,H1,wr1,h1,h2,h3⟩:=code_sim (K:=fun _=>False) hcf c 1 hc (CodeK.none c) _ _ _ _ _ h
  have hk:tailK P (cfg.ownRes g) fn.results.toList fr1 H1 wr1 k = some r ∧ ∀ x,exMatch ex x → x = .normal ∨ x = .ret:=by
    cases ex with
    | exit i=>cases h1
    | normal=>exact ⟨h1,fun x hx=>by cases x <;> simp only [exMatch] at hx; exact .inl rfl⟩
    | ret=>exact ⟨h1,fun x hx=>by cases x <;> simp only [exMatch] at hx; exact .inr rfl⟩
  obtain ⟨res,k1,k2⟩:=tail_sim hres hd hk.1
  refine ⟨res,k1,fun e vs w hw hH hA=>?_⟩
  refine callsIn_wide.1 (callsIn_of_wp_marks (F:=Fence.wide) (n:=0) hf hb trivial (wpIn_wide.2 (wp_mono (h3 e.enter (args0 fn.ntmps vs) w (enter_cr hw hH hA hN')) fun x a' w' hq=>?_)))
  obtain ⟨hx,e1,g1,g2,g3,g4⟩:=hq
  obtain ⟨ms,d1,d2,d3⟩:=g4.marks
  have hdef:a'.defers = ms.map markD:=by rw [d1]; simp [args0]
  have hl:=leaves_marks (P:=P) (fn:=fn) (R:=fun | .returned v,w'=>Ends A e w res v w' | _,_=>False) (m0:=w.heap.size) (G:=fun w''=>Grow1 e.enter w e1 w'' wr1) (fun w'' D o hG hD=>hG.put hD fun l i b hb=>rho_lt hH l i b hb) (fun w'' hC hG=>k2 e w e1 a' w'' hC hG g3) ms w' g1 g2 d2 d3
  rcases hk.2 x hx with rfl | rfl
  · show LeavesInM _ _ _ _ _ _ _ _ _
    rw [hdef]; exact hl
  · show LeavesInM _ _ _ _ _ _ _ _ _
    rw [hdef]; exact hl
end Go.Vm
