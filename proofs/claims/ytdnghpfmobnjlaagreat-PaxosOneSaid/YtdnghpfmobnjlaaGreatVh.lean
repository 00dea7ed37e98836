/- A part of an evaluator of loaded programs and of the proof that it is right. Conditions: none. -/
import Derived.Test.YtdnghpfmobnjlaaGreatVg
import Derived.Test.YtdnghpfmobnjlaaGreatVf
set_option linter.unusedVariables false
set_option linter.unusedSimpArgs false
namespace Go.Vm
open Go.RowKit (Below)
variable {Γ:Type} {K:Nat → Prop} {GR:Γ → Env → Act → World → Prop} {P:Program} {n:Nat} {A:AbsR} {e e0:Env} {s:RS} {a a0:Act} {w w0:World} {cf:CallK} {cfg:Cfg}
abbrev KontG (Γ:Type):=Ex → Fr → Stack → Wr → Γ → Option Res
abbrev Hook (Γ:Type):=Fr → Stack → Wr → Γ → KontG Γ → Option Res
structure GSum (Γ:Type) where
  live:List Nat
  outs:List Nat
  sum:List AV → Stack → Wr → Γ → (Ex → List AV → Stack → Wr → Γ → Option Res) → Option Res
def Stable (K:Nat → Prop) (GR:Γ → Env → Act → World → Prop):Prop :=
  ∀ (γ:Γ) (e:Env) (a:Act) (w:World) (e':Env) (a':Act) (w':World) (wr:Wr),GR γ e a w → Grow1 e w e' w' wr → (∀ t,K t → Act.at a' t = Act.at a t) → GR γ e' a' w'
abbrev K0:Nat → Prop:=fun _=>False
def CPostG (GR:Γ → Env → Act → World → Prop) (n:Nat) (A:AbsR) (e0:Env) (a0:Act) (w0:World) (ex:Ex) (fr:Fr) (H:Stack) (γ:Γ) (x:Exit) (a':Act) (w':World):Prop :=
  exMatch ex x ∧ ∃ e',CR n A e' fr H a' w' ∧ GL e0 w0 e' w' ∧ Kept K0 a0 w0 e' a' w' ∧ GR γ e' a' w'
def BodyG (GR:Γ → Env → Act → World → Prop) (P:Program) (n:Nat) (A:AbsR) (e0:Env) (a0:Act) (w0:World) (c:Code) (bodyC:Fr → Stack → Wr → Γ → KontG Γ → Option Res):Prop :=
  ∀ fr H wr γ (k:KontG Γ) r,bodyC fr H wr γ k = some r → ∃ ex fr' H' wr' γ',k ex fr' H' wr' γ' = some r ∧ ∀ e a w,CR n A e fr H a w → GL e0 w0 e w → Kept K0 a0 w0 e a w → GR γ e a w → c.wp P (CPostG GR n A e0 a0 w0 ex fr' H' γ') a w
theorem Kept.none {e':Env} {a':Act} {w':World} (h:Kept K a w e' a' w'):Kept K0 a w e' a' w':=⟨fun _ h=>h.elim,h.marks⟩
theorem BodyOK.ghost (hst:Stable K GR) {c:Code} {bodyC:Fr → Stack → Wr → Kont → Option Res} (h:BodyOK K P n A c bodyC):BodyG GR P n A e0 a0 w0 c (fun fr H wr γ k=>bodyC fr H wr fun ex fr H wr=>k ex fr H wr γ):=fun fr H wr γ k r hr=>by
  obtain ⟨ex,fr',H',wr',h1,_,h3⟩:=h fr H wr _ r hr
  refine ⟨ex,fr',H',wr',γ,h1,fun e a w hC hG hK hR=>wp_mono (h3 e a w hC) fun x a' w' hq=>?_⟩
  obtain ⟨hx,e1,g1,g2,g3,g4⟩:=hq
  exact ⟨hx,e1,g1,hG.grow g2,g4.none.trans hK hG.size g2,hst γ e a w e1 a' w' _ hR g2 g4.slot⟩
def loopG (body:Fr → Stack → Wr → Γ → KontG Γ → Option Res) (live:List Nat) (m:Nat):Nat → List AV → Stack → Wr → Γ → KontG Γ → Option Res
  | 0,_,_,_,_,_=>none
  | n + 1,vs,H,wr,γ,k=>body (mkFr live vs) H wr γ fun ex fr H' wr' γ' =>
    match ex with
    | .normal=>match settle m vs H (pickAll fr live) H' with
      | some (vs2,H2)=>loopG body live m n vs2 H2 wr' γ' k
      | none=>none
    | ex=>k ex fr H' wr' γ'
theorem loopG_round (hst:Stable K GR) {c:Code} {bodyC:Fr → Stack → Wr → Γ → KontG Γ → Option Res} (hbody:BodyG GR P n A e0 a0 w0 c bodyC) {live:List Nat} {m:Nat}:∀ (N:Nat) (vs:List AV) (H:Stack) (wr:Wr) (γ:Γ) (k:KontG Γ) (r:Res),loopG bodyC live m N vs H wr γ k = some r →
    ∃ ex fr' H' wr' γ',k ex fr' H' wr' γ' = some r ∧ ∀ e a w,CR n A e (mkFr live vs) H a w → GL e0 w0 e w → Kept K0 a0 w0 e a w → GR γ e a w → LWp P c (CPostG GR n A e0 a0 w0 ex fr' H' γ') a w
  | 0,vs,H,wr,γ,k,r,h=>by simp [loopG] at h
  | N + 1,vs,H,wr,γ,k,r,h=>by
    simp only [loopG] at h
    obtain ⟨ex,fr1,H1,wr1,γ1,h1,h3⟩:=hbody _ _ _ _ _ _ h
    have hpass:∀ (ex':Ex),ex' = ex → ex' ≠ .normal → k ex' fr1 H1 wr1 γ1 = some r → ∃ ex fr' H' wr' γ',k ex fr' H' wr' γ' = some r ∧ ∀ e a w,CR n A e (mkFr live vs) H a w → GL e0 w0 e w → Kept K0 a0 w0 e a w → GR γ e a w → LWp P c (CPostG GR n A e0 a0 w0 ex fr' H' γ') a w:=by
      intro ex' hex hne hk
      subst hex
      refine ⟨ex',fr1,H1,wr1,γ1,hk,fun e a w hC hG hD hR b k' cs=>?_⟩
      obtain ⟨x,a1,w1,hq,harr⟩:=h3 e a w hC hG hD hR b (.inLoop c :: k') cs
      have hx:=hq.1
      cases ex' with
      | normal=>exact absurd rfl hne
      | exit i =>
        cases x <;> simp only [exMatch] at hx
        exact ⟨_,a1,w1,hq,.pass (x:=.inLoop c) rfl (fun _ _=>.inl (by simp)) harr⟩
      | ret =>
        cases x <;> simp only [exMatch] at hx
        exact ⟨_,a1,w1,hq,.pass (x:=.inLoop c) rfl (fun _ _=>.inl (by simp)) harr⟩
    cases ex with
    | normal =>
      simp only at h1
      cases hf:settle m vs H (pickAll fr1 live) H1 with
      | none=>rw [hf] at h1; cases h1
      | some vH =>
        obtain ⟨vs2,H2⟩:=vH
        rw [hf] at h1
        simp only at h1
        obtain ⟨ex,fr',H',wr',γ',k1,k3⟩:=loopG_round hst hbody N _ _ _ _ _ _ h1
        refine ⟨ex,fr',H',wr',γ',k1,fun e a w hC hG hD hR b k' cs=>?_⟩
        obtain ⟨x,a1,w1,hq,harr⟩:=h3 e a w hC hG hD hR b (.inLoop c :: k') cs
        obtain ⟨hx,e1,g1,g2,g3,g4⟩:=hq
        cases x <;> simp only [exMatch] at hx
        obtain ⟨e2,m1,m2,m3⟩:=settle_sim g1 hf
        obtain ⟨x2,a2,w2,hq2,harr2⟩:=k3 e2 a1 w1 m1 (g2.grow (m2 [])) (g3.env (m2 [])) (hst _ _ _ _ _ _ _ _ g4 (m2 []) fun _ _=>rfl) b k' cs
        exact ⟨x2,a2,w2,hq2,.of_steps (Steps.trans harr (.one step_inLoop)) harr2⟩
    | exit i=>exact hpass (.exit i) rfl (by simp) h1
    | ret=>exact hpass .ret rfl (by simp) h1
structure LoopG (n:Nat) (bodyC:Fr → Stack → Wr → Γ → KontG Γ → Option Res) (L:GSum Γ):Prop where
  lt:∀ t ∈ L.live,t < n
  nat:∀ vs H wr γ k r,L.sum vs H wr γ k = some r → ∃ ex vs' H' wr' γ',k ex vs' H' wr' γ' = some r
  ok:∀ vs H wr γ k r,L.sum vs H wr γ k = some r → okAVs vs → okH H → ∃ N,loopG bodyC L.live (headLen H) N vs H wr γ (fun ex fr H' wr' γ'=>k ex (pickAll fr L.outs) H' wr' γ') = some r
section
variable (P cf cfg)
def codeG (lf:Nat → Option LoopSum) (live:Nat → Option (List Nat)) (hk:Nat → Option (Hook Γ)) (gl:Nat → Option (GSum Γ)):Code → Nat → Fr → Stack → Wr → Γ → KontG Γ → Option Res
  | .region id ops dr,p,fr,H,wr,γ,k=>match hk p with
    | some E=>E fr H wr γ k
    | none=>code P cf cfg lf live (.region id ops dr) p fr H wr fun ex fr H wr=>k ex fr H wr γ
  | .seq a b,p,fr,H,wr,γ,k=>codeG lf live hk gl a (2 * p) fr H wr γ fun ex fr' H' wr' γ' =>
    match ex with
    | .normal=>codeG lf live hk gl b (2 * p + 1) fr' H' wr' γ' k
    | ex=>k ex fr' H' wr' γ'
  | .cond c a b,p,fr,H,wr,γ,k=>match c with
    | .tmp t=>match fr t with
      | .bool x=>bif x then codeG lf live hk gl a (2 * p) fr H wr γ k else codeG lf live hk gl b (2 * p + 1) fr H wr γ k
      | _=>none
    | _=>none
  | .block id c,p,fr,H,wr,γ,k=>codeG lf live hk gl c (2 * p) fr H wr γ fun ex fr' H' wr' γ' =>
    match ex with
    | .exit i=>bif Nat.beq i id then k .normal fr' H' wr' γ' else k (.exit i) fr' H' wr' γ'
    | ex=>k ex fr' H' wr' γ'
  | .loop c,p,fr,H,wr,γ,k =>
    match gl p with
    | some L=>L.sum (pickAll fr L.live) H wr γ fun ex vs H' wr' γ'=>k ex (mkFr L.outs vs) H' wr' γ'
    | none=>none
  | c,p,fr,H,wr,γ,k=>code P cf cfg lf live c p fr H wr fun ex fr H wr=>k ex fr H wr γ
end
def CodeGOK (K:Nat → Prop) (GR:Γ → Env → Act → World → Prop) (P:Program) (cf:CallK) (cfg:Cfg) (lf:Nat → Option LoopSum) (live:Nat → Option (List Nat)) (hk:Nat → Option (Hook Γ)) (gl:Nat → Option (GSum Γ)) (n:Nat) (A:AbsR) (e0:Env) (a0:Act) (w0:World):Code → Nat → Prop
  | .region id ops dr,p=>match hk p with
    | some E=>BodyG GR P n A e0 a0 w0 (.region id ops dr) E
    | none=>CodeOK A P cf cfg lf live n (.region id ops dr) p ∧ CodeK K (.region id ops dr)
  | .seq x y,p=>CodeGOK K GR P cf cfg lf live hk gl n A e0 a0 w0 x (2 * p) ∧ CodeGOK K GR P cf cfg lf live hk gl n A e0 a0 w0 y (2 * p + 1)
  | .cond c x y,p=>opdB n c = true ∧ CodeGOK K GR P cf cfg lf live hk gl n A e0 a0 w0 x (2 * p) ∧ CodeGOK K GR P cf cfg lf live hk gl n A e0 a0 w0 y (2 * p + 1)
  | .block _ c,p=>CodeGOK K GR P cf cfg lf live hk gl n A e0 a0 w0 c (2 * p)
  | .loop c,p=>CodeGOK K GR P cf cfg lf live hk gl n A e0 a0 w0 c (2 * p) ∧ ∀ L,gl p = some L → LoopG n (fun fr H wr γ k=>codeG P cf cfg lf live hk gl c (2 * p) fr H wr γ k) L
  | c,p=>CodeOK A P cf cfg lf live n c p ∧ CodeK K c
theorem codeG_sim (hcf:CfOK P A cf) (hst:Stable K GR) {lf:Nat → Option LoopSum} {live:Nat → Option (List Nat)} {hk:Nat → Option (Hook Γ)} {gl:Nat → Option (GSum Γ)}:∀ (c:Code) (p:Nat),CodeGOK K GR P cf cfg lf live hk gl n A e0 a0 w0 c p → BodyG GR P n A e0 a0 w0 c (fun fr H wr γ k=>codeG P cf cfg lf live hk gl c p fr H wr γ k)
  | .region id ops dr,p,hc,fr,H,wr,γ,k,r,h=>by
    simp only [codeG] at h
    simp only [CodeGOK] at hc
    cases hE:hk p with
    | some E=>rw [hE] at h hc; exact hc fr H wr γ k r h
    | none=>rw [hE] at h hc; exact (code_sim hcf _ p hc.1 hc.2).ghost hst fr H wr γ k r h
  | .seq x y,p,hc,fr,H,wr,γ,k,r,h=>by
    simp only [codeG] at h
    simp only [CodeGOK] at hc
    obtain ⟨ex,fr1,H1,wr1,γ1,h1,h3⟩:=codeG_sim hcf hst x (2 * p) hc.1 fr H wr γ _ r h
    cases ex with
    | normal =>
      obtain ⟨ex,fr2,H2,wr2,γ2,k1,k3⟩:=codeG_sim hcf hst y (2 * p + 1) hc.2 fr1 H1 wr1 γ1 k r h1
      refine ⟨ex,fr2,H2,wr2,γ2,k1,fun e a w hC hG hK hR=>wp_seq (wp_mono (h3 e a w hC hG hK hR) fun x' a' w' hq=>?_)⟩
      obtain ⟨hx,e1,g1,g2,g3,g4⟩:=hq
      cases x' <;> simp only [exMatch] at hx
      exact k3 e1 a' w' g1 g2 g3 g4
    | exit i =>
      refine ⟨.exit i,fr1,H1,wr1,γ1,h1,fun e a w hC hG hK hR=>wp_seq (wp_mono (h3 e a w hC hG hK hR) fun x' a' w' hq=>?_)⟩
      have hx:=hq.1
      cases x' <;> simp only [exMatch] at hx
      exact hq
    | ret =>
      refine ⟨.ret,fr1,H1,wr1,γ1,h1,fun e a w hC hG hK hR=>wp_seq (wp_mono (h3 e a w hC hG hK hR) fun x' a' w' hq=>?_)⟩
      have hx:=hq.1
      cases x' <;> simp only [exMatch] at hx
      exact hq
  | .cond c x y,p,hc,fr,H,wr,γ,k,r,h=>by
    simp only [codeG] at h
    simp only [CodeGOK] at hc
    cases c with
    | tmp t =>
      simp only at h
      cases ht:fr t with
      | bool b =>
        rw [ht] at h
        simp only at h
        have hev:∀ e a w,CR n A e fr H a w → a.eval (.tmp t) = .bool b:=fun e a w hC=>by
          have:=hC.fr.val t (opdB_ok hc.1)
          rw [ht] at this
          simp only [VR] at this
          exact this
        rcases cond_some h with ⟨rfl,h⟩ | ⟨rfl,h⟩
        · obtain ⟨ex,fr1,H1,wr1,γ1,h1,h3⟩:=codeG_sim hcf hst x (2 * p) hc.2.1 fr H wr γ _ r h
          exact ⟨ex,fr1,H1,wr1,γ1,h1,fun e a w hC hG hK hR=>wp_cond (hev e a w hC) (h3 e a w hC hG hK hR)⟩
        · obtain ⟨ex,fr1,H1,wr1,γ1,h1,h3⟩:=codeG_sim hcf hst y (2 * p + 1) hc.2.2 fr H wr γ _ r h
          exact ⟨ex,fr1,H1,wr1,γ1,h1,fun e a w hC hG hK hR=>wp_cond (hev e a w hC) (h3 e a w hC hG hK hR)⟩
      | _=>rw [ht] at h; cases h
    | _=>cases h
  | .block id c,p,hc,fr,H,wr,γ,k,r,h=>by
    simp only [codeG] at h
    simp only [CodeGOK] at hc
    obtain ⟨ex,fr1,H1,wr1,γ1,h1,h3⟩:=codeG_sim hcf hst c (2 * p) hc fr H wr γ _ r h
    cases ex with
    | normal =>
      refine ⟨.normal,fr1,H1,wr1,γ1,h1,fun e a w hC hG hK hR=>wp_block (wp_mono (h3 e a w hC hG hK hR) fun x' a' w' hq=>?_)⟩
      have hx:=hq.1
      cases x' <;> simp only [exMatch] at hx
      exact hq
    | ret =>
      refine ⟨.ret,fr1,H1,wr1,γ1,h1,fun e a w hC hG hK hR=>wp_block (wp_mono (h3 e a w hC hG hK hR) fun x' a' w' hq=>?_)⟩
      have hx:=hq.1
      cases x' <;> simp only [exMatch] at hx
      exact hq
    | exit i =>
      simp only at h1
      rcases cond_some h1 with ⟨hi,h1⟩ | ⟨hi,h1⟩
      · refine ⟨.normal,fr1,H1,wr1,γ1,h1,fun e a w hC hG hK hR=>wp_block (wp_mono (h3 e a w hC hG hK hR) fun x' a' w' hq=>?_)⟩
        obtain ⟨hx,hrest⟩:=hq
        cases x' <;> simp only [exMatch] at hx
        subst hx
        simp only [Exit.inBlock]
        rw [if_pos ((beq_iff _ _).1 hi)]
        exact ⟨trivial,hrest⟩
      · refine ⟨.exit i,fr1,H1,wr1,γ1,h1,fun e a w hC hG hK hR=>wp_block (wp_mono (h3 e a w hC hG hK hR) fun x' a' w' hq=>?_)⟩
        obtain ⟨hx,hrest⟩:=hq
        cases x' <;> simp only [exMatch] at hx
        subst hx
        simp only [Exit.inBlock]
        rw [if_neg (beq_false.1 hi)]
        exact ⟨rfl,hrest⟩
  | .loop c,p,hc,fr,H,wr,γ,k,r,h=>by
    simp only [codeG] at h
    simp only [CodeGOK] at hc
    have hb:=codeG_sim hcf hst c (2 * p) hc.1
    cases hl:gl p with
    | none=>rw [hl] at h; cases h
    | some L =>
      rw [hl] at h
      simp only at h
      have hL:=hc.2 L hl
      by_cases hok:okAVs (pickAll fr L.live) ∧ okH H
      · obtain ⟨N,hN⟩:=hL.ok _ _ _ _ _ _ h hok.1 hok.2
        obtain ⟨ex,fr1,H1,wr1,γ1,h1,h3⟩:=loopG_round hst hb N _ _ _ _ _ _ hN
        refine ⟨ex,mkFr L.outs (pickAll fr1 L.outs),H1,wr1,γ1,h1,fun e a w hC hG hK hR b k' cs=>?_⟩
        obtain ⟨x,a',w',hq,harr⟩:=h3 e a w ⟨hC.wok,hC.hr,hC.fr.pick⟩ hG hK hR b k' cs
        obtain ⟨hx,e1,g1,g2,g3,g4⟩:=hq
        exact ⟨x,a',w',⟨hx,e1,⟨g1.wok,g1.hr,g1.fr.pick⟩,g2,g3,g4⟩,.of_steps (.one step_loop) harr⟩
      · obtain ⟨ex,vs',H',wr',γ',h2⟩:=hL.nat _ _ _ _ _ _ h
        exact ⟨ex,mkFr L.outs vs',H',wr',γ',h2,fun e a w hC=>absurd ⟨pick_ok hC hL.lt,hC.hr.ok⟩ hok⟩
  | .skip,p,hc,fr,H,wr,γ,k,r,h=>(code_sim hcf _ p hc.1 hc.2).ghost hst fr H wr γ k r h
  | .label _,p,hc,fr,H,wr,γ,k,r,h=>(code_sim hcf _ p hc.1 hc.2).ghost hst fr H wr γ k r h
  | .ret,p,hc,fr,H,wr,γ,k,r,h=>(code_sim hcf _ p hc.1 hc.2).ghost hst fr H wr γ k r h
  | .exit _,p,hc,fr,H,wr,γ,k,r,h=>(code_sim hcf _ p hc.1 hc.2).ghost hst fr H wr γ k r h
  | .scope c,p,hc,fr,H,wr,γ,k,r,h=>(code_sim hcf _ p hc.1 hc.2).ghost hst fr H wr γ k r h
  | .goto _,p,hc,fr,H,wr,γ,k,r,h=>(code_sim hcf _ p hc.1 hc.2).ghost hst fr H wr γ k r h
  | .rangeFunc ..,p,hc,fr,H,wr,γ,k,r,h=>(code_sim hcf _ p hc.1 hc.2).ghost hst fr H wr γ k r h
  | .refuse _,p,hc,fr,H,wr,γ,k,r,h=>(code_sim hcf _ p hc.1 hc.2).ghost hst fr H wr γ k r h
end Go.Vm
namespace Go.Vm
variable {P:Program} {ops:Array Oper} {V:Nat → Value} {a:Act} {n:Nat}
structure AtD (ops:Array Oper) (V:Nat → Value) (a:Act) (D:List Nat) (a':Act):Prop where
  size:a'.tmps.size = a.tmps.size
  defers:a'.defers = a.defers
  new:∀ i ∈ D,∀ o d,ops[i]? = some o → o.dst = some d → Act.at a' d = V i
  old:∀ t,(∀ i ∈ D,∀ o,ops[i]? = some o → o.dst ≠ some t) → Act.at a' t = Act.at a t
theorem at_put_same {a:Act} {d:Nat} {u:Value} (hd:d < a.tmps.size):Act.at (a.put (some d) u) d = u:=by
  simp only [Act.at,Act.put,Array.getD_eq_getD_getElem?,Array.getElem?_setIfInBounds]
  simp [hd]
theorem at_put_other {a:Act} {d t:Nat} {u:Value} (hd:t ≠ d):Act.at (a.put (some d) u) t = Act.at a t:=by
  simp only [Act.at,Act.put,Array.getD_eq_getD_getElem?,Array.getElem?_setIfInBounds]
  rw [if_neg (Ne.symm hd)]
theorem AtD.nil (ops:Array Oper) (V:Nat → Value) (a:Act):AtD ops V a [] a:=⟨rfl,rfl,fun i hi=>(by cases hi),fun _ _=>rfl⟩
theorem AtD.put {D:List Nat} {a':Act} (h:AtD ops V a D a') {i:Nat} {o:Oper} {d:Nat} (ho:ops[i]? = some o) (hd:o.dst = some d) (hlt:d < a.tmps.size) (hne:∀ j ∈ D,∀ o',ops[j]? = some o' → o'.dst ≠ some d):AtD ops V a (i :: D) (a'.put o.dst (V i)):=by
  rw [hd]
  refine ⟨by simp [Act.put,h.size],h.defers,fun j hj o' d' ho' hd'=>?_,fun t ht=>?_⟩
  · rcases List.mem_cons.1 hj with rfl | hj
    · rw [ho] at ho'; cases ho'
      rw [hd] at hd'; cases hd'
      exact at_put_same (by rw [h.size]; exact hlt)
    · have hdd:d' ≠ d:=fun e=>hne j hj o' ho' (by rw [hd',e])
      rw [at_put_other hdd]
      exact h.new j hj o' d' ho' hd'
  · have htd:t ≠ d:=fun e=>ht i (by simp) o ho (by rw [hd,e])
    rw [at_put_other htd]
    exact h.old t fun j hj=>ht j (by simp [hj])
theorem sorted_eq:∀ {l r:List Nat},l.Pairwise (· < ·) → r.Pairwise (· < ·) → (∀ x,x ∈ l ↔ x ∈ r) → l = r
  | [],[],_,_,_=>rfl
  | [],b :: r,_,_,h=>by have:=(h b).2 (by simp); cases this
  | a :: l,[],_,_,h=>by have:=(h a).1 (by simp); cases this
  | a :: l,b :: r,hl,hr,h=>by
    rw [List.pairwise_cons] at hl hr
    have hab:a = b:=by
      rcases List.mem_cons.1 ((h a).1 (by simp)) with e | e
      · exact e
      · rcases List.mem_cons.1 ((h b).2 (by simp)) with e' | e'
        · exact e'.symm
        · have h1:=hr.1 a e
          have h2:=hl.1 b e'
          omega
    subst hab
    congr 1
    refine sorted_eq hl.2 hr.2 fun x=>⟨fun hx=>?_,fun hx=>?_⟩
    · rcases List.mem_cons.1 ((h x).1 (by simp [hx])) with e | e
      · have:=hl.1 x hx; omega
      · exact e
    · rcases List.mem_cons.1 ((h x).2 (by simp [hx])) with e | e
      · have:=hr.1 x hx; omega
      · exact e
theorem wp_front {Q:Exit → Act → World → Prop} {W:List Nat → World} {m N:Nat} (hm:P.follows .mixedOrders = true) (hback:∀ (i:Nat) o,ops[i]? = some o → ∀ e ∈ o.after.toList,Region.binds .any e = true → e.on < i) (hN:ops.size = N) (hmN:m ≤ N)
    (htail:∀ q,m ≤ q → q < N → ∀ i,i < q → Must ops i q) (hops:∀ i,i < m → ∃ o d,ops[i]? = some o ∧ o.guard = none ∧ o.dst = some d ∧ d < a.tmps.size ∧ ∀ j o',j < m → j ≠ i → ops[j]? = some o' → o'.dst ≠ some d)
    (step:∀ D i o,i < m → ops[i]? = some o → (∀ j ∈ D,j < m) → (∀ k ∈ D,∀ j,Must ops j k → j ∈ D) → (∀ j,Must ops j i → j ∈ D) → i ∉ D → ∀ a',AtD ops V a D a' → (execOp a'.eval o).run P (W D) = .ok (.value (V i)) (W (i :: D)))
    (hend:∀ D a',(∀ i,i ∈ D ↔ i < m) → AtD ops V a D a' → wpOps P ops Q (List.range' m (N - m)) a' (W D)) (t:Nat):wpOps P ops Q (Region.schedule (P.follows .mixedOrders) ops t) a (W []):=by
  obtain ⟨hp,hpw⟩:=sched_spec hm hback t
  generalize Region.schedule (P.follows .mixedOrders) ops t = σ at hp hpw ⊢
  have hnd:σ.Nodup:=hp.nodup_iff.2 List.nodup_range
  have hmem:∀ x,x ∈ σ ↔ x < N:=fun x=>by rw [hp.mem_iff,List.mem_range,hN]
  have hmust:∀ j i,Must ops j i → j < i:=fun j i h=>by
    induction h with
    | edge h1 h2 h3=>exact hback _ _ h1 _ h2 h3
    | trans _ _ h1 h2=>omega
  have key:∀ (r D:List Nat) (a':Act),(∀ x,x < N ↔ (x ∈ D ∨ x ∈ r)) → r.Nodup → (∀ x ∈ D,x ∉ r) → r.Pairwise (fun a b=>¬ Must ops b a) → (∀ x ∈ D,x < m) → (∀ k ∈ D,∀ j,Must ops j k → j ∈ D) → AtD ops V a D a' → wpOps P ops Q r a' (W D):=by
    intro r
    induction r with
    | nil =>
      intro D a' hx _ _ _ hD _ hA
      have hall:m = N:=by
        rcases Nat.lt_or_ge m N with h | h
        · have:=(hx m).1 h
          rcases this with h' | h'
          · have:=hD m h'; omega
          · cases h'
        · omega
      have:=hend D a' (fun i=>⟨fun hi=>hD i hi,fun hi=>by
        rcases (hx i).1 (by omega) with h | h
        · exact h
        · cases h⟩) hA
      rw [← hall,Nat.sub_self] at this
      exact this
    | cons i r ih =>
      intro D a' hx hn hDr hw hD hcl hA
      rw [List.nodup_cons] at hn
      rw [List.pairwise_cons] at hw
      have hiN:i < N:=(hx i).2 (.inr (by simp))
      have hdep:∀ j,Must ops j i → j ∈ D:=fun j hj=>by
        have hlt:=hmust j i hj
        rcases (hx j).1 (by omega) with h | h
        · exact h
        · rcases List.mem_cons.1 h with e | h
          · omega
          · exact absurd hj (hw.1 j h)
      rcases Nat.lt_or_ge i m with him | him
      · obtain ⟨o,d,ho,hg,hd,hlt,hne⟩:=hops i him
        have hiD:i ∉ D:=fun h=>hDr i h (by simp)
        have hrun:=step D i o him ho hD hcl hdep hiD a' hA
        simp only [wpOps,ho]
        have hwant:Region.wanted o (yielded ops a'.tmps) = true:=by unfold Region.wanted; rw [hg]
        rw [if_pos hwant]
        left
        unfold Oper.wp
        rw [hrun,Oper.upon_value]
        refine ih (i :: D) _ (fun x=>?_) hn.2 (fun x hxD=>?_) hw.2 (fun x hxD=>?_) (fun k hkD j hj=>?_) (hA.put ho hd hlt fun j hj o' ho'=>hne j o' (hD j hj) (fun e=>hiD (e ▸ hj)) ho')
        · rw [hx x,List.mem_cons,List.mem_cons]
          constructor
          · rintro (h | h | h)
            · exact .inl (.inr h)
            · exact .inl (.inl h)
            · exact .inr h
          · rintro ((h | h) | h)
            · exact .inr (.inl h)
            · exact .inl h
            · exact .inr (.inr h)
        · rcases List.mem_cons.1 hxD with rfl | h
          · exact hn.1
          · exact fun hr=>hDr x h (by simp [hr])
        · rcases List.mem_cons.1 hxD with rfl | h
          · exact him
          · exact hD x h
        · rcases List.mem_cons.1 hkD with rfl | h
          · exact List.mem_cons_of_mem _ (hdep j hj)
          · exact List.mem_cons_of_mem _ (hcl k h j hj)
      · have hall:∀ x,x ∈ D ↔ x < m:=fun x=>⟨hD x,fun hxm=>hdep x (htail i him hiN x (by omega))⟩
        have him':i = m:=by
          rcases Nat.lt_or_ge m i with h | h
          · have:=hdep m (htail i him hiN m h)
            have:=hD m this; omega
          · omega
        have hsort:(i :: r).Pairwise (· < ·):=by
          have hnd':(i :: r).Pairwise (· ≠ ·):=List.nodup_cons.2 hn
          refine List.Pairwise.imp_of_mem ?_ ((show (i :: r).Pairwise (fun a b=>¬ Must ops b a) from List.pairwise_cons.2 hw).and hnd')
          intro x y hxm hym hxy
          have hy:¬ y < m:=fun h=>hDr y ((hall y).2 h) hym
          have hxr:¬ x < m:=fun h=>hDr x ((hall x).2 h) hxm
          rcases Nat.lt_trichotomy x y with h | h | h
          · exact h
          · exact absurd h hxy.2
          · exact absurd (htail x (by omega) ((hx x).2 (.inr hxm)) y h) hxy.1
        have hrest:i :: r = List.range' m (N - m):=by
          refine sorted_eq hsort (List.pairwise_lt_range' ..) fun x=>?_
          rw [List.mem_range'_1]
          constructor
          · intro h
            have h1:=(hx x).2 (.inr h)
            have h2:¬ x < m:=fun h'=>hDr x ((hall x).2 h') h
            omega
          · intro h
            rcases (hx x).1 (by omega) with h' | h'
            · have:=(hall x).1 h'; omega
            · exact h'
        rw [hrest]
        exact hend D a' hall hA
  exact key σ [] a (fun x=>by rw [hmem]; simp) hnd (fun x hx=>(by cases hx)) hpw (fun x hx=>(by cases hx)) (fun x hx=>(by cases hx)) (AtD.nil ops V a)
end Go.Vm
namespace Go.Vm
variable {P:Program} {cf:CallK} {cfg:Cfg} {A:AbsR} {n:Nat} {e:Env} {a:Act} {w:World}
instance hid_ob:ObF Pl.hid:=⟨fun p=>rfl⟩
open Classical in
noncomputable def peekE (e:Env) (x:Nat → Nat → Option Value):Env where
  rho:=e.rho
  own:=fun b=>match e.own b with
    | some (p,k)=>if ∃ l i,rhoAt e.rho l i = some b then some (p,k) else some (.hid p,k)
    | none=>none
  cl:=fun b o=>match e.cl b o with
    | some v=>some v
    | none=>x b o
theorem peek_cl (e:Env) (x:Nat → Nat → Option Value):ClLe e.cl (peekE e x).cl:=fun b o v h=>by simp only [peekE,h]
theorem peek_wok {x:Nat → Nat → Option Value} (h:WOK e w) (hx:∀ b o v,x b o = some v → w.cell? ⟨b,o,none⟩ = some v):WOK (peekE e x) w:=by
  refine ⟨fun b o v hv=>?_,fun b p k hp=>?_⟩
  · simp only [peekE] at hv
    cases hc:e.cl b o with
    | some u=>rw [hc] at hv; cases hv; exact h.holds b o v hc
    | none=>rw [hc] at hv; exact hx b o v hv
  · simp only [peekE] at hp
    cases ho:e.own b with
    | none=>rw [ho] at hp; cases hp
    | some q =>
      obtain ⟨q,m⟩:=q
      rw [ho] at hp
      simp only at hp
      split at hp
      · cases hp; exact h.free b p k ho
      · cases hp; exact Free.ren (f:=Pl.hid) (h.free b q k ho)
theorem peek_hr {H:Stack} {x:Nat → Nat → Option Value} (h:HR A e H w) (hx:∀ l i b o,rhoAt e.rho l i = some b → x b o = none):HR A (peekE e x) (dropH H) w:=by
  refine ⟨Par.drop h.par,fun l i y hy=>?_⟩
  rw [getH_drop] at hy
  cases hg:getH H l i with
  | none=>rw [hg] at hy; cases hy
  | some z =>
    rw [hg] at hy
    simp only [Option.map_some,Option.some.injEq] at hy
    subst hy
    obtain ⟨b,hb,c,ty,fz,k1,k2,k3,k4⟩:=h.ob l i z hg
    refine ⟨b,hb,c,ty,fz,dropOb_hb k1,?_,fun o=>?_,?_⟩
    · simp only [peekE,k2]
      rw [if_pos ⟨l,i,hb⟩]
    · simp only [peekE,k3 o]
      exact hx l i b o hb
    · cases z with
      | abs _ _=>exact k4
      | map _=>trivial
      | cells cs =>
        simp only [dropOb,mapN_eq]
        refine ⟨by rw [List.length_map]; exact k4.1,fun o av u g1 g2=>?_⟩
        rw [List.getElem?_map] at g1
        cases hc:cs[o]? with
        | none=>rw [hc] at g1; cases g1
        | some y =>
          rw [hc] at g1
          simp only [Option.map_some,Option.some.injEq] at g1
          subst g1
          exact keepI_VR (e:=e.dr l) (e':=(peekE e x).dr l) (fun _ _ _ h=>h) (k4.2 o y u hc g2)
theorem peek {ops:Array Oper} (hreg:RegOK n A P cf cfg ops) (hob:opsB n ops.toList = true) {fr fr2:Fr} {H:Stack} (hC:CR n A e fr H a w) {x:Nat → Nat → Option Value} (hx:∀ b o v,x b o = some v → w.cell? ⟨b,o,none⟩ = some v) (hx2:∀ l i b o,rhoAt e.rho l i = some b → x b o = none) (hfr:FRel n (peekE e x) fr2 a)
    (hmap:∀ d,mapDst ops.toList d → fr2 d = .undef) {s':RS} (hs:steps P cf (cfgN ops.toList cfg) true ops.toList (List.range ops.toList.length) ⟨fr2,noAls,dropH H,[],noLds⟩ = some s') (hwr:s'.wr = []) (t:Nat) {Q:Exit → Act → World → Prop}
    (hQ:∀ a' w',(∀ b,b < w.heap.size → w'.heap[b]? = w.heap[b]?) → w.heap.size ≤ w'.heap.size → w'.os = w.os → w'.tape = w.tape → w'.output = w.output → (∃ e3,FRel n e3 s'.fr a') → Keep (fun t=>∀ o ∈ ops.toList,o.dst ≠ some t) a a' → Q .normal a' w') :
    wpOps P ops Q (Region.schedule (P.follows .mixedOrders) ops t) a w:=by
  refine hreg hob (fun t=>∀ o ∈ ops.toList,o.dst ≠ some t) (fun o ho d hd hK=>hK o ho hd) ⟨fr2,noAls,dropH H,[],noLds⟩ s' rfl rfl hmap hs t (peekE e x) a w ⟨peek_wok hC.wok hx,peek_hr hC.hr hx2,hfr,fun t src _ hs=>by simp [noAls] at hs⟩ Q fun a' w' hP=>?_
  obtain ⟨e3,k1,k2,k3,k4⟩:=hP
  refine hQ a' w' (fun b hb=>?_) k2.size k2.os k2.tape k2.output ⟨e3,k1.fr⟩ k4
  by_cases hr:∃ l i,rhoAt e.rho l i = some b
  · obtain ⟨l,i,hli⟩:=hr
    exact k2.obs l i b hli (by rw [hwr]; rfl)
  · refine (k2.stay b hb ?_).1
    simp only [peekE]
    cases ho:e.own b with
    | none=>exact .inl rfl
    | some q =>
      obtain ⟨q,m⟩:=q
      simp only
      rw [if_neg hr]
      exact .inr ⟨q,m,rfl⟩
end Go.Vm
namespace Go.Vm
open Go.RowKit (Below)
variable {Γ:Type} {P:Program} {cf:CallK} {cfg:Cfg} {A:AbsR} {n:Nat} {e0:Env} {a0:Act} {w0:World}
def codeGB (P:Program) (n:Nat) (ps ks:List Nat):Code → Nat → Bool
  | .region _ ops dr,p=>memN p ps || (opsB n ops.toList && (!dr || (drawB P ops.toList || lateB P ops.toList)) && ops.toList.all fun o=>match o.dst with | some d=>!memN d ks | none=>true)
  | .seq x y,p=>codeGB P n ps ks x (2 * p) && codeGB P n ps ks y (2 * p + 1)
  | .cond c x y,p=>opdB n c && (codeGB P n ps ks x (2 * p) && codeGB P n ps ks y (2 * p + 1))
  | .block _ c,p=>codeGB P n ps ks c (2 * p)
  | .loop c,p=>codeGB P n ps ks c (2 * p)
  | .skip,_=>true
  | .label _,_=>true
  | .ret,_=>true
  | .exit _,_=>true
  | _,_=>false
def regsG:Code → Nat → List (Nat × Nat × Array Oper × Bool)
  | .region id ops dr,p=>[(p,id,ops,dr)]
  | .seq x y,p=>regsG x (2 * p) ++ regsG y (2 * p + 1)
  | .cond _ x y,p=>regsG x (2 * p) ++ regsG y (2 * p + 1)
  | .block _ c,p=>regsG c (2 * p)
  | .loop c,p=>regsG c (2 * p)
  | _,_=>[]
theorem codeGB_ok (hcf:CfOK P A cf) (hm:P.follows .mixedOrders = true) {GR:Γ → Env → Act → World → Prop} {lf:Nat → Option LoopSum} {live:Nat → Option (List Nat)} {hk:Nat → Option (Hook Γ)} {gl:Nat → Option (GSum Γ)} {ps ks:List Nat} (hps:∀ p,memN p ps = (hk p).isSome):∀ (c:Code) (p:Nat),codeGB P n ps ks c p = true →
    (∀ x ∈ regsG c p,∀ E,hk x.1 = some E → BodyG GR P n A e0 a0 w0 (.region x.2.1 x.2.2.1 x.2.2.2) E) →
    (∀ x ∈ loopList c p,∀ L,gl x.1 = some L → LoopG n (fun fr H wr γ k=>codeG P cf cfg lf live hk gl x.2 (2 * x.1) fr H wr γ k) L) → CodeGOK (fun t=>t ∈ ks) GR P cf cfg lf live hk gl n A e0 a0 w0 c p
  | .region id ops dr,p,h,hr,hl=>by
    simp only [CodeGOK]
    cases hE:hk p with
    | some E=>exact hr (p,id,ops,dr) (by simp [regsG]) E hE
    | none =>
      simp only [codeGB] at h
      have:memN p ps = false:=by rw [hps,hE]; rfl
      rw [this,Bool.false_or] at h
      simp only [Bool.and_eq_true,Bool.or_eq_true,Bool.not_eq_true',List.all_eq_true] at h
      obtain ⟨⟨h1,h2⟩,h3⟩:=h
      refine ⟨⟨h1,fun hd=>?_⟩,fun o ho d hd hin=>?_⟩
      · rcases h2 with h2 | h2 | h2
        · rw [hd] at h2; cases h2
        · exact (draw_ok hcf (drawB_ok hm h2)).reg hcf
        · obtain ⟨j,k,hL⟩:=lateB_ok hm h2
          exact late_reg hcf hL
      · have:=h3 o ho
        rw [hd] at this
        simp only [Bool.not_eq_true'] at this
        rw [(memN_iff d ks).2 hin] at this
        cases this
  | .seq x y,p,h,hr,hl=>by
    simp only [codeGB,Bool.and_eq_true] at h
    exact ⟨codeGB_ok hcf hm hps x _ h.1 (fun z hz=>hr z (by simp [regsG,hz])) (fun z hz=>hl z (by simp [loopList,hz])),codeGB_ok hcf hm hps y _ h.2 (fun z hz=>hr z (by simp [regsG,hz])) (fun z hz=>hl z (by simp [loopList,hz]))⟩
  | .cond c x y,p,h,hr,hl=>by
    simp only [codeGB,Bool.and_eq_true] at h
    exact ⟨h.1,codeGB_ok hcf hm hps x _ h.2.1 (fun z hz=>hr z (by simp [regsG,hz])) (fun z hz=>hl z (by simp [loopList,hz])),codeGB_ok hcf hm hps y _ h.2.2 (fun z hz=>hr z (by simp [regsG,hz])) (fun z hz=>hl z (by simp [loopList,hz]))⟩
  | .block _ c,p,h,hr,hl=>by
    simp only [codeGB] at h
    exact codeGB_ok hcf hm hps c _ h (fun z hz=>hr z (by simp [regsG,hz])) (fun z hz=>hl z (by simp [loopList,hz]))
  | .loop c,p,h,hr,hl=>by
    simp only [codeGB] at h
    exact ⟨codeGB_ok hcf hm hps c _ h (fun z hz=>hr z (by simp [regsG,hz])) (fun z hz=>hl z (by simp [loopList,hz])),fun L hL=>hl (p,c) (by simp [loopList]) L hL⟩
  | .skip,p,h,hr,hl=>⟨trivial,trivial⟩
  | .label _,p,h,hr,hl=>⟨trivial,trivial⟩
  | .ret,p,h,hr,hl=>⟨trivial,trivial⟩
  | .exit _,p,h,hr,hl=>⟨trivial,trivial⟩
  | .goto _,p,h,hr,hl=>by simp [codeGB] at h
  | .scope _,p,h,hr,hl=>by simp [codeGB] at h
  | .rangeFunc ..,p,h,hr,hl=>by simp [codeGB] at h
  | .refuse _,p,h,hr,hl=>by simp [codeGB] at h
def funGB (P:Program) (g:Nat) (ps ks:List Nat):Bool :=
  match P.funcs[g]? with
  | some fn=>match fn.body with
    | some c=>codeGB P fn.ntmps ps ks c 1 && (resB fn.ntmps fn.results.toList && distinctB fn.results.toList fn.results.toList 0)
    | none=>false
  | none=>false
def funRegsG (P:Program) (g:Nat):List (Nat × Nat × Array Oper × Bool) :=
  match P.funcs[g]? with
  | some fn=>match fn.body with
    | some c=>regsG c 1
    | none=>[]
  | none=>[]
def bodyG (P:Program) (cf:CallK) (cfg:Cfg) (lf:Nat → Option LoopSum) (hk:Nat → Option (Hook Γ)) (gl:Nat → Option (GSum Γ)) (g:Nat) (args:List AV) (γ0:Γ):Option Res :=
  match P.funcs[g]? with
  | some fn=>match fn.body with
    | some c=>bif Nat.ble (lenN args) fn.ntmps then
        codeG P cf cfg lf (cfg.live g) hk gl c 1 (nthD (up.ups args)) [[]] [] γ0 fun ex fr H wr γ =>
        match ex with
        | .exit _=>none
        | _=>match resVals P fr H fn.results.toList with
          | some vs=>some (strip (resOf vs),[],[])
          | none=>none
      else none
    | none=>none
  | none=>none
theorem law_callsG (hcf:CfOK P A cf) (hm:P.follows .mixedOrders = true) {GR:Nat → Γ → Env → Act → World → Prop} {γ0:Γ} {ps ks:List Nat} (hst:∀ m0,Stable (fun t=>t ∈ ks) (GR m0)) (hγ:∀ m0 e a w,GR m0 γ0 e a w) {lf:Nat → Option LoopSum} {hk:Nat → Option (Hook Γ)} {gl:Nat → Option (GSum Γ)} {g:Nat} {args:List AV} (hb:funGB P g ps ks = true) (hps:∀ p,memN p ps = (hk p).isSome)
    (hE:∀ e0 a0 w0,∀ x ∈ funRegsG P g,∀ E,hk x.1 = some E → BodyG (GR w0.heap.size) P (ntm P g) A e0 a0 w0 (.region x.2.1 x.2.2.1 x.2.2.2) E)
    (hL:∀ x ∈ funLoops P g,∀ L,gl x.1 = some L → LoopG (ntm P g) (fun fr H wr γ k=>codeG P cf cfg lf (cfg.live g) hk gl x.2 (2 * x.1) fr H wr γ k) L) (h:bodyG P cf cfg lf hk gl g args γ0 = some (.bool true,[],[]))
    (w:World) (vs:Array Value) (ha:ArgsP w args vs.toList):Calls P g vs w fun e w'=>e = .returned (.bool true) ∧ Below w.heap.size w w':=by
  unfold funGB at hb
  unfold funRegsG at hE
  unfold funLoops at hL
  unfold bodyG at h
  cases hf:P.funcs[g]? with
  | none=>rw [hf] at hb; cases hb
  | some fn =>
    have hntm:ntm P g = fn.ntmps:=by unfold ntm; rw [hf]
    rw [hf] at hb hE h hL
    simp only at h hE hL
    cases hbd:fn.body with
    | none=>simp only [hbd] at hb; cases hb
    | some c =>
      simp only [hbd,Bool.and_eq_true] at hb hE h hL
      obtain ⟨hN,h⟩:=cond_none h
      have hN':args.length ≤ fn.ntmps:=by rw [← lenN_eq]; exact (ble_iff _ _).1 hN
      have hcr:=enter_cr (A:=A) (envOf_ok w) (envOf_hr w) ⟨ha.get.1,fun i x v hx hv=>ha.get.2 i x v hx hv _ _⟩ hN'
      rw [hntm] at hE hL
      obtain ⟨ex,fr1,H1,wr1,γ1,h1,h3⟩:=codeG_sim (e0:=(envOf w).enter) (a0:=args0 fn.ntmps vs) (w0:=w) hcf (hst w.heap.size) c 1 (codeGB_ok (n:=fn.ntmps) (A:=A) (GR:=GR w.heap.size) hcf hm hps c 1 hb.1 (fun x hx E hxE=>hE _ _ w x hx E hxE) hL) _ _ _ _ _ _ h
      refine callsIn_wide.1 (callsIn_of_wp_marks (F:=Fence.wide) (n:=0) hf hbd trivial (wpIn_wide.2 (wp_mono (h3 _ _ w hcr ⟨rfl,rfl,rfl,Nat.le_refl _,fun b hb=>⟨rfl,rfl,fun _=>rfl⟩⟩ (Kept.refl _ _ _ _ _) (hγ _ _ _ _)) fun x a' w' hq=>?_)))
      obtain ⟨hx,e1,g1,g2,g3,_⟩:=hq
      have hfin:∀ w',CR fn.ntmps A e1 fr1 H1 a' w' → GL (envOf w).enter w e1 w' → ∀ r,(match resVals P fr1 H1 fn.results.toList with | some vs=>some (strip (resOf vs),([]:Wr),([]:Stack)) | none=>none) = some r → r = (.bool true,[],[]) → ∃ v,(results fn a'.tmps).run P w' = .ok v w' ∧ ((Ending.returned v = .returned (.bool true)) ∧ Below w.heap.size w w'):=by
        intro w' g1 g2 r hr hrr
        subst hrr
        cases hv:resVals P fr1 H1 fn.results.toList with
        | none=>rw [hv] at hr; cases hr
        | some rs =>
          rw [hv] at hr
          simp only [Option.some.injEq,Prod.mk.injEq,and_true] at hr
          obtain ⟨us,k1,k2,k2',k3⟩:=resVals_sim g1 fn.results.toList rs hb.2.1 hv
          refine ⟨_,results_run k1,?_,⟨g2.os,g2.tape,g2.output,g2.size,fun k hk=>(g2.blk k hk).1⟩⟩
          have hvr:=VR.strip _ _ (some (.io 0 0)) _ (some fun j=>.io 0 (j + 1)) _ (resOf_sim (e:=e1) (base:=0) hb.2.2 k2 k2' k3)
          rw [hr] at hvr
          simp only [VR] at hvr
          rw [hvr]
      obtain ⟨ms,d1,d2,d3⟩:=g3.marks
      have hdef:a'.defers = ms.map markD:=by rw [d1]; simp [args0]
      have hl:∀ r,(match resVals P fr1 H1 fn.results.toList with | some vs=>some (strip (resOf vs),([]:Wr),([]:Stack)) | none=>none) = some r → r = (.bool true,[],[]) → LeavesInM Fence.wide 0 P fn a'.tmps (fun e w'=>e = .returned (.bool true) ∧ Below w.heap.size w w') (ms.map markD) .returning w':=fun r hr hrr =>
        leaves_marks (P:=P) (fn:=fn) (m0:=w.heap.size) (G:=fun w''=>GL (envOf w).enter w e1 w'') (fun w'' D o hG hD=>hG.put hD) (fun w'' hC hG=>hfin w'' hC hG r hr hrr) ms w' g1 g2 d2 d3
      cases ex with
      | exit i=>cases h1
      | normal =>
        cases x <;> simp only [exMatch] at hx
        show LeavesInM _ _ _ _ _ _ _ _ _
        rw [hdef]; exact hl _ h1 rfl
      | ret =>
        cases x <;> simp only [exMatch] at hx
        show LeavesInM _ _ _ _ _ _ _ _ _
        rw [hdef]; exact hl _ h1 rfl
def gsumT (live outs:List Nat) (f:List AV → Stack → Γ → Tr (Ex × List AV × Stack × Wr × Γ)):GSum Γ:=⟨live,outs,fun vs H wr γ k=>(f vs H γ).run fun y=>match y with | (ex,vs',H',w,γ')=>k ex vs' H' (app w wr) γ'⟩
theorem gsumT_ok {body:Fr → Stack → Wr → Γ → KontG Γ → Option Res} {live outs:List Nat} {f:List AV → Stack → Γ → Tr (Ex × List AV × Stack × Wr × Γ)} (hlt:∀ t ∈ live,t < n)
    (h:∀ vs H wr γ ex vs' H' w γ',(f vs H γ).val = some (ex,vs',H',w,γ') → okAVs vs → okH H → ∃ N,∀ k:Ex → List AV → Stack → Wr → Γ → Option Res,loopG body live (headLen H) N vs H wr γ (fun ex fr H' wr' γ'=>k ex (pickAll fr outs) H' wr' γ') = k ex vs' H' (app w wr) γ'):LoopG n body (gsumT live outs f) where
  lt:=hlt
  nat:=fun vs H wr γ k r hs=>by
    obtain ⟨⟨ex,vs',H',w,γ'⟩,h1,h2,h3⟩:=Tr.run_val hs
    exact ⟨ex,vs',H',_,γ',h2⟩
  ok:=fun vs H wr γ k r hs ha hh=>by
    obtain ⟨⟨ex,vs',H',w,γ'⟩,h1,h2,h3⟩:=Tr.run_val hs
    obtain ⟨N,hN⟩:=h vs H wr γ ex vs' H' w γ' h1 ha hh
    exact ⟨N,(hN k).trans h2⟩
end Go.Vm
