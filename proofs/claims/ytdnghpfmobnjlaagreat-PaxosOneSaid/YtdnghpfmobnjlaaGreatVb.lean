/- A part of an evaluator of loaded programs and of the proof that it is right. Conditions: none. -/
import Derived.Test.YtdnghpfmobnjlaaGreatVa
import Derived.ChangeKeysEq
import Derived.Laws.Unary
import Derived.Laws.Cover3
import Derived.Laws.Strings
import Derived.Laws.StructEq
import Derived.Laws.BytesArg
import Derived.Laws.Slices
import Derived.Laws.IdiomCopy
set_option linter.unusedVariables false
set_option linter.unusedSimpArgs false
namespace Go.Vm
variable {P:Program} {n:Nat} {A:AbsR} {e:Env} {s:RS} {a:Act} {w:World}
def okOp (n:Nat):Operand → Prop
  | .tmp t=>t < n
  | _=>True
def Done (P:Program) (n:Nat) (A:AbsR) (o:Oper) (e:Env) (a:Act) (w:World) (s':RS) (v:AV) (l:Option Src):Prop :=
  ∃ e' w' u,((execOp a.eval o).run P w = .ok (.value u) w' ∨ ((execOp a.eval o).run P w = .ok .skip w' ∧ u = undef)) ∧
    RR n A e' s' a w' ∧ VR e' (some (.io 0 0)) (some fun j=>.io 0 (j + 1)) v u ∧ (∀ src,l = some src → AlV n e' w' a u src) ∧ Grow e w e' w' s'.wr ∧ RhoLe e e'
theorem Done.pure {o:Oper} {u:Value} {v:AV} {l:Option Src} (h:RR n A e s a w) (hx:(execOp a.eval o).run P w = .ok (.value u) w) (hv:VR e none none v u) (hl:∀ src,l = some src → AlV n e w a u src):Done P n A o e a w s v l :=
  ⟨e,w,u,.inl hx,h,VR.mono (fun _ _ _ h=>h) (ClLe.refl _) _ none _ none _ u (by simp) (by simp) hv,hl,Grow.refl _ _ _,fun _ _ _ h=>h⟩
theorem holdsB_has {k:IntKind} {m:Int} (h:holdsB k m = true):k.has m:=by
  simp only [holdsB,Bool.and_eq_true,decide_eq_true_eq] at h; exact h
theorem constLeaf_sim (t:TypeId):∀ v:Value,VR e none none (constLeaf P t v) v
  | .bool b=>by simp [constLeaf,VR]
  | .int k m=>by
    simp only [constLeaf]
    cases h:holdsB k m with
    | true=>simp [VR,holdsB_has h]
    | false=>simp [VR]
  | .string z=>by
    simp only [constLeaf]
    cases h:Nat.ble z.size maxInt with
    | true=>simp only [cond_true,VR]; exact ⟨z,rfl,rfl,(ble_iff _ _).1 h⟩
    | false=>simp [VR]
  | .pointer none=>by simp [constLeaf,VR]
  | .pointer (some x)=>by simp [constLeaf,VR]
  | .slice none 0 0=>by
    simp only [constLeaf]
    split
    · split
      · simp only [VR]
        exact ⟨⟨none,0,0,rfl,rfl,Nat.le_refl _,by simp [maxInt],fun _=>rfl,fun i x hx=>by simp at hx⟩,.inl ⟨_,_,rfl⟩⟩
      · split
        · simp only [VR]
          exact ⟨⟨none,0,0,rfl,rfl,Nat.le_refl _,by simp [maxInt],fun _=>rfl,.inl trivial⟩,.inl ⟨_,_,rfl⟩⟩
        · simp [VR]
    · simp [VR]
  | .slice (some x) l c=>by simp [constLeaf,VR]
  | .slice none (l + 1) c=>by simp [constLeaf,VR]
  | .slice none 0 (c + 1)=>by simp [constLeaf,VR]
  | .nilFunc=>by simp [constLeaf,VR]
  | .float ..=>by simp [constLeaf,VR]
  | .complex ..=>by simp [constLeaf,VR]
  | .map _=>by simp [constLeaf,VR]
  | .chan _=>by simp [constLeaf,VR]
  | .func ..=>by simp [constLeaf,VR]
  | .iface ..=>by simp [constLeaf,VR]
  | .nilIface=>by simp [constLeaf,VR]
  | .agg _=>by simp [constLeaf,VR]
  | .tuple _=>by simp [constLeaf,VR]
theorem constCells_sim:∀ (ts:List TypeId) (vs:List Value) (r:List AV) (j:Nat),constCells P ts vs = some r → VRs e none j r vs
  | [],[],r,j,h=>by simp [constCells] at h; subst h; simp [VRs]
  | t :: ts,v :: vs,r,j,h=>by
    simp only [constCells] at h
    cases hc:constCells P ts vs with
    | none=>rw [hc] at h; cases h
    | some q =>
      rw [hc] at h; cases h
      rw [VRs.cons]
      exact ⟨v,vs,rfl,by simpa using constLeaf_sim t v,constCells_sim ts vs q (j + 1) hc⟩
  | [],_ :: _,r,j,h=>by simp [constCells] at h
  | _ :: _,[],r,j,h=>by simp [constCells] at h
theorem constAV_sim (t:TypeId) (v:Value):VR e none none (constAV P t v) v:=by
  unfold constAV
  split
  · rename_i cs
    split
    · rename_i r hr
      simp only [VR]
      exact ⟨cs,rfl,constCells_sim _ _ _ _ hr⟩
    · simp [VR]
  · rename_i vs
    split
    · rename_i h
      simp only [VR]
      exact ⟨vs,rfl,by rw [h]; simp [VRs]⟩
    · simp [VR]
  · exact constLeaf_sim t _
theorem nilLeaf_sim (t:TypeId):∀ v:Value,VR e none none (nilC (constLeaf P t v)) v
  | .bool b=>by simp [constLeaf,nilC,VR]
  | .int k m=>by
    simp only [constLeaf]
    cases h:holdsB k m with
    | true=>simp [nilC,VR,holdsB_has h]
    | false=>simp [nilC,VR]
  | .string z=>by
    simp only [constLeaf]
    cases h:Nat.ble z.size maxInt with
    | true=>simp only [cond_true,nilC,VR]; exact ⟨z,rfl,rfl,(ble_iff _ _).1 h⟩
    | false=>simp [nilC,VR]
  | .pointer none=>by simp [constLeaf,nilC,VR]
  | .pointer (some x)=>by simp [constLeaf,nilC,VR]
  | .slice none 0 0=>by
    simp only [constLeaf]
    split
    · split
      · simp only [nilC,VR]
        exact ⟨⟨none,0,0,rfl,rfl,Nat.le_refl _,by simp [maxInt],fun _=>rfl,fun i x hx=>by simp at hx⟩,rfl⟩
      · split
        · simp only [nilC,VR]
          exact ⟨⟨none,0,0,rfl,rfl,Nat.le_refl _,by simp [maxInt],fun _=>rfl,.inl trivial⟩,rfl⟩
        · simp [nilC,VR]
    · simp [nilC,VR]
  | .slice (some x) l c=>by simp [constLeaf,nilC,VR]
  | .slice none (l + 1) c=>by simp [constLeaf,nilC,VR]
  | .slice none 0 (c + 1)=>by simp [constLeaf,nilC,VR]
  | .nilFunc=>by simp [constLeaf,nilC,VR]
  | v=>by
    have h1:=constLeaf_sim (P:=P) (e:=e) t v
    cases hc:constLeaf P t v with
    | slice T xs lv =>
      cases v with
      | slice a l c =>
        cases a with
        | some x=>simp [constLeaf] at hc
        | none =>
          cases l with
          | succ l=>simp [constLeaf] at hc
          | zero=>cases c with
            | succ c=>simp [constLeaf] at hc
            | zero =>
              simp only [nilC,VR]
              rw [hc] at h1
              simp only [VR] at h1
              exact ⟨h1.1,rfl⟩
      | pointer p=>cases p <;> simp [constLeaf] at hc
      | bool b=>simp [constLeaf] at hc
      | int k m=>simp only [constLeaf] at hc; cases h:holdsB k m <;> simp [h] at hc
      | string z=>simp only [constLeaf] at hc; cases h:Nat.ble z.size maxInt <;> simp [h] at hc
      | _=>simp [constLeaf] at hc
    | row cs lv =>
      cases v with
      | slice a l c =>
        cases a with
        | some x=>simp [constLeaf] at hc
        | none =>
          cases l with
          | succ l=>simp [constLeaf] at hc
          | zero=>cases c with
            | succ c=>simp [constLeaf] at hc
            | zero =>
              simp only [nilC,VR]
              rw [hc] at h1
              simp only [VR] at h1
              exact ⟨h1.1,rfl⟩
      | pointer p=>cases p <;> simp [constLeaf] at hc
      | bool b=>simp [constLeaf] at hc
      | int k m=>simp only [constLeaf] at hc; cases h:holdsB k m <;> simp [h] at hc
      | string z=>simp only [constLeaf] at hc; cases h:Nat.ble z.size maxInt <;> simp [h] at hc
      | _=>simp [constLeaf] at hc
    | _=>rw [hc] at h1; exact h1
theorem nilC_sim (t:TypeId) (v:Value):VR e none none (nilC (constAV P t v)) v:=by
  have h1:=constAV_sim (P:=P) (e:=e) t v
  unfold constAV at h1 ⊢
  split
  · split
    · rename_i hr; simp only [hr] at h1; exact h1
    · simp [nilC,VR]
  · split
    · rename_i hr; simp only [hr] at h1; exact h1
    · simp [nilC,VR]
  · exact nilLeaf_sim t _
theorem ownNil_sim {x:AV} {p:Option Pl} {q:Option (Nat → Pl)} {v:Value} (h:VR e p q x v):VR e p q (ownNil x) v:=by
  unfold ownNil
  split
  · simp only [VR] at h ⊢
    exact ⟨h.1,.inl ⟨none,0,h.2⟩⟩
  · simp only [VR] at h ⊢
    exact ⟨h.1,.inl ⟨none,0,h.2⟩⟩
  · exact h
theorem VR.weak {e:Env} {x:AV} {p:Option Pl} {q:Option (Nat → Pl)} {v:Value} (h:VR e none none x v):VR e p q x v :=
  VR.mono (fun _ _ _ h=>h) (ClLe.refl _) _ none _ none _ v (by simp) (by simp) h
theorem ev_sim (h:RR n A e s a w) (t:TypeId) {x:Operand} (hx:okOp n x):∃ p q,VR e p q (ev P s t x) (a.eval x):=by
  cases x with
  | tmp y=>exact ⟨_,_,h.fr.val y hx⟩
  | const v=>exact ⟨none,none,nilC_sim t v⟩
  | global g=>exact ⟨none,none,by simp [ev,VR]⟩
  | func f=>exact ⟨none,none,by simp only [ev,VR]; exact ⟨#[],#[],rfl,by simp [VRs],by simp [VRs]⟩⟩
theorem ev_copy (h:RR n A e s a w) (t:TypeId) {x:Operand} (hx:okOp n x):VR e none none (copyv (ev P s t x)) (a.eval x):=by
  obtain ⟨p,q,hv⟩:=ev_sim (P:=P) h t hx
  exact VR.copyv _ p none q none _ hv
theorem ev_strip (h:RR n A e s a w) (t:TypeId) {x:Operand} (hx:okOp n x):VR e none none (strip (ev P s t x)) (a.eval x):=by
  obtain ⟨p,q,hv⟩:=ev_sim (P:=P) h t hx
  exact VR.strip _ p none q none _ hv
theorem tk_sim (h:RR n A e s a w) (k:Nat) (t:TypeId) {x:Operand} (hx:okOp n x) :
    ∃ f,Fix f ∧ (∀ i j,f (.io i j) = .io i j) ∧ RR n A (e.ren f) (tk P s t x).2 a w ∧ VR (e.ren f) (some (.io k 0)) (some fun j=>.io k (j + 1)) (tk P s t x).1 (a.eval x) ∧ (tk P s t x).2.wr = s.wr ∧ (tk P s t x).2.lds = s.lds:=by
  have hid:∀ y:Operand,(∀ z,y ≠ .tmp z) → ∃ f,Fix f ∧ (∀ i j,f (.io i j) = .io i j) ∧ RR n A (e.ren f) s a w ∧ VR (e.ren f) (some (.io k 0)) (some fun j=>.io k (j + 1)) (ownNil (ev P s t y)) (a.eval y):=by
    intro y hy
    have he:e.ren id = e:=by
      obtain ⟨rho,own,cl⟩:=e
      simp only [Env.ren,Env.mk.injEq,true_and,and_true]
      funext b
      cases own b <;> rfl
    refine ⟨id,⟨fun _ _=>rfl,fun _=>rfl⟩,fun _ _=>rfl,by rw [he]; exact h,?_⟩
    rw [he]
    cases y with
    | tmp z=>exact absurd rfl (hy z)
    | const v=>exact ownNil_sim (nilC_sim t v).weak
    | global g=>simp [ev,ownNil,VR]
    | func f=>simp only [ev,ownNil,VR]; exact ⟨#[],#[],rfl,by simp [VRs],by simp [VRs]⟩
  cases x with
  | tmp y =>
    obtain ⟨src,h1,h2⟩:=h.take k (t:=y) hx
    exact ⟨_,takeF_fix k src,takeF_io k src,h1,h2,(RS.take_wr s y).1,(RS.take_wr s y).2.1⟩
  | const v=>obtain ⟨f,h1,h2,h3,h4⟩:=hid (.const v) (by simp); exact ⟨f,h1,h2,h3,h4,rfl,rfl⟩
  | global g=>obtain ⟨f,h1,h2,h3,h4⟩:=hid (.global g) (by simp); exact ⟨f,h1,h2,h3,h4,rfl,rfl⟩
  | func g=>obtain ⟨f,h1,h2,h3,h4⟩:=hid (.func g) (by simp); exact ⟨f,h1,h2,h3,h4,rfl,rfl⟩
section
variable {o:Oper}
theorem move_sim {dr:Bool} (h:RR n A e s a w) {x:Operand} (ho:o.op = .move x) (hx:okOp n x):Done P n A o e a w s (copyv (ev P s o.type x)) (linkOf dr s x):=by
  refine Done.pure h (u:=a.eval x) (by unfold execOp; rw [ho]; rfl) (ev_copy h _ hx) fun src hs=>?_
  cases x with
  | tmp y =>
    simp only [linkOf] at hs
    cases dr with
    | true=>simp only [cond_true,Option.some.injEq] at hs; subst hs; exact ⟨hx,rfl⟩
    | false =>
      simp only [cond_false] at hs
      cases hy:s.als y with
      | none=>rw [hy] at hs; cases hs; exact ⟨hx,rfl⟩
      | some src'=>rw [hy] at hs; cases hs; exact h.als y _ hx hy
  | _=>simp [linkOf] at hs
theorem assign_sim (h:RR n A e s a w) {x:Operand} (ho:o.op = .assign x) (hx:okOp n x):Done P n A o e a w (tk P s o.type x).2 (tk P s o.type x).1 none:=by
  obtain ⟨f,hf,_,h1,h2,h3,_⟩:=tk_sim (P:=P) h 0 o.type hx
  exact ⟨e.ren f,w,a.eval x,.inl (by unfold execOp; rw [ho]; rfl),h1,h2,by simp,Grow.ren hf.hid _ _ _,fun _ _ _ h=>h⟩
theorem pick_sim (h:RR n A e s a w) {c x y:Operand} {t:Bool} (ho:o.op = .pick c x y) (hc:okOp n c) (hx:okOp n x) (hy:okOp n y) (ht:ev P s o.type c = .bool t) :
    Done P n A o e a w s (if t = true then strip (ev P s o.type x) else strip (ev P s o.type y)) none:=by
  obtain ⟨p,q,hv⟩:=ev_sim (P:=P) h o.type hc
  rw [ht] at hv
  simp only [VR] at hv
  refine Done.pure h (u:=if t = true then a.eval x else a.eval y) ?_ ?_ (by simp)
  · unfold execOp; rw [ho]; simp only [hv,asBool,Sem.run_bind,Sem.run_pure,Result.andThen_ok]
  · cases t
    · exact ev_strip h _ hy
    · exact ev_strip h _ hx
theorem exec_v {S:Sem Value} {u:Value} {w':World} (hx:execOp a.eval o = (do let v ← S; pure (.value v))) (hr:S.run P w = .ok u w'):(execOp a.eval o).run P w = .ok (.value u) w':=by
  rw [hx]; simp [hr]
theorem exec_u {S:Sem Unit} {w':World} (hx:execOp a.eval o = (do S; pure .skip)) (hr:S.run P w = .ok () w'):(execOp a.eval o).run P w = .ok .skip w':=by
  rw [hx]; simp [hr]
theorem lowP_ptr {v:AV} {l i o:Nat} (h:lowP v = .ptr l i o):v = .ptr l i o ∧ Nat.blt o mapO = true:=by
  cases v <;> simp only [lowP,reduceCtorEq] at h
  rename_i a b c
  cases hb:Nat.blt c mapO with
  | true=>rw [hb] at h; simp only [cond_true,AV.ptr.injEq] at h; obtain ⟨rfl,rfl,rfl⟩:=h; exact ⟨rfl,hb⟩
  | false=>rw [hb] at h; simp at h
theorem lowP_cptr {v:AV} {cs:List AV} {o:Nat} (h:lowP v = .cptr cs o):v = .cptr cs o:=by
  cases v <;> simp only [lowP,reduceCtorEq] at h
  · rename_i a b c; cases hb:Nat.blt c mapO <;> rw [hb] at h <;> simp at h
  · exact h
theorem lowP_func {v:AV} {f:Nat} {a c:List AV} (h:lowP v = .func f a c):v = .func f a c:=by
  cases v <;> simp only [lowP,reduceCtorEq] at h
  · rename_i a b c; cases hb:Nat.blt c mapO <;> rw [hb] at h <;> simp at h
  · exact h
theorem nilCheck_sim (h:RR n A e s a w) {x:Operand} (ho:o.op = .nilCheck x) (hx:okOp n x) :
    (∀ l i off,ev P s 0 x = .ptr l i off → Nat.blt off mapO = true → Done P n A o e a w s (.ptr l i off) none) ∧ (∀ cs off,ev P s 0 x = .cptr cs off → Done P n A o e a w s (.cptr cs off) none) ∧ (∀ f b c,ev P s 0 x = .func f b c → Done P n A o e a w s (.func f b c) none):=by
  obtain ⟨p,q,hv⟩:=ev_sim (P:=P) h 0 hx
  refine ⟨fun l i off ht hlo=>?_,fun cs off ht=>?_,fun f b c ht=>?_⟩
  · rw [ht] at hv
    have hv':=hv
    simp only [VR] at hv
    obtain ⟨b,hb,hb2⟩:=hv
    rw [pval_lt hlo] at hb2
    refine Done.pure h (u:=a.eval x) ?_ (by simp only [VR] at hv' ⊢; exact hv') (by simp)
    unfold execOp; rw [ho]; simp [hb2]
  · rw [ht] at hv
    have hv':=hv
    simp only [VR] at hv
    obtain ⟨b,off',hb2,_⟩:=hv
    refine Done.pure h (u:=a.eval x) ?_ (by simp only [VR] at hv' ⊢; exact hv') (by simp)
    unfold execOp; rw [ho]; simp [hb2]
  · rw [ht] at hv
    have hv':=hv
    simp only [VR] at hv
    obtain ⟨va,vc,hb2,_⟩:=hv
    refine Done.pure h (u:=a.eval x) ?_ (by simp only [VR] at hv' ⊢; exact hv') (by simp)
    unfold execOp; rw [ho]; simp [hb2]
theorem mapN_VRs (h:RR n A e s a w) (t:TypeId):∀ (xs:List Operand) (j:Nat),(∀ x ∈ xs,okOp n x) → VRs e none j (mapN (fun x=>strip (ev P s t x)) xs) (xs.map a.eval)
  | [],j,_=>by simp [mapN,VRs]
  | x :: r,j,hx=>by
    simp only [mapN,List.map_cons]
    rw [VRs.cons]
    exact ⟨_,_,rfl,by simpa using ev_strip h t (hx x (by simp)),mapN_VRs h t r (j + 1) fun y hy=>hx y (by simp [hy])⟩
theorem makeFunc_sim (h:RR n A e s a w) {f:Nat} {xs ys:Array Operand} (ho:o.op = .makeFunc (.func f) xs ys) (hx:∀ x ∈ xs.toList,okOp n x) (hy:∀ x ∈ ys.toList,okOp n x) :
    Done P n A o e a w s (.func f (mapN (fun x=>strip (ev P s 0 x)) xs.toList) (mapN (fun x=>strip (ev P s 0 x)) ys.toList)) none:=by
  refine Done.pure h (u:=.func (.func f) (xs.map a.eval) (ys.map a.eval)) ?_ ?_ (by simp)
  · unfold execOp; rw [ho]; simp [Instr.makeFunc]
  · simp only [VR]
    exact ⟨_,_,rfl,by simpa using mapN_VRs h 0 xs.toList 0 hx,by simpa using mapN_VRs h 0 ys.toList 0 hy⟩
theorem extract_sim {dr:Bool} (h:RR n A e s a w) {x:Nat} {j:Nat} {vs:List AV} {v:AV} (ho:o.op = .extract (.tmp x) j) (hx:x < n) (ht:s.fr x = .tuple vs) (hj:nth vs j = some v) :
    Done P n A o e a w s (copyv v) (bif dr then some (.comp x j) else match s.als x with | some (.slot u)=>some (.comp u j) | _=>some (.comp x j)):=by
  have hv:=h.fr.val x hx
  rw [ht] at hv
  simp only [VR] at hv
  obtain ⟨arr,h1,h2⟩:=hv
  rw [nth_eq] at hj
  obtain ⟨u,hu,hvu⟩:=h2.get j v hj
  have hu':arr[j]? = some u:=by simpa using hu
  refine Done.pure h (u:=u) ?_ (VR.copyv _ _ none _ none _ hvu) fun src hs=>?_
  · unfold execOp; rw [ho]
    have:a.eval (.tmp x) = .tuple arr:=h1
    simp [this,Instr.extract,hu']
  · have h0:AlV n e w a u (.comp x j):=⟨hx,arr,.inl h1,hu'⟩
    cases dr with
    | true=>simp only [cond_true,Option.some.injEq] at hs; subst hs; exact h0
    | false =>
      simp only [cond_false] at hs
      cases hy:s.als x with
      | none=>rw [hy] at hs; cases hs; exact h0
      | some src' =>
        rw [hy] at hs
        cases src' with
        | slot y =>
          cases hs
          obtain ⟨hy1,hy2⟩:=h.als x _ hx hy
          refine ⟨hy1,arr,.inl ?_,hu'⟩
          rw [← hy2]; exact h1
        | comp y i=>cases hs; exact h0
        | cell l i q=>cases hs; exact h0
theorem kindEq_eq {j k:IntKind} {x:PLift (j = k)} (_:kindEq j k = some x):j = k:=x.down
end
end Go.Vm
namespace Go.Vm
variable {P:Program} {n:Nat} {A:AbsR} {e:Env} {s:RS} {a:Act} {w:World} {o:Oper}
theorem wrap_has (k:IntKind) (x:Int):k.has (k.wrap x):=by
  cases k <;> simp only [IntKind.has,IntKind.wrap,IntKind.min,IntKind.max,IntKind.signed,IntKind.bits] <;> simp <;> (try split) <;> omega
theorem tmod_has (k:IntKind) (x y:Int) (hx:k.has x) (hy:k.has y) (h0:y ≠ 0):k.has (x.tmod y):=by
  have h1:=Int.tmod_lt_of_pos
  simp only [IntKind.has] at *
  have habs:(x.tmod y).natAbs < y.natAbs:=by
    rw [Int.natAbs_tmod]; exact Nat.mod_lt _ (by omega)
  have hsgn:(0 ≤ x → 0 ≤ x.tmod y) ∧ (x ≤ 0 → x.tmod y ≤ 0):=by
    constructor
    · intro h; exact Int.tmod_nonneg y h
    · intro h
      have:=Int.tmod_nonneg (a:=-x) y (by omega)
      rw [Int.neg_tmod] at this; omega
  have hle:(x.tmod y).natAbs ≤ x.natAbs:=by rw [Int.natAbs_tmod]; exact Nat.mod_le _ _
  have hmin:k.min ≤ 0:=by cases k <;> decide
  have hmax:0 ≤ k.max:=by cases k <;> decide
  rcases Int.le_total 0 x with hp | hp
  · have:=hsgn.1 hp; omega
  · have:=hsgn.2 hp; omega
theorem fdiv_has (k:IntKind) (x:Int) (m:Nat) (hx:k.has x):k.has (x.fdiv (2 ^ m)):=by
  simp only [IntKind.has] at *
  have hp:(0:Int) < 2 ^ m:=Int.pow_pos (by decide)
  have hmin:k.min ≤ 0:=by cases k <;> decide
  have hmax:0 ≤ k.max:=by cases k <;> decide
  rw [Int.fdiv_eq_ediv_of_nonneg _ (by omega)]
  have h1:x / 2 ^ m ≤ k.max:=by
    rcases Int.le_total 0 x with h | h
    · exact Int.le_trans (Int.ediv_le_self _ h) hx.2
    · have:x / 2 ^ m ≤ 0:=by
        have:=Int.ediv_le_ediv hp h
        simpa using this
      omega
  have h2:k.min ≤ x / 2 ^ m:=by
    rcases Int.le_total 0 x with h | h
    · have:=Int.ediv_nonneg h (by omega:(0:Int) ≤ 2 ^ m); omega
    · have:x ≤ x / 2 ^ m:=by
        rw [Int.le_ediv_iff_mul_le hp]
        have:x * 2 ^ m ≤ x * 1:=Int.mul_le_mul_of_nonpos_left h (by omega)
        omega
      omega
  exact ⟨h2,h1⟩
theorem nat_has {m:Nat} (h:m ≤ maxInt):IntKind.i64.has (m:Int):=by
  unfold maxInt at h
  simp [IntKind.has,IntKind.min,IntKind.max,IntKind.signed,IntKind.bits]
  omega
theorem bytesOf_length (z:ByteArray):(bytesOf z).length = z.size:=by
  simp [bytesOf]
theorem bytesOf_append (x y:ByteArray):bytesOf (x ++ y) = bytesOf x ++ bytesOf y:=by
  simp [bytesOf]
theorem bytes_inj:∀ (x y:List UInt8),x.map (fun b=>(b.toNat:Int)) = y.map (fun b=>(b.toNat:Int)) → x = y
  | [],[],_=>rfl
  | [],_ :: _,h=>by simp at h
  | _ :: _,[],h=>by simp at h
  | b :: x,c :: y,h=>by
    simp only [List.map_cons,List.cons.injEq] at h
    have:b = c:=UInt8.toNat_inj.1 (by omega)
    rw [this,bytes_inj x y h.2]
theorem bytesOf_get (z:ByteArray) (i:Nat) (b:Int) (h:(bytesOf z)[i]? = some b):∃ hi:i < z.size,b = ((z[i]'hi).toNat:Int):=by
  simp only [bytesOf,List.getElem?_map,Option.map_eq_some_iff] at h
  obtain ⟨c,h1,h2⟩:=h
  have hi:i < z.size:=by
    rcases Nat.lt_or_ge i z.size with h | h
    · exact h
    · have:z.data.toList.length ≤ i:=by simpa using h
      rw [List.getElem?_eq_none this] at h1; cases h1
  refine ⟨hi,?_⟩
  have:z.data.toList[i]? = some (z[i]'hi):=by
    have h':i < z.data.size:=hi
    simp only [Array.getElem?_toList]
    exact Array.getElem?_eq_getElem h'
  rw [this] at h1; cases h1; exact h2.symm
theorem bytesOf_extract (z:ByteArray) (l h:Nat) (hh:h ≤ z.size):bytesOf (z.extract l h) = ((bytesOf z).take h).drop l:=by
  simp only [bytesOf,ByteArray.data_extract,Array.toList_extract,List.extract]
  rw [List.map_take,List.map_drop,← List.map_take,← List.map_drop,← List.map_drop,← List.map_take]
  rw [List.drop_take]
theorem toList_data (z:ByteArray):z.toList = z.data.toList:=ByteArray.toList_eq z
theorem VR.mkInt {e:Env} {p:Option Pl} {q:Option (Nat → Pl)} {k:IntKind} {m:Int} (h:k.has m):VR e p q (.int k m) (.int k m):=by simp only [VR]; exact ⟨trivial,h⟩
theorem VR.mkBool {e:Env} {p:Option Pl} {q:Option (Nat → Pl)} {b:Bool}:VR e p q (.bool b) (.bool b):=by simp only [VR]
theorem equalIn_bool (d:Nat) (w:World) {t:TypeId} (p q:Bool) (ht:P.underlying t = some .bool):(Op.equalIn (d + 1) t (.bool p) (.bool q)).run P w = .ok (p == q) w:=by
  rw [Op.equalIn]
  simp only [Sem.run_bind,run_underlying ht,Result.andThen_ok,Sem.run_pure]
theorem equalIn_nil (d:Nat) (w:World) {t el:TypeId} (p q:Option Addr) (hn:p = none ∨ q = none) (ht:P.underlying t = some (.pointer el)):(Op.equalIn (d + 1) t (.pointer p) (.pointer q)).run P w = .ok (p.isNone && q.isNone) w:=by
  rw [Op.equalIn]
  cases p with
  | none=>simp only [Sem.run_bind,run_underlying ht,Result.andThen_ok,Sem.run_pure,Option.isNone_none,Bool.true_and]
  | some x =>
    cases q with
    | none=>simp only [Sem.run_bind,run_underlying ht,Result.andThen_ok,Sem.run_pure,Option.isNone_some,Bool.false_and]
    | some y=>rcases hn with h | h <;> cases h
theorem equal_bool (w:World) {t:TypeId} (p q:Bool) (ht:P.underlying t = some .bool):(Op.equal t (.bool p) (.bool q)).run P w = .ok (p == q) w:=equalIn_bool 9999 w p q ht
theorem equal_nil (w:World) {t el:TypeId} (p q:Option Addr) (hn:p = none ∨ q = none) (ht:P.underlying t = some (.pointer el)):(Op.equal t (.pointer p) (.pointer q)).run P w = .ok (p.isNone && q.isNone) w:=equalIn_nil 9999 w p q hn ht
section
variable (h:RR n A e s a w)
include h
theorem intop_sim {op:BinOp} {t ty:TypeId} {x y:Operand} {k:IntKind} {p q:Int} (ho:o.op = .binOp op t x y ty) (hop:op ≠ .shl ∧ op ≠ .shr) (hx:a.eval x = .int k p) (hy:a.eval y = .int k q) (hp:k.has p) (hq:k.has q)
    {c:Bool} {s':RS} {v:AV} {l:Option Src} (hpl:intop op k p q s = .yes c s' v l) (hc:c = true):Done P n A o e a w s' v l:=by
  have ex:execOp a.eval o = (do let v ← (do eqGuard op t x y (a.eval x) (a.eval y); binOp op t (a.eval x) (a.eval y)); pure (.value v)):=by
    unfold execOp; rw [ho]
  rw [hx,hy] at ex
  have hg:∀ u v,eqGuard op t x y (.int k u) v = pure ():=fun u v=>eqGuard_at_int op t x y v k u
  have key:∀ (val:Value) (av:AV),intop op k p q s = .yes true s av none → (binOp op t (.int k p) (.int k q)).run P w = .ok val w → VR e none none av val → Done P n A o e a w s' v l:=by
    intro val av h1 h2 h3
    rw [h1] at hpl
    cases hpl
    refine Done.pure h (exec_v ex ?_) h3 (by simp)
    simp only [hg,Sem.run_bind,Sem.run_pure,Result.andThen_ok,h2]
  cases op with
  | add=>exact key (.int k (k.wrap (p + q))) _ rfl (by rw [binOp_add]; rfl) (VR.mkInt (wrap_has _ _))
  | sub=>exact key (.int k (k.wrap (p - q))) _ rfl (by rw [binOp_sub]; rfl) (VR.mkInt (wrap_has _ _))
  | mul=>exact key (.int k (k.wrap (p * q))) _ rfl (by rw [binOp_mul]; rfl) (VR.mkInt (wrap_has _ _))
  | quo =>
    simp only [intop,Plan.yes.injEq] at hpl
    obtain ⟨h1,rfl,rfl,rfl⟩:=hpl
    have h0:q ≠ 0:=by rw [hc] at h1; simpa using h1
    refine Done.pure h (exec_v ex ?_) (VR.mkInt (wrap_has _ _)) (by simp)
    simp only [hg,Sem.run_bind,Sem.run_pure,Result.andThen_ok,binOp_quo,Op.intDiv,if_neg h0]
  | rem =>
    simp only [intop,Plan.yes.injEq] at hpl
    obtain ⟨h1,rfl,rfl,rfl⟩:=hpl
    have h0:q ≠ 0:=by rw [hc] at h1; simpa using h1
    refine Done.pure h (exec_v ex ?_) (VR.mkInt (tmod_has _ _ _ hp hq h0)) (by simp)
    simp only [hg,Sem.run_bind,Sem.run_pure,Result.andThen_ok,binOp_rem,Op.intDiv,if_neg h0]
  | and=>exact key (.int k (bitop .and k p q)) _ rfl (by rw [binOp_and]; rfl) (VR.mkInt (wrap_has _ _))
  | or=>exact key (.int k (bitop .or k p q)) _ rfl (by rw [binOp_or]; rfl) (VR.mkInt (wrap_has _ _))
  | xor=>exact key (.int k (bitop .xor k p q)) _ rfl (by rw [binOp_xor]; rfl) (VR.mkInt (wrap_has _ _))
  | andNot=>exact key (.int k (bitop .andNot k p q)) _ rfl (by rw [binOp_andNot]; rfl) (VR.mkInt (wrap_has _ _))
  | eql=>exact key (.bool (p == q)) _ rfl (by rw [binOp_eql]; rfl) VR.mkBool
  | neq=>exact key (.bool (p != q)) _ rfl (by rw [binOp_neq]; rfl) VR.mkBool
  | lss=>exact key (.bool (decide (p < q))) _ rfl (by rw [binOp_lss]; rfl) VR.mkBool
  | leq=>exact key (.bool (decide (p ≤ q))) _ rfl (by rw [binOp_leq]; rfl) VR.mkBool
  | gtr=>exact key (.bool (decide (p > q))) _ rfl (by rw [binOp_gtr]; rfl) VR.mkBool
  | geq=>exact key (.bool (decide (p ≥ q))) _ rfl (by rw [binOp_geq]; rfl) VR.mkBool
  | shl=>exact absurd rfl hop.1
  | shr=>exact absurd rfl hop.2
theorem shift_sim {op:BinOp} {t ty:TypeId} {x y:Operand} {k j:IntKind} {p q:Int} (ho:o.op = .binOp op t x y ty) (hx:a.eval x = .int k p) (hy:a.eval y = .int j q) (hp:k.has p) (hq:(!decide (q < 0)) = true) :
    (op = .shl → Done P n A o e a w s (.int k (shiftL k p q)) none) ∧ (op = .shr → Done P n A o e a w s (.int k (shiftR k p q)) none):=by
  have h0:¬ q < 0:=by simpa using hq
  have ex:execOp a.eval o = (do let v ← (do eqGuard op t x y (a.eval x) (a.eval y); binOp op t (a.eval x) (a.eval y)); pure (.value v)):=by
    unfold execOp; rw [ho]
  rw [hx,hy] at ex
  have hg:∀ u v,eqGuard op t x y (.int k u) v = pure ():=fun u v=>eqGuard_at_int op t x y v k u
  constructor
  · rintro rfl
    refine Done.pure h (u:=.int k (shiftL k p q)) (exec_v ex ?_) (VR.mkInt (wrap_has _ _)) (by simp)
    simp only [hg,Sem.run_bind,Sem.run_pure,Result.andThen_ok,binOp_shl,Op.shift,if_neg h0]; rfl
  · rintro rfl
    refine Done.pure h (u:=.int k (shiftR k p q)) (exec_v ex ?_) (VR.mkInt (fdiv_has _ _ _ hp)) (by simp)
    simp only [hg,Sem.run_bind,Sem.run_pure,Result.andThen_ok,binOp_shr,Op.shift,if_neg h0]; rfl
theorem strop_sim {op:BinOp} {t ty:TypeId} {x y:Operand} {p q:ByteArray} (ho:o.op = .binOp op t x y ty) (hx:a.eval x = .string p) (hy:a.eval y = .string q) :
    (op = .add → p.size + q.size ≤ maxInt → Done P n A o e a w s (.str (bytesOf p ++ bytesOf q)) none) ∧ (op = .eql → Done P n A o e a w s (.bool (bytesOf p == bytesOf q)) none) ∧ (op = .neq → Done P n A o e a w s (.bool (bytesOf p != bytesOf q)) none):=by
  have ex:execOp a.eval o = (do let v ← (do eqGuard op t x y (a.eval x) (a.eval y); binOp op t (a.eval x) (a.eval y)); pure (.value v)):=by
    unfold execOp; rw [ho]
  rw [hx,hy] at ex
  have hg:∀ u v,eqGuard op t x y (.string u) v = pure ():=fun u v=>eqGuard_at_string op t x y v u
  have heq:(p.toList == q.toList) = (bytesOf p == bytesOf q):=by
    rw [toList_data,toList_data,Bool.eq_iff_iff]
    simp only [beq_iff_eq]
    exact ⟨fun hh=>by rw [bytesOf,hh,bytesOf],bytes_inj _ _⟩
  refine ⟨?_,?_,?_⟩
  · rintro rfl hl
    refine Done.pure h (u:=.string (p ++ q)) (exec_v ex ?_) ?_ (by simp)
    · have:¬ (((p.size + q.size:Nat):Int) > IntKind.i64.max):=by unfold maxInt at hl; rw [IntKind.max_i64]; omega
      simp only [hg,Sem.run_bind,Sem.run_pure,Result.andThen_ok]
      simp only [binOp,Op.stringOp,if_neg this]; rfl
    · simp only [VR]; exact ⟨p ++ q,rfl,bytesOf_append _ _,by simpa using hl⟩
  · rintro rfl
    refine Done.pure h (exec_v ex ?_) VR.mkBool (by simp)
    simp only [hg,Sem.run_bind,Sem.run_pure,Result.andThen_ok]
    simp only [binOp,Op.stringOp,heq]; rfl
  · rintro rfl
    refine Done.pure h (exec_v ex ?_) VR.mkBool (by simp)
    simp only [hg,Sem.run_bind,Sem.run_pure,Result.andThen_ok]
    simp only [binOp,Op.stringOp,heq,bne]; rfl
theorem eq_sim {op:BinOp} {t ty:TypeId} {x y:Operand} {r:Bool} (ho:o.op = .binOp op t x y ty) (hg:eqGuard op t x y (a.eval x) (a.eval y) = pure ()) (hr:(Op.equal t (a.eval x) (a.eval y)).run P w = .ok r w)
    (h1:binOp .eql t (a.eval x) (a.eval y) = (do pure (.bool (← Op.equal t (a.eval x) (a.eval y))))) (h2:binOp .neq t (a.eval x) (a.eval y) = (do pure (.bool (!(← Op.equal t (a.eval x) (a.eval y)))))) :
    (op = .eql → Done P n A o e a w s (.bool r) none) ∧ (op = .neq → Done P n A o e a w s (.bool (!r)) none):=by
  have ex:execOp a.eval o = (do let v ← (do eqGuard op t x y (a.eval x) (a.eval y); binOp op t (a.eval x) (a.eval y)); pure (.value v)):=by
    unfold execOp; rw [ho]
  constructor
  · rintro rfl
    refine Done.pure h (exec_v ex ?_) VR.mkBool (by simp)
    simp only [hg,h1,Sem.run_bind,Sem.run_pure,Result.andThen_ok,hr]
  · rintro rfl
    refine Done.pure h (exec_v ex ?_) VR.mkBool (by simp)
    simp only [hg,h2,Sem.run_bind,Sem.run_pure,Result.andThen_ok,hr]
theorem boolop_sim {op:BinOp} {t ty:TypeId} {x y:Operand} {p q:Bool} (ho:o.op = .binOp op t x y ty) (hx:a.eval x = .bool p) (hy:a.eval y = .bool q) (ht:P.underlying t = some .bool) :
    (op = .eql → Done P n A o e a w s (.bool (p == q)) none) ∧ (op = .neq → Done P n A o e a w s (.bool (!(p == q))) none) :=
  eq_sim h ho (by rw [hx]; exact eqGuard_at_bool op t x y _ p) (by rw [hx,hy]; exact equal_bool w p q ht) (by rw [hx,hy]; rfl) (by rw [hx,hy]; rfl)
theorem nilop_sim {op:BinOp} {t ty el:TypeId} {x y:Operand} {p q:Option Addr} (ho:o.op = .binOp op t x y ty) (hx:a.eval x = .pointer p) (hy:a.eval y = .pointer q) (ht:P.underlying t = some (.pointer el)) (hn:p = none ∨ q = none) :
    (op = .eql → Done P n A o e a w s (.bool (p.isNone && q.isNone)) none) ∧ (op = .neq → Done P n A o e a w s (.bool (!(p.isNone && q.isNone))) none) :=
  eq_sim h ho (by rw [hx]; exact eqGuard_at_pointer op t x y _ p) (by rw [hx,hy]; exact equal_nil w p q hn ht) (by rw [hx,hy]; rfl) (by rw [hx,hy]; rfl)
theorem nilopS_sim {op:BinOp} {t ty el:TypeId} {x y:Operand} {p:Option Addr} {l c:Nat} (ho:o.op = .binOp op t x y ty) (hx:a.eval x = .slice p l c) (hy:a.eval y = .slice none 0 0) (ht:P.underlying t = some (.slice el)) :
    (op = .eql → Done P n A o e a w s (.bool p.isNone) none) ∧ (op = .neq → Done P n A o e a w s (.bool (!p.isNone)) none) :=
  eq_sim h ho (by rw [hx]; cases op <;> rfl) (by rw [hx,hy]; exact run_equal_slice_nil w t el p l c ht) (by rw [hx,hy]; rfl) (by rw [hx,hy]; rfl)
theorem unop_sim {op:UnOp} {t:TypeId} {x:Operand} (ho:o.op = .unOp op t x) :
    (∀ b,op = .not → a.eval x = .bool b → Done P n A o e a w s (.bool (!b)) none) ∧ (∀ k p,op = .neg → a.eval x = .int k p → Done P n A o e a w s (.int k (k.wrap (0 - p))) none) ∧ (∀ k p,op = .xor → a.eval x = .int k p → Done P n A o e a w s (.int k (bitop .xor k (if k.signed then -1 else k.max) p)) none):=by
  have ex:execOp a.eval o = (do let v ← Op.unary op (a.eval x); pure (.value v)):=by unfold execOp; rw [ho]
  refine ⟨?_,?_,?_⟩
  · rintro b rfl hx
    rw [hx] at ex
    exact Done.pure h (exec_v ex (by simp only [Op.unary]; rfl)) VR.mkBool (by simp)
  · rintro k p rfl hx
    rw [hx] at ex
    exact Done.pure h (exec_v ex (by simp only [Op.unary,Op.intArith]; rfl)) (VR.mkInt (wrap_has _ _)) (by simp)
  · rintro k p rfl hx
    rw [hx] at ex
    exact Done.pure h (exec_v ex (by simp only [Op.unary,Op.intBits]; rfl)) (VR.mkInt (wrap_has _ _)) (by simp)
end
end Go.Vm
namespace Go.Vm
variable {P:Program} {n:Nat} {A:AbsR} {e:Env} {s:RS} {a:Act} {w:World} {o:Oper}
theorem WOK.own_lt (h:WOK e w) {b m:Nat} {p:Pl} (hb:e.own b = some (p,m)):b < w.heap.size:=by
  obtain ⟨c,ty,lo,hi,h1,_⟩:=h.free b p m hb
  exact heap_lt h1.some
theorem WOK.cl_lt (h:WOK e w) {b o:Nat} {v:Value} (hb:e.cl b o = some v):b < w.heap.size:=World.block_lt_of_cell? w _ (h.holds b o v hb)
structure Ext (e:Env) (w:World) (e':Env) (w':World):Prop where
  os:w'.os = w.os
  tape:w'.tape = w.tape
  output:w'.output = w.output
  size:w.heap.size ≤ w'.heap.size
  heap:∀ b,b < w.heap.size → w'.heap[b]? = w.heap[b]?
  rho:e'.rho = e.rho
  own:∀ b,b < w.heap.size → e'.own b = e.own b
  cl:∀ b o,b < w.heap.size → e'.cl b o = e.cl b o
theorem Ext.keeps {e':Env} {w':World} (h:Ext e w e' w') (hw:WOK e w) (p:Pl):Keeps e e' p p :=
  ⟨fun b m hb=>⟨by rw [h.own b (hw.own_lt hb)]; exact hb,fun o ho=>by rw [h.cl b o (hw.own_lt hb)]; exact ho⟩⟩
theorem Ext.clLe {e':Env} {w':World} (h:Ext e w e' w') (hw:WOK e w):ClLe e.cl e'.cl:=fun b o v hv=>by rw [h.cl b o (hw.cl_lt hv)]; exact hv
theorem Ext.rhoLe {e':Env} {w':World} (h:Ext e w e' w'):RhoLe e e':=fun _ _ _ hb=>by rw [h.rho]; exact hb
theorem VR.ext {e':Env} {w':World} (h:Ext e w e' w') (hw:WOK e w) {x:AV} {p:Option Pl} {q:Option (Nat → Pl)} {v:Value} (hv:VR e p q x v):VR e' p q x v :=
  VR.mono h.rhoLe (h.clLe hw) x p p q q v (fun y hy=>⟨y,hy,h.keeps hw y⟩) (fun f hf=>⟨f,hf,fun j=>h.keeps hw _⟩) hv
theorem Ext.dr {e':Env} {w':World} (h:Ext e w e' w') (l:Nat):Ext (e.dr l) w (e'.dr l) w' :=
  ⟨h.os,h.tape,h.output,h.size,h.heap,by simp only [Env.dr,h.rho],h.own,h.cl⟩
theorem WOK.dr (h:WOK e w) (l:Nat):WOK (e.dr l) w:=⟨h.holds,h.free⟩
theorem HR.ext {e':Env} {w':World} {H:Stack} (h:Ext e w e' w') (hw:WOK e w) (hr:HR A e H w):HR A e' H w' where
  par:=by rw [h.rho]; exact hr.par
  ob:=fun l i x hx=>by
    obtain ⟨b,hb,c,ty,fz,h1,h2,h3,h4⟩:=hr.ob l i x hx
    have hlt:=hw.own_lt h2
    refine ⟨b,by rw [h.rho]; exact hb,c,ty,fz,by rw [h.heap b hlt]; exact h1,by rw [h.own b hlt]; exact h2,fun o=>by rw [h.cl b o hlt]; exact h3 o,?_⟩
    cases x with
    | abs k d=>exact h4
    | map _=>trivial
    | cells cs=>exact ⟨h4.1,fun o av u h1 h2=>VR.ext (h.dr l) (hw.dr l) (h4.2 o av u h1 h2)⟩
theorem cell_of_heap {w w':World} {b o:Nat} (h:w'.heap[b]? = w.heap[b]?):w'.cell? ⟨b,o,none⟩ = w.cell? ⟨b,o,none⟩:=by
  simp only [World.cell?,h]
theorem RR.ext {e':Env} {w':World} (h:Ext e w e' w') (hw':WOK e' w') (hr:RR n A e s a w):RR n A e' s a w' where
  wok:=hw'
  hr:=hr.hr.ext h hr.wok
  fr:=⟨hr.fr.size,fun t ht=>VR.ext h hr.wok (hr.fr.val t ht)⟩
  als:=fun t src ht hs=>(hr.als t src ht hs).env h.rhoLe fun l i q _ b hb=>by
    obtain ⟨x,hx⟩:∃ x,getH s.H l i = some x:=by
      have:=hr.hr.par.get l i
      rw [hb] at this
      exact Option.isSome_iff_exists.1 (by rw [← this]; rfl)
    obtain ⟨b',hb',c,ty,fz,h1,h2,_⟩:=hr.hr.ob l i x hx
    rw [hb] at hb'; cases hb'
    exact cell_of_heap (h.heap b (hr.wok.own_lt h2))
theorem Ext.grow {e':Env} {w':World} (h:Ext e w e' w') (hw:WOK e w) (hr:HR A e s.H w) (wr:Wr):Grow e w e' w' wr where
  os:=h.os
  tape:=h.tape
  output:=h.output
  size:=h.size
  cl:=h.clLe hw
  stay:=fun b hb _=>⟨h.heap b hb,h.own b hb,fun o=>h.cl b o hb⟩
  rho:=fun l i b hb=>by rw [h.rho]; exact hb
  obs:=fun l i b hb _=>by
    obtain ⟨x,hx⟩:∃ x,getH s.H l i = some x:=by
      have:=hr.par.get l i
      rw [hb] at this
      exact Option.isSome_iff_exists.1 (by rw [← this]; rfl)
    obtain ⟨b',hb',c,ty,fz,h1,h2,_⟩:=hr.ob l i x hx
    rw [hb] at hb'; cases hb'
    exact h.heap b (hw.own_lt h2)
def Env.newRow (e:Env) (g:Nat) (c:Array Value) (m:Nat) (p:Option Pl):Env :=
  { e with
    own:=fun b=>if b = g then p.map fun p=>(p,c.size) else e.own b
    cl:=fun b o=>if b = g then (if o < m then c[o]? else none) else e.cl b o }
theorem Ext.newRow {w':World} {g:Nat} {c:Array Value} {m:Nat} {p:Option Pl} (hg:g = w.heap.size) (h1:w'.os = w.os) (h2:w'.tape = w.tape) (h3:w'.output = w.output) (h4:w.heap.size ≤ w'.heap.size) (h5:∀ b,b < w.heap.size → w'.heap[b]? = w.heap[b]?):Ext e w (e.newRow g c m p) w' :=
  ⟨h1,h2,h3,h4,h5,rfl,fun b hb=>by simp [Env.newRow,show b ≠ g by omega],fun b o hb=>by simp [Env.newRow,show b ≠ g by omega]⟩
theorem WOK.newRow {w':World} {g:Nat} {c:Array Value} {m:Nat} {p:Option Pl} {ty:TypeId} {lo hi:Nat} (hw:WOK e w) (hg:g = w.heap.size) (h5:∀ b,b < w.heap.size → w'.heap[b]? = w.heap[b]?) (hb:w'.heap[g]? = some (.cells c ty (lo,hi))) (hz:lo = hi ∨ c.size ≤ lo) (hp:∀ q,p = some q → q.isOb = true → c.size < mapO):WOK (e.newRow g c m p) w' where
  holds:=fun b o v hv=>by
    simp only [Env.newRow] at hv
    by_cases hbg:b = g
    · subst hbg
      simp only [if_true] at hv
      split at hv
      · simp only [World.cell?,hb]; simpa using hv
      · cases hv
    · rw [if_neg hbg] at hv
      rw [cell_of_heap (h5 b (hw.cl_lt hv))]
      exact hw.holds b o v hv
  free:=fun b q m' hv=>by
    simp only [Env.newRow] at hv
    by_cases hbg:b = g
    · subst hbg
      simp only [if_true] at hv
      cases p with
      | none=>simp at hv
      | some p=>simp at hv; obtain ⟨rfl,rfl⟩:=hv; exact ⟨c,ty,lo,hi,.inl ⟨hb,hp _ rfl⟩,rfl,hz⟩
    · rw [if_neg hbg] at hv
      obtain ⟨c',ty',lo',hi',k1,k2⟩:=hw.free b q m' hv
      exact ⟨c',ty',lo',hi',by rw [h5 b (hw.own_lt hv)]; exact k1,k2⟩
theorem leafEq_sim (d:Nat) {t:TypeId} {x y:AV} {u v:Value} {z:Bool} (w:World) (hk:kindB (P.underlying t) x = true) (hr:leafEq x y = some z) (hu:VR e none none x u) (hv:VR e none none y v):(Op.equalIn (d + 1) t u v).run P w = .ok z w ∧ (isAgg t).run P w = .ok false w:=by
  cases x <;> simp only [kindB,Bool.false_eq_true] at hk
  · rename_i a
    cases y <;> simp only [leafEq,Option.some.injEq,reduceCtorEq] at hr
    rename_i b
    simp only [VR] at hu hv
    have ht:P.underlying t = some .bool:=by
      revert hk; split
      · rename_i h; exact fun _=>h
      · intro h; cases h
    subst hr
    rw [hu,hv]
    exact ⟨run_equalIn_bool w d t a b ht,by simp [isAgg,run_underlying ht]⟩
  · rename_i j p
    cases y <;> simp only [leafEq,reduceCtorEq] at hr
    rename_i k q
    simp only [VR] at hu hv
    obtain ⟨kk,ht⟩:∃ kk,P.underlying t = some (.int kk):=by
      revert hk; split
      · rename_i kk h; exact fun _=>⟨kk,h⟩
      · intro h; cases h
    cases hjk:kindEq j k with
    | none=>rw [hjk] at hr; cases hr
    | some hh =>
      rw [hjk] at hr
      cases hr
      rw [hu.1,hv.1,kindEq_eq hjk]
      exact ⟨run_equalIn_int w d t k kk p q ht,by simp [isAgg,run_underlying ht]⟩
  · rename_i a
    cases y <;> simp only [leafEq,Option.some.injEq,reduceCtorEq] at hr
    rename_i b
    simp only [VR] at hu hv
    obtain ⟨za,rfl,ha,_⟩:=hu
    obtain ⟨zb,rfl,hb,_⟩:=hv
    have ht:P.underlying t = some .string:=by
      revert hk; split
      · rename_i h; exact fun _=>h
      · intro h; cases h
    subst hr
    have heq:(za.toList == zb.toList) = (a == b):=by
      rw [← ha,← hb,toList_data,toList_data,Bool.eq_iff_iff]
      simp only [beq_iff_eq]
      exact ⟨fun hh=>by rw [bytesOf,hh,bytesOf],bytes_inj _ _⟩
    rw [← heq]
    exact ⟨run_equalIn_string w d t za zb ht,by simp [isAgg,run_underlying ht]⟩
theorem eqFields_sim (d:Nat) {xs ys:Array Value}:∀ (fs:List Field) (m:Nat) (as bs:List AV) (r:Bool) (w:World),
    flatStruct.intFields P m fs = true → as.length = fs.length → plainInts as bs = true → kindsB P fs as = true → cellsEq as bs = some r → VRs e none m as (xs.toList.drop m) → VRs e none m bs (ys.toList.drop m) →
    (Op.eqFields (d + 1) xs ys fs).run P w = .ok r w
  | [],m,as,bs,r,w,hf,hl,hp,hkd,hr,hx,hy=>by
    obtain rfl:=List.eq_nil_of_length_eq_zero hl
    cases bs with
    | nil=>simp [cellsEq] at hr; subst hr; simp [Op.eqFields]
    | cons _ _=>simp [plainInts] at hp
  | f :: fs,m,as,bs,r,w,hf,hl,hp,hkd,hr,hx,hy=>by
    cases as with
    | nil=>simp at hl
    | cons x as =>
      cases bs with
      | nil=>simp [plainInts] at hp
      | cons y bs =>
        simp only [plainInts,Bool.and_eq_true] at hp
        simp only [kindsB,Bool.and_eq_true] at hkd
        obtain ⟨u,us,e1,hu,hus⟩:=VRs.cons.1 hx
        obtain ⟨v,vs,e2,hv,hvs⟩:=VRs.cons.1 hy
        simp only [flatStruct.intFields,Bool.and_eq_true,bne_iff_ne,beq_iff] at hf
        obtain ⟨⟨⟨⟨⟨h1,h2⟩,h3⟩,h4⟩,h5⟩,h6⟩:=hf
        simp only [cellsEq] at hr
        cases hz:leafEq x y with
        | none=>rw [hz] at hr; cases hr
        | some z =>
          rw [hz] at hr
          cases hrest:cellsEq as bs with
          | none=>rw [hrest] at hr; cases hr
          | some r' =>
            rw [hrest] at hr
            simp only [Option.some.injEq] at hr
            subst hr
            obtain ⟨heq,hagg⟩:=leafEq_sim d (t:=f.type) w hkd.1 hz (by simpa using hu) (by simpa using hv)
            have gx:xs[f.offset]? = some u:=by
              have:=congrArg (fun l=>l[0]?) e1
              simp at this
              rw [h2,this]
            have gy:ys[f.offset]? = some v:=by
              have:=congrArg (fun l=>l[0]?) e2
              simp at this
              rw [h2,this]
            have ih:=eqFields_sim d fs (m + 1) as bs r' w h6 (by simpa using hl) hp.2.2 hkd.2 hrest (by rw [show xs.toList.drop (m + 1) = us by rw [← List.tail_drop,e1]; rfl]; exact hus) (by rw [show ys.toList.drop (m + 1) = vs by rw [← List.tail_drop,e2]; rfl]; exact hvs)
            simp only [Op.eqFields,if_pos h1,part,Sem.run_bind,hagg,Result.andThen_ok,Bool.false_eq_true,if_false,gx,gy,Sem.run_pure,heq]
            cases z
            · simp
            · simp [ih]
end Go.Vm
namespace Go.Vm
variable {P:Program} {n:Nat} {A:AbsR} {e:Env} {s:RS} {a:Act} {w:World} {o:Oper}
theorem fieldsOf_eq {t:TypeId} {fs:Array Field} (ht:P.underlying t = some (.struct fs)):P.fieldsOf t = fs:=by simp [Program.fieldsOf,ht]
theorem structeq_sim (h:RR n A e s a w) {op:BinOp} {t ty:TypeId} {x y:Operand} {as bs:List AV} {r:Bool} (ho:o.op = .binOp op t x y ty) (hx:okOp n x) (hy:okOp n y) (ex:ev P s t x = .agg as) (ey:ev P s t y = .agg bs)
    (hf:flatStruct P t = true) (hp:plainInts as bs = true) (hkd:kindsB P (fieldsL P t) as = true) (hl:lenN as = numFields P t) (hr:cellsEq as bs = some r) :
    (op = .eql → Done P n A o e a w s (.bool r) none) ∧ (op = .neq → Done P n A o e a w s (.bool (!r)) none):=by
  have hx':=ev_strip (P:=P) h t hx
  have hy':=ev_strip (P:=P) h t hy
  obtain ⟨p1,q1,hvx⟩:=ev_sim (P:=P) h t hx
  obtain ⟨p2,q2,hvy⟩:=ev_sim (P:=P) h t hy
  rw [ex] at hvx hx'
  rw [ey] at hvy hy'
  simp only [VR] at hvx hvy
  obtain ⟨xs,hxs,hxv⟩:=hvx
  obtain ⟨ys,hys,hyv⟩:=hvy
  simp only [flatStruct] at hf
  split at hf
  · rename_i fs hfs
    simp only [Bool.and_eq_true,Bool.not_eq_true'] at hf
    obtain ⟨⟨h1,h2⟩,h3⟩:=hf
    have hst:∀ zs:List AV,plainInts zs zs = true → strip.strips zs = zs:=by
      intro zs; induction zs with
      | nil=>intro _; rfl
      | cons z zs ih=>cases z <;> simp [plainInts,plainB,strip.strips,strip] <;> exact ih
    have pl1:∀ (us vs:List AV),plainInts us vs = true → plainInts us us = true ∧ plainInts vs vs = true:=by
      intro us; induction us with
      | nil=>intro vs hv; cases vs <;> simp_all [plainInts]
      | cons u us ih=>intro vs hv; cases vs with
        | nil=>simp [plainInts] at hv
        | cons v vs =>
          simp only [plainInts,Bool.and_eq_true] at hv ⊢
          exact ⟨⟨hv.1,hv.1,(ih vs hv.2.2).1⟩,⟨hv.2.1,hv.2.1,(ih vs hv.2.2).2⟩⟩
    have hx0:VRs e none 0 as (xs.toList.drop 0):=by
      have:=hx'
      simp only [strip,VR] at this
      rw [hst as (pl1 _ _ hp).1] at this
      obtain ⟨xs',e1,e2⟩:=this
      rw [hxs] at e1; cases e1
      simpa using e2
    have hy0:VRs e none 0 bs (ys.toList.drop 0):=by
      have:=hy'
      simp only [strip,VR] at this
      rw [hst bs (pl1 _ _ hp).2] at this
      obtain ⟨ys',e1,e2⟩:=this
      rw [hys] at e1; cases e1
      simpa using e2
    have hlen:as.length = fs.toList.length:=by
      have:numFields P t = lenN fs.toList:=by simp [numFields,hfs]
      rw [lenN_eq,this,lenN_eq] at hl; exact hl
    have hrun:(Op.equal t (a.eval x) (a.eval y)).run P w = .ok r w:=by
      rw [hxs,hys]
      show (Op.equalIn (9999 + 1) t (.agg xs) (.agg ys)).run P w = _
      rw [run_equalIn_struct w 9999 t xs ys (by rw [fieldsOf_eq hfs]; exact hfs) h1,fieldsOf_eq hfs]
      exact eqFields_sim 9998 fs.toList 0 as bs r w h3 hlen hp (by unfold fieldsL at hkd; rw [hfs] at hkd; exact hkd) hr hx0 hy0
    have ex':execOp a.eval o = (do let v ← (do eqGuard op t x y (a.eval x) (a.eval y); binOp op t (a.eval x) (a.eval y)); pure (.value v)):=by
      unfold execOp; rw [ho]
    have hg:(eqGuard op t x y (a.eval x) (a.eval y)).run P w = .ok () w:=by rw [hxs,hys]; exact run_eqGuard_agg w op t x y xs ys h2
    constructor
    · rintro rfl
      refine Done.pure h (exec_v ex' ?_) VR.mkBool (by simp)
      simp only [Sem.run_bind,hg,Result.andThen_ok]
      rw [show binOp .eql t (a.eval x) (a.eval y) = (do pure (.bool (← Op.equal t (a.eval x) (a.eval y)))) by rw [hxs,hys]; rfl]
      simp only [Sem.run_bind,hrun,Result.andThen_ok,Sem.run_pure]
    · rintro rfl
      refine Done.pure h (exec_v ex' ?_) VR.mkBool (by simp)
      simp only [Sem.run_bind,hg,Result.andThen_ok]
      rw [show binOp .neq t (a.eval x) (a.eval y) = (do pure (.bool (!(← Op.equal t (a.eval x) (a.eval y))))) by rw [hxs,hys]; rfl]
      simp only [Sem.run_bind,hrun,Result.andThen_ok,Sem.run_pure]
  · cases hf
theorem sizeB_eq {t:TypeId} {i:TypeInfo} (h:P.info? t = some i):sizeB P t = i.size:=by simp [sizeB,h]
theorem isAggB_run (w:World) {t:TypeId} {d:TypeDesc} (h:P.underlying t = some d):(isAgg t).run P w = .ok (isAggB P t) w:=by
  unfold isAggB
  rw [h]
  cases d <;> simp [isAgg,run_underlying h]
theorem info_of_underlying {t:TypeId} {d:TypeDesc} (h:P.underlying t = some d):∃ i,P.info? t = some i:=by
  unfold Program.underlying at h
  cases hi:P.info? t with
  | none=>rw [hi] at h; cases h
  | some i=>exact ⟨i,rfl⟩
theorem sizeOf_run (w:World) {t:TypeId} {d:TypeDesc} (h:P.underlying t = some d):(sizeOf t).run P w = .ok (sizeB P t) w:=by
  obtain ⟨i,hi⟩:=info_of_underlying h
  rw [sizeB_eq hi]
  simp [sizeOf,typeInfo,hi]
theorem VRs.cut {e:Env} {q:Option (Nat → Pl)} {as:List AV} {j:Nat} {vs:List Value} (h:VRs e q j as vs) (off m:Nat):VRs e (q.map fun f=>fun i=>f (off + i)) j ((as.drop off).take m) ((vs.drop off).take m):=by
  refine VRs.of (by simp [h.len]) fun i x v hx hv=>?_
  rw [List.getElem?_take] at hx hv
  split at hx
  · rename_i hi
    rw [if_pos hi] at hv
    rw [List.getElem?_drop] at hx hv
    obtain ⟨v',e1,e2⟩:=h.get (off + i) x hx
    rw [hv] at e1; cases e1
    have:j + (off + i) = off + (j + i):=by omega
    rw [this] at e2
    cases q <;> simpa using e2
  · cases hx
theorem part_sim {q:Option (Nat → Pl)} {t:TypeId} {d:TypeDesc} {cs:List AV} {arr:Array Value} {off:Nat} {v:AV} (w:World) (ht:P.underlying t = some d) (hv:partAV P t cs off = some v) (h:VRs e q 0 cs arr.toList) :
    ∃ u,(part t arr off).run P w = .ok u w ∧ ∃ p q',VR e p q' v u:=by
  unfold partAV at hv
  unfold part
  cases hb:isAggB P t with
  | true =>
    rw [hb] at hv
    simp only [cond_true] at hv
    obtain ⟨hle,hv⟩:=cond_none hv
    cases hv
    refine ⟨.agg (arr.extract off (off + sizeB P t)),?_,none,q.map (fun f=>fun i=>f (off + i)),?_⟩
    · simp only [Sem.run_bind,isAggB_run w ht,hb,Result.andThen_ok,if_true,sizeOf_run w ht,Sem.run_pure]
    · simp only [VR]
      refine ⟨_,rfl,?_⟩
      rw [cut_eq]
      have:=h.cut off (sizeB P t)
      simpa [List.extract,Array.toList_extract] using this
  | false =>
    rw [hb] at hv
    simp only [cond_false,nth_eq] at hv
    obtain ⟨u,h1,h2⟩:=h.get off v hv
    have h1':arr[off]? = some u:=by simpa using h1
    refine ⟨u,?_,_,_,h2⟩
    simp only [Sem.run_bind,isAggB_run w ht,hb,Result.andThen_ok,Bool.false_eq_true,if_false,h1',Sem.run_pure]
theorem okT_iff {t:TypeId} (h:okT P t = true):∃ d,P.underlying t = some d:=by
  unfold okT at h
  split at h
  · rename_i d hd; exact ⟨d,hd⟩
  · cases h
theorem fieldOff_ok {t ft:TypeId} {f off:Nat} (h:fieldOff P t f = some (off,ft)):∃ d,P.underlying ft = some d:=by
  unfold fieldOff at h
  split at h
  · split at h
    · obtain ⟨h1,h2⟩:=cond_none h
      cases h2
      exact okT_iff h1
    · cases h
  · cases h
theorem field_sim (h:RR n A e s a w) {t ft:TypeId} {x:Operand} {f off:Nat} {cs:List AV} {v:AV} (ho:o.op = .field t x f) (hx:okOp n x) (hf:fieldOff P t f = some (off,ft)) (ex:ev P s t x = .agg cs) (hv:partAV P ft cs off = some v) (hd:∃ d,P.underlying ft = some d) :
    Done P n A o e a w s (strip v) none:=by
  obtain ⟨p,q,hvx⟩:=ev_sim (P:=P) h t hx
  rw [ex] at hvx
  simp only [VR] at hvx
  obtain ⟨arr,h1,h2⟩:=hvx
  obtain ⟨d,hd⟩:=hd
  obtain ⟨u,h3,p',q',h4⟩:=part_sim (P:=P) w hd hv h2
  unfold fieldOff at hf
  split at hf
  · rename_i fs hfs
    split at hf
    · rename_i fd hfd
      obtain ⟨hok,hf⟩:=cond_none hf
      cases hf
      rw [nth_eq] at hfd
      have hfd':fs[f]? = some fd:=by simpa using hfd
      refine Done.pure h (exec_v (S:=Instr.field t (a.eval x) f) (by unfold execOp; rw [ho]) ?_) (VR.strip _ p' none q' none _ h4) (by simp)
      rw [h1]
      simp only [Instr.field,Sem.run_bind,run_underlying hfs,Result.andThen_ok,hfd',asAgg,Sem.run_pure,h3]
    · cases hf
  · cases hf
theorem Addr.add_eq (b o m:Nat):(⟨b,o,none⟩:Addr).add m = ⟨b,o + m,none⟩:=by unfold Addr.add; split <;> simp_all
theorem fieldAddr_sim (h:RR n A e s a w) {t ft:TypeId} {x:Operand} {f off:Nat} (ho:o.op = .fieldAddr t x f) (hx:okOp n x) (hf:fieldOff P t f = some (off,ft)) (hz:Nat.blt 0 (sizeB P ft) = true) :
    (∀ l i q,ev P s 0 x = .ptr l i q → Nat.blt (q + off) mapO = true → Done P n A o e a w s (.ptr l i (q + off)) none) ∧ (∀ cs q,ev P s 0 x = .cptr cs q → Done P n A o e a w s (.cptr cs (q + off)) none):=by
  obtain ⟨p,q,hvx⟩:=ev_sim (P:=P) h 0 hx
  have hz':0 < sizeB P ft:=(blt_iff _ _).1 hz
  have hinfo:∃ i,P.info? ft = some i ∧ i.size ≠ 0:=by
    unfold sizeB at hz'
    cases hi:P.info? ft with
    | none=>rw [hi] at hz'; simp at hz'
    | some i=>rw [hi] at hz'; exact ⟨i,rfl,by simp only at hz'; omega⟩
  obtain ⟨i0,hi0,hi1⟩:=hinfo
  have hrun:∀ b q,a.eval x = .pointer (some ⟨b,q,none⟩) → (execOp a.eval o).run P w = .ok (.value (.pointer (some ⟨b,q + off,none⟩))) w:=by
    intro b q hb
    refine exec_v (S:=Instr.fieldAt t (a.eval x) f) (by unfold execOp; rw [ho]) ?_
    unfold fieldOff at hf
    split at hf
    · rename_i fs hfs
      split at hf
      · rename_i fd hfd
        obtain ⟨hok,hf⟩:=cond_none hf
        cases hf
        rw [nth_eq] at hfd
        have hfd':fs[f]? = some fd:=by simpa using hfd
        rw [hb]
        simp only [Instr.fieldAt,Sem.run_bind,run_underlying hfs,Result.andThen_ok,hfd',Instr.sureAddr,Sem.run_pure,fieldPlace,sizeOf,typeInfo,run_program,hi0,if_neg hi1,Addr.add_eq]
      · cases hf
    · cases hf
  constructor
  · intro l i q' ht hlo
    rw [ht] at hvx
    simp only [VR] at hvx
    obtain ⟨b,hb,hb2⟩:=hvx
    exact Done.pure h (hrun b q' (by rw [hb2,pval_le hlo (Nat.le_add_right _ _)])) (by simp only [VR]; exact ⟨b,hb,(pval_lt hlo).symm⟩) (by simp)
  · intro cs q' ht
    rw [ht] at hvx
    simp only [VR] at hvx
    obtain ⟨b,off',hb2,hc⟩:=hvx
    exact Done.pure h (hrun b (off' + q') hb2) (by simp only [VR]; exact ⟨b,off',by rw [Nat.add_assoc],hc⟩) (by simp)
theorem DR.flat_crs {e:Env}:∀ (T:Ty) (x:T.interp) (es:List Value) (b off:Nat),DR e.cl T x es → (∀ j u,es[j]? = some u → e.cl b (off + j) = some u) → CRs e b off (flat T x)
  | .bool,x,es,b,off,h,hc=>by
    rw [show es = [.bool x] from h] at hc
    simp only [flat,CRs,and_true]
    exact ⟨.bool x,by simpa using hc 0 (.bool x) (by simp),by simp [VR]⟩
  | .int k,x,es,b,off,h,hc=>by
    rw [h.1] at hc
    simp only [flat,CRs,and_true]
    exact ⟨.int k x,by simpa using hc 0 _ (by simp),by simp only [VR]; exact ⟨trivial,h.2⟩⟩
  | .str,x,es,b,off,⟨z,h1,h2⟩,hc=>by
    rw [h1] at hc
    simp only [flat,CRs,and_true]
    exact ⟨.string z,by simpa using hc 0 _ (by simp),by simp only [VR]; exact ⟨z,rfl,h2⟩⟩
  | .slice T,x,es,b,off,⟨v,h1,h2⟩,hc=>by
    rw [h1] at hc
    simp only [flat,CRs,and_true]
    exact ⟨v,by simpa using hc 0 _ (by simp),by simp only [VR]; exact ⟨h2,trivial⟩⟩
  | .pair T U,x,es,b,off,⟨c1,c2,h1,h2,h3⟩,hc=>by
    subst h1
    simp only [flat,app_eq]
    have g1:=DR.flat_crs T x.1 c1 b off h2 fun j u hu=>hc j u (by
      have:j < c1.length:=by
        rcases Nat.lt_or_ge j c1.length with h | h
        · exact h
        · simp [List.getElem?_eq_none h] at hu
      rw [List.getElem?_append_left this]; exact hu)
    have g2:=DR.flat_crs U x.2 c2 b (off + c1.length) h3 fun j u hu=>by
      have:=hc (c1.length + j) u (by rw [List.getElem?_append_right (by omega)]; simpa using hu)
      rwa [← Nat.add_assoc] at this
    have hlen:(flat T x.1).length = c1.length:=by rw [DR.len T _ _ h2]; exact flat_length T x.1
    refine CRs.of fun i y hy=>?_
    rcases Nat.lt_or_ge i (flat T x.1).length with hi | hi
    · rw [List.getElem?_append_left hi] at hy
      exact g1.get i y hy
    · rw [List.getElem?_append_right hi] at hy
      have:=g2.get _ y hy
      rwa [show off + c1.length + (i - (flat T x.1).length) = off + i by omega] at this
where
  flat_length:∀ (T:Ty) (x:T.interp),(flat T x).length = T.size
    | .bool,_=>rfl
    | .int _,_=>rfl
    | .str,_=>rfl
    | .slice _,_=>rfl
    | .pair a b,x=>by simp only [flat,app_eq,List.length_append,flat_length a x.1,flat_length b x.2]; rfl
theorem at?_some {α:Type} {xs:List α} {i:Int} {x:α} (h:at? xs i = some x):0 ≤ i ∧ xs[i.toNat]? = some x ∧ i.toNat < xs.length:=by
  unfold at? at h
  split at h
  · rename_i h0
    refine ⟨h0,h,?_⟩
    rcases Nat.lt_or_ge i.toNat xs.length with h' | h'
    · exact h'
    · rw [List.getElem?_eq_none h'] at h; cases h
  · cases h
theorem elem_of {t el:TypeId} (ht:P.underlying t = some (.slice el)):P.elem t = el:=by simp [Program.elem,ht]
theorem indexAddr_slice_sim (h:RR n A e s a w) {t el:TypeId} {x i:Operand} {T:Ty} {xs:List T.interp} {lv:Lv} {k:IntKind} {m:Int} {y:T.interp} (ho:o.op = .indexAddr t x i) (hx:okOp n x) (hi:okOp n i)
    (ht:P.underlying t = some (.slice el)) (ex:ev P s t x = .slice T xs lv) (ei:ev P s 3 i = .int k m) (hsz:T.size = sizeB P el) (hel:∃ d,P.underlying el = some d) (hy:at? xs m = some y) :
    Done P n A o e a w s (.cptr (flat T y) 0) none:=by
  obtain ⟨p,q,hvx⟩:=ev_sim (P:=P) h t hx
  obtain ⟨p2,q2,hvi⟩:=ev_sim (P:=P) h 3 hi
  rw [ex] at hvx
  rw [ei] at hvi
  simp only [VR] at hvx hvi
  obtain ⟨⟨ad,len,cap,h1,h2,h3,h4,h5,h6⟩,_⟩:=hvx
  obtain ⟨g0,g1,g2⟩:=at?_some hy
  obtain ⟨b,off,es,e1,e2,e3⟩:=h6 _ _ g1
  subst e1
  obtain ⟨d,hd⟩:=hel
  refine Done.pure h (u:=.pointer (some ⟨b,off + m.toNat * T.size,none⟩)) (exec_v (S:=Instr.indexAt t (a.eval x) (a.eval i)) (by unfold execOp; rw [ho]) ?_) ?_ (by simp)
  · rw [h1,hvi.1,run_indexAt_slice w t _ _ _ _ _ (by rw [elem_of ht]; exact ht),elem_of ht,if_pos ⟨g0,by omega⟩,sizeOf_run w hd]
    simp only [Result.andThen_ok,Addr.add_eq,hsz]
  · simp only [VR]
    refine ⟨b,off + m.toNat * T.size,rfl,DR.flat_crs T y es b _ e2 fun j u hu=>?_⟩
    have:=e3 j u hu
    rwa [← Nat.add_assoc] at this
theorem rowPtrs_get:∀ (cs:List AV) (i:Nat),(rowPtrs cs)[i]? = if i < cs.length then some (.cptr (cs.drop i) 0) else none
  | [],i=>by simp [rowPtrs]
  | c :: r,0=>by simp [rowPtrs]
  | c :: r,i + 1=>by simp [rowPtrs,rowPtrs_get r i]
theorem CRs.drop {e:Env}:∀ (i:Nat) {cs:List AV} {b off:Nat},CRs e b off cs → CRs e b (off + i) (cs.drop i)
  | 0,_,_,_,h=>h
  | i + 1,[],_,_,_=>by simp [CRs]
  | i + 1,c :: r,b,off,h=>by
    simp only [CRs] at h
    have:=CRs.drop i h.2
    rwa [show off + 1 + i = off + (i + 1) by omega] at this
theorem indexAddr_row_sim (h:RR n A e s a w) {t el:TypeId} {x i:Operand} {cs:List AV} {lv:Lv} {k:IntKind} {m:Int} {y:AV} (ho:o.op = .indexAddr t x i) (hx:okOp n x) (hi:okOp n i)
    (ht:P.underlying t = some (.slice el)) (ex:ev P s t x = .row cs lv) (ei:ev P s 3 i = .int k m) (hsz:sizeB P el = 1) (hel:∃ d,P.underlying el = some d) (hy:at? (rowPtrs cs) m = some y) :
    Done P n A o e a w s y none:=by
  obtain ⟨p,q,hvx⟩:=ev_sim (P:=P) h t hx
  obtain ⟨p2,q2,hvi⟩:=ev_sim (P:=P) h 3 hi
  rw [ex] at hvx
  rw [ei] at hvi
  simp only [VR] at hvx hvi
  obtain ⟨⟨ad,len,cap,h1,h2,h3,h4,h5,h6⟩,_⟩:=hvx
  obtain ⟨g0,g1,g2⟩:=at?_some hy
  rw [rowPtrs_get] at g1
  split at g1
  · rename_i hlt
    cases g1
    rcases h6 with h6 | ⟨b,off,e1,e2⟩
    · rw [h6] at hlt; cases hlt
    · subst e1
      obtain ⟨d,hd⟩:=hel
      refine Done.pure h (u:=.pointer (some ⟨b,off + m.toNat * 1,none⟩)) (exec_v (S:=Instr.indexAt t (a.eval x) (a.eval i)) (by unfold execOp; rw [ho]) ?_) ?_ (by simp)
      · rw [h1,hvi.1,run_indexAt_slice w t _ _ _ _ _ (by rw [elem_of ht]; exact ht),elem_of ht,if_pos ⟨g0,by omega⟩,sizeOf_run w hd]
        simp only [Result.andThen_ok,Addr.add_eq,hsz]
      · simp only [VR]
        exact ⟨b,off + m.toNat,by rw [Nat.mul_one,Nat.add_zero],e2.drop _⟩
  · cases g1
theorem indexAddr_array_sim (h:RR n A e s a w) {t el:TypeId} {len:Nat} {x i:Operand} {l j q:Nat} {k:IntKind} {m:Int} (ho:o.op = .indexAddr t x i) (hx:okOp n x) (hi:okOp n i)
    (ht:P.underlying t = some (.array len el)) (ex:ev P s t x = .ptr l j q) (ei:ev P s 3 i = .int k m) (hel:∃ d,P.underlying el = some d) (hm:0 ≤ m ∧ m < (len:Int)) (hlo:Nat.blt (q + len * sizeB P el) mapO = true) :
    Done P n A o e a w s (.ptr l j (q + m.toNat * sizeB P el)) none:=by
  obtain ⟨p,q',hvx⟩:=ev_sim (P:=P) h t hx
  obtain ⟨p2,q2,hvi⟩:=ev_sim (P:=P) h 3 hi
  rw [ex] at hvx
  rw [ei] at hvi
  simp only [VR] at hvx hvi
  obtain ⟨b,hb,hb2⟩:=hvx
  rw [pval_le hlo (Nat.le_add_right _ _)] at hb2
  have hml:m.toNat ≤ len:=by omega
  have hle:q + m.toNat * sizeB P el ≤ q + len * sizeB P el:=Nat.add_le_add_left (Nat.mul_le_mul_right _ hml) _
  obtain ⟨d,hd⟩:=hel
  refine Done.pure h (u:=.pointer (some ⟨b,q + m.toNat * sizeB P el,none⟩)) (exec_v (S:=Instr.indexAt t (a.eval x) (a.eval i)) (by unfold execOp; rw [ho]) ?_) ?_ (by simp)
  · rw [hb2,hvi.1]
    simp only [Instr.indexAt,asIntOf,Sem.run_bind,Sem.run_pure,Result.andThen_ok,run_underlying ht,Instr.sureAddr,if_pos hm,sizeOf_run w hd,Addr.add_eq]
  · simp only [VR]; exact ⟨b,hb,(pval_le hlo hle).symm⟩
theorem index_string_sim (h:RR n A e s a w) {t:TypeId} {x i:Operand} {xs:List Int} {k:IntKind} {m b:Int} (ho:o.op = .index t x i) (hx:okOp n x) (hi:okOp n i)
    (ht:P.underlying t = some .string) (ex:ev P s t x = .str xs) (ei:ev P s 3 i = .int k m) (hy:at? xs m = some b):Done P n A o e a w s (.int .u8 b) none:=by
  obtain ⟨p,q,hvx⟩:=ev_sim (P:=P) h t hx
  obtain ⟨p2,q2,hvi⟩:=ev_sim (P:=P) h 3 hi
  rw [ex] at hvx
  rw [ei] at hvi
  simp only [VR] at hvx hvi
  obtain ⟨z,h1,h2,_⟩:=hvx
  obtain ⟨g0,g1,_⟩:=at?_some hy
  rw [← h2] at g1
  obtain ⟨hlt,hb⟩:=bytesOf_get z _ _ g1
  have hz:z[m.toNat]? = some (z[m.toNat]'hlt):=by
    show (if h:m.toNat < z.size then some (z[m.toNat]'h) else none) = _
    simp [hlt]
  refine Done.pure h (u:=.int .u8 ((z[m.toNat]'hlt).toNat:Int)) (exec_v (S:=Instr.index t (a.eval x) (a.eval i)) (by unfold execOp; rw [ho]) ?_) ?_ (by simp)
  · rw [h1,hvi.1]
    simp only [Instr.index,asIntOf,Sem.run_bind,Sem.run_pure,Result.andThen_ok,run_underlying ht,if_pos g0,hz]
  · rw [hb]
    refine VR.mkInt ?_
    have:=(z[m.toNat]'hlt).toNat_lt
    simp only [IntKind.has,IntKind.min,IntKind.max,IntKind.signed,IntKind.bits]
    constructor
    · exact Int.natCast_nonneg _
    · simp; omega
theorem index_array_sim (h:RR n A e s a w) {t el:TypeId} {len:Nat} {x i:Operand} {cs:List AV} {k:IntKind} {m:Int} {v:AV} (ho:o.op = .index t x i) (hx:okOp n x) (hi:okOp n i)
    (ht:P.underlying t = some (.array len el)) (ex:ev P s t x = .agg cs) (ei:ev P s 3 i = .int k m) (hel:∃ d,P.underlying el = some d) (hm:0 ≤ m ∧ m < (len:Int)) (hv:partAV P el cs (m.toNat * sizeB P el) = some v) :
    Done P n A o e a w s (strip v) none:=by
  obtain ⟨p,q,hvx⟩:=ev_sim (P:=P) h t hx
  obtain ⟨p2,q2,hvi⟩:=ev_sim (P:=P) h 3 hi
  rw [ex] at hvx
  rw [ei] at hvi
  simp only [VR] at hvx hvi
  obtain ⟨arr,h1,h2⟩:=hvx
  obtain ⟨d,hd⟩:=hel
  obtain ⟨u,h3,p',q',h4⟩:=part_sim (P:=P) w hd hv h2
  refine Done.pure h (exec_v (S:=Instr.index t (a.eval x) (a.eval i)) (by unfold execOp; rw [ho]) ?_) (VR.strip _ p' none q' none _ h4) (by simp)
  rw [h1,hvi.1]
  simp only [Instr.index,asIntOf,Sem.run_bind,Sem.run_pure,Result.andThen_ok,run_underlying ht,if_pos hm,sizeOf_run w hd,h3]
end Go.Vm
namespace Go.Vm
variable {P:Program} {n:Nat} {A:AbsR} {e:Env} {s:RS} {a:Act} {w:World} {o:Oper}
theorem loadVar_sim {d:TypeDesc} {t:TypeId} {cs:List AV} {v:AV} {b off0 off:Nat} {us:List Value} (w:World) (ht:P.underlying t = some d) (hv:partAV P t cs off = some v)
    (hl:cs.length = us.length) (hc:∀ i u,us[i]? = some u → w.cell? ⟨b,off0 + i,none⟩ = some u) :
    ∃ u,(loadVar t ⟨b,off0 + off,none⟩).run P w = .ok u w ∧ ((isAggB P t = true ∧ v = .agg ((cs.drop off).take (sizeB P t)) ∧ u = .agg (((us.drop off).take (sizeB P t)).toArray)) ∨ (isAggB P t = false ∧ cs[off]? = some v ∧ us[off]? = some u)):=by
  unfold partAV at hv
  unfold loadVar
  cases hb:isAggB P t with
  | true =>
    rw [hb] at hv
    simp only [cond_true] at hv
    obtain ⟨hle,hv⟩:=cond_none hv
    cases hv
    have hle':off + sizeB P t ≤ us.length:=by have:=(ble_iff _ _).1 hle; rw [lenN_eq] at this; omega
    have hlen:((us.drop off).take (sizeB P t)).length = sizeB P t:=by simp; omega
    have hload:(loadCells ⟨b,off0 + off,none⟩ (sizeB P t)).run P w = .ok ((us.drop off).take (sizeB P t)).toArray w:=by
      have:=run_loadCells_list (P:=P) w ⟨b,off0 + off,none⟩ ((us.drop off).take (sizeB P t)) fun j u hu=>by
        rw [Addr.add_eq]
        rw [List.getElem?_take] at hu
        split at hu
        · rw [List.getElem?_drop] at hu
          rw [Nat.add_assoc]
          exact hc _ u hu
        · cases hu
      rwa [hlen] at this
    refine ⟨_,?_,.inl ⟨rfl,by rw [cut_eq],rfl⟩⟩
    simp only [Sem.run_bind,isAggB_run w ht,hb,Result.andThen_ok,if_true,sizeOf_run w ht,hload,Sem.run_pure]
  | false =>
    rw [hb] at hv
    simp only [cond_false,nth_eq] at hv
    have hlt:off < us.length:=by
      rcases Nat.lt_or_ge off cs.length with h | h
      · omega
      · rw [List.getElem?_eq_none h] at hv; cases hv
    refine ⟨us[off],?_,.inr ⟨rfl,hv,by simp [hlt]⟩⟩
    have:=hc off us[off] (by simp [hlt])
    simp only [Sem.run_bind,isAggB_run w ht,hb,Result.andThen_ok,Bool.false_eq_true,if_false,run_load,this]
theorem HR.get (hr:HR A e s.H w) {l i:Nat} {cs:List AV} (hg:getH s.H l i = some (.cells cs)) :
    ∃ b c ty fz,rhoAt e.rho l i = some b ∧ w.heap[b]? = some (.cells c ty fz) ∧ e.own b = some (.ob l i,c.size) ∧ (∀ o,e.cl b o = none) ∧ CellsR e l i cs c.toList:=by
  obtain ⟨b,hb,c,ty,fz,h1,h2,h3,h4⟩:=hr.ob l i _ hg
  exact ⟨b,c,ty,fz,hb,h1,h2,h3,h4⟩
theorem cell_of_cells {b:Nat} {c:Array Value} {ty:TypeId} {fz:Nat × Nat} (h:w.heap[b]? = some (.cells c ty fz)) (i:Nat) (u:Value) (hu:c.toList[i]? = some u):w.cell? ⟨b,0 + i,none⟩ = some u:=by
  simp only [World.cell?,h,Nat.zero_add]
  simpa using hu
theorem CellsR.vrs {l i:Nat} {cs:List AV} {us:List Value} (h:CellsR e l i cs us):VRs (e.dr l) (some fun o=>.cell l i o) 0 cs us :=
  VRs.of h.1 fun o av u h1 h2=>by simpa using h.2 o av u h1 h2
theorem exec_load {t:TypeId} {x:Operand} (ho:o.op = .load t x) {b off:Nat} {u:Value} (hx:a.eval x = .pointer (some ⟨b,off,none⟩)) (hr:(loadVar t ⟨b,off,none⟩).run P w = .ok u w):(execOp a.eval o).run P w = .ok (.value u) w:=by
  refine exec_v (S:=Instr.loadAt t (a.eval x)) (by unfold execOp; rw [ho]) ?_
  rw [hx]
  simp only [Instr.loadAt,Instr.sureAddr,Sem.run_bind,Sem.run_pure,Result.andThen_ok,hr]
theorem RR.lds (h:RR n A e s a w) (f:Lds):RR n A e { s with lds:=f } a w:=⟨h.wok,h.hr,h.fr,h.als⟩
theorem partAV_le {t:TypeId} {cs:List AV} {off:Nat} {v:AV} (h:partAV P t cs off = some v):off ≤ cs.length:=by
  unfold partAV at h
  cases hb:isAggB P t with
  | true =>
    rw [hb,cond_true] at h
    obtain ⟨h1,_⟩:=cond_none h
    rw [ble_iff,lenN_eq] at h1
    omega
  | false =>
    rw [hb,cond_false,nth_eq] at h
    exact Nat.le_of_lt (List.getElem?_eq_some_iff.1 h).1
theorem load_ptr_sim {dr:Bool} (h:RR n A e s a w) {t:TypeId} {x:Operand} {l i off:Nat} {cs:List AV} {v:AV} (ho:o.op = .load t x) (hx:okOp n x) (ht:okT P t = true) (ex:ev P s 0 x = .ptr l i off) (hg:getH s.H l i = some (.cells cs)) (hv:partAV P t cs off = some v) :
    Done P n A o e a w (bif dr then { s with lds:=addLd l i s.lds } else s) (copyv (shiftV l v)) (bif isAggB P t then none else some (.cell l i off)):=by
  obtain ⟨p,q,hvx⟩:=ev_sim (P:=P) h 0 hx
  rw [ex] at hvx
  simp only [VR] at hvx
  obtain ⟨b,hb,hb2⟩:=hvx
  obtain ⟨b',c,ty,fz,hb',h1,h2,h3,h4⟩:=h.hr.get hg
  rw [hb] at hb'; cases hb'
  have hlo:off < mapO:=by
    have h5:=(h.wok.free b _ _ h2).low rfl
    have h6:=partAV_le hv
    have h7:=h4.1
    simp at h7
    omega
  rw [pval_low hlo] at hb2
  obtain ⟨d,hd⟩:=okT_iff ht
  obtain ⟨u,hr,hcase⟩:=loadVar_sim (P:=P) (b:=b) (off0:=0) (off:=off) (us:=c.toList) w hd hv h4.1 (fun i u hu=>cell_of_cells h1 i u hu)
  rw [Nat.zero_add] at hr
  have hvr:VR e none none (copyv (shiftV l v)) u:=by
    rcases hcase with ⟨_,rfl,rfl⟩ | ⟨_,g1,g2⟩
    · refine VR.copyv _ none none (some fun o=>.cell l i (off + o)) none _ (VR.shiftV ?_)
      simp only [VR]
      exact ⟨_,rfl,by simpa using h4.vrs.cut off (sizeB P t)⟩
    · exact VR.copyv _ (some (.cell l i off)) none none none u (VR.shiftV (h4.2 off v u g1 g2))
  have hs:RR n A e (bif dr then { s with lds:=addLd l i s.lds } else s) a w:=by cases dr; exact h; exact h.lds _
  refine ⟨e,w,u,.inl (exec_load ho hb2 hr),hs,hvr.weak,fun src hs'=>?_,Grow.refl _ _ _,fun _ _ _ h=>h⟩
  rcases hcase with ⟨g0,_,_⟩ | ⟨g0,g1,g2⟩
  · rw [g0] at hs'; cases hs'
  · rw [g0] at hs'
    cases hs'
    exact ⟨b,hb,by simp only [World.cell?,h1]; simpa using g2⟩
theorem CRs.len_of {e:Env} {b off:Nat} {cs:List AV} (h:CRs e b off cs) (hw:WOK e w):∃ us:List Value,cs.length = us.length ∧ (∀ i u,us[i]? = some u → w.cell? ⟨b,off + i,none⟩ = some u) ∧ VRs e none 0 cs us:=by
  induction cs generalizing off with
  | nil=>exact ⟨[],rfl,by simp,by simp [VRs]⟩
  | cons c cs ih =>
    simp only [CRs] at h
    obtain ⟨⟨u,h1,h2⟩,h3⟩:=h
    obtain ⟨us,g1,g2,g3⟩:=ih h3
    refine ⟨u :: us,by simp [g1],fun i v hv=>?_,?_⟩
    · cases i with
      | zero=>simp at hv; subst hv; exact hw.holds b off _ h1
      | succ i =>
        have:=g2 i v (by simpa using hv)
        rwa [show off + 1 + i = off + (i + 1) by omega] at this
    · rw [VRs.cons]
      refine ⟨u,us,rfl,by simpa using h2,VRs.of g3.len fun i x v hx hv=>?_⟩
      obtain ⟨v',e1,e2⟩:=g3.get i x hx
      rw [hv] at e1; cases e1
      simpa using e2
theorem load_cptr_sim (h:RR n A e s a w) {t:TypeId} {x:Operand} {off:Nat} {cs:List AV} {v:AV} (ho:o.op = .load t x) (hx:okOp n x) (ht:okT P t = true) (ex:ev P s 0 x = .cptr cs off) (hv:partAV P t cs off = some v) :
    Done P n A o e a w s (strip v) none:=by
  obtain ⟨p,q,hvx⟩:=ev_sim (P:=P) h 0 hx
  rw [ex] at hvx
  simp only [VR] at hvx
  obtain ⟨b,off0,hb2,hc⟩:=hvx
  obtain ⟨us,g1,g2,g3⟩:=hc.len_of h.wok
  obtain ⟨d,hd⟩:=okT_iff ht
  obtain ⟨u,hr,hcase⟩:=loadVar_sim (P:=P) (b:=b) (off0:=off0) (off:=off) (us:=us) w hd hv g1 g2
  refine Done.pure h (exec_load ho hb2 hr) ?_ (by simp)
  rcases hcase with ⟨_,rfl,rfl⟩ | ⟨_,k1,k2⟩
  · refine VR.strip (.agg ((cs.drop off).take (sizeB P t))) none none none none _ ?_
    simp only [VR]
    exact ⟨_,rfl,by simpa using g3.cut off (sizeB P t)⟩
  · obtain ⟨v',e1,e2⟩:=g3.get off v k1
    rw [k2] at e1; cases e1
    exact VR.strip v _ none none none u e2
def putL:List Value → Nat → List Value → List Value
  | cs,_,[]=>cs
  | cs,o,v :: vs=>putL (cs.set o v) (o + 1) vs
theorem putL_length:∀ (vs cs:List Value) (o:Nat),(putL cs o vs).length = cs.length
  | [],cs,o=>rfl
  | v :: vs,cs,o=>by simp [putL,putL_length vs]
theorem putL_get:∀ (vs cs:List Value) (o i:Nat),o + vs.length ≤ cs.length → (putL cs o vs)[i]? = if o ≤ i ∧ i < o + vs.length then vs[i - o]? else cs[i]?
  | [],cs,o,i,h=>by simp [putL]; intro h1 h2; omega
  | v :: vs,cs,o,i,h=>by
    simp only [List.length_cons] at h
    rw [putL,putL_get vs _ (o + 1) i (by simp; omega),List.getElem?_set]
    by_cases h1:o = i
    · subst h1
      rw [if_neg (by omega),if_pos rfl,if_pos (by omega),if_pos (by simp)]
      simp
    · by_cases h2:o + 1 ≤ i ∧ i < o + 1 + vs.length
      · rw [if_pos h2,if_pos (by simp; omega),show i - o = (i - (o + 1)) + 1 by omega]
        simp
      · rw [if_neg h2,if_neg h1,if_neg (by simp; omega)]
theorem putCells_length:∀ (vs cs:List AV) (o:Nat),(putCells cs o vs).length = cs.length
  | [],cs,o=>rfl
  | v :: vs,cs,o=>by simp [putCells,putCells_length vs,setAt_eq]
theorem putCells_get:∀ (vs cs:List AV) (o i:Nat),o + vs.length ≤ cs.length → (putCells cs o vs)[i]? = if o ≤ i ∧ i < o + vs.length then vs[i - o]? else cs[i]?
  | [],cs,o,i,h=>by simp [putCells]; intro h1 h2; omega
  | v :: vs,cs,o,i,h=>by
    simp only [List.length_cons] at h
    rw [putCells,setAt_eq,putCells_get vs _ (o + 1) i (by simp; omega),List.getElem?_set]
    by_cases h1:o = i
    · subst h1
      rw [if_neg (by omega),if_pos rfl,if_pos (by omega),if_pos (by simp)]
      simp
    · by_cases h2:o + 1 ≤ i ∧ i < o + 1 + vs.length
      · rw [if_pos h2,if_pos (by simp; omega),show i - o = (i - (o + 1)) + 1 by omega]
        simp
      · rw [if_neg h2,if_neg h1,if_neg (by simp; omega)]
theorem heap_setCell_same {b off:Nat} {c:Array Value} {ty:TypeId} {fz:Nat × Nat} {v:Value} (h:w.heap[b]? = some (.cells c ty fz)):(w.setCell ⟨b,off,none⟩ v).heap[b]? = some (.cells (c.setIfInBounds off v) ty fz):=by
  simp [World.setCell,Array.getElem?_modify,h]
theorem heap_setCell_ne {b k:Nat} {off:Nat} {v:Value} (h:k ≠ b):(w.setCell ⟨b,off,none⟩ v).heap[k]? = w.heap[k]?:=by
  simp only [World.setCell,Array.getElem?_modify]
  rw [if_neg (by exact Ne.symm h)]
theorem storeCells_run {b o0:Nat} {ty:TypeId} {lo hi:Nat}:∀ (vs:List Value) (i:Nat) (c:Array Value) (w:World),w.heap[b]? = some (.cells c ty (lo,hi)) → o0 + i + vs.length ≤ c.size → (∀ k,k < c.size → ¬ (lo ≤ k ∧ k < hi)) → (∀ u ∈ vs,u.oneCell' = true) →
    ∃ w',(storeCells ⟨b,o0,none⟩ vs i).run P w = .ok () w' ∧ w'.heap[b]? = some (.cells (putL c.toList (o0 + i) vs).toArray ty (lo,hi)) ∧ (∀ k,k ≠ b → w'.heap[k]? = w.heap[k]?) ∧ w'.heap.size = w.heap.size ∧ w'.os = w.os ∧ w'.tape = w.tape ∧ w'.output = w.output
  | [],i,c,w,h,_,_,_=>⟨w,by simp [storeCells],by simpa [putL] using h,fun _ _=>rfl,rfl,rfl,rfl,rfl⟩
  | v :: vs,i,c,w,h,hl,hz,h1=>by
    simp only [List.length_cons] at hl
    have hc:w.cell? ⟨b,o0 + i,none⟩ = some c[o0 + i]:=by
      simp only [World.cell?,h]; simp
    have hf:w.frozen? ⟨b,o0 + i,none⟩ = false:=by
      simp only [World.frozen?,h]
      have:=hz (o0 + i) (by omega)
      simp only [Bool.and_eq_false_iff,decide_eq_false_iff_not]
      by_cases hlo:lo ≤ o0 + i
      · right; intro hhi; exact this ⟨hlo,by simpa using hhi⟩
      · left; exact hlo
    obtain ⟨w',g1,g2,g3,g4,g5,g6,g7⟩:=storeCells_run (o0:=o0) vs (i + 1) (c.setIfInBounds (o0 + i) v) (w.setCell ⟨b,o0 + i,none⟩ v) (heap_setCell_same h) (by simp; omega) (by simpa using hz) (fun u hu=>h1 u (by simp [hu]))
    refine ⟨w',?_,?_,fun k hk=>(g3 k hk).trans (heap_setCell_ne hk),g4.trans (by simp),g5,g6,g7⟩
    · simp only [storeCells,Sem.run_bind,Addr.add_eq]
      rw [run_store P w _ v _ (h1 v (by simp)),hc]
      simp only [hf,Bool.false_eq_true,if_false,Result.andThen_ok]
      exact g1
    · rw [g2]
      simp [putL,Nat.add_assoc]
theorem leafy_one {e:Env} {p:Option Pl} {q:Option (Nat → Pl)} {x:AV} {v:Value} (hl:leafy x = true) (h:VR e p q x v):v.oneCell' = true ∧ v.cells = #[v]:=by
  cases x <;> simp only [leafy,Bool.false_eq_true] at hl <;> simp only [VR] at h
  · subst h; exact ⟨rfl,rfl⟩
  · obtain ⟨rfl,_⟩:=h; exact ⟨rfl,rfl⟩
  · obtain ⟨z,rfl,_⟩:=h; exact ⟨rfl,rfl⟩
  · obtain ⟨⟨_,_,_,rfl,_⟩,_⟩:=h; exact ⟨rfl,rfl⟩
  · obtain ⟨_,_,rfl⟩:=h; exact pval_one _ _
  · subst h; exact ⟨rfl,rfl⟩
  · obtain ⟨_,_,rfl,_⟩:=h; exact ⟨rfl,rfl⟩
  · obtain ⟨_,_,rfl,_⟩:=h; exact ⟨rfl,rfl⟩
  · subst h; exact ⟨rfl,rfl⟩
  · obtain ⟨⟨_,_,_,rfl,_⟩,_⟩:=h; exact ⟨rfl,rfl⟩
theorem VR.leafy {e:Env} {p:Option Pl} {q q':Option (Nat → Pl)} {x:AV} {v:Value} (hl:Vm.leafy x = true) (h:VR e p q x v):VR e p q' x v:=by
  cases x <;> simp only [Vm.leafy,Bool.false_eq_true] at hl <;> simpa only [VR] using h
theorem leafys_one {e:Env} {q:Option (Nat → Pl)}:∀ {xs:List AV} {j:Nat} {vs:List Value},leafys xs = true → VRs e q j xs vs → ∀ u ∈ vs,u.oneCell' = true
  | [],j,vs,_,h,u,hu=>by rw [VRs.nil.1 h] at hu; cases hu
  | x :: xs,j,vs,hl,h,u,hu=>by
    simp only [leafys,Bool.and_eq_true] at hl
    obtain ⟨v,s,rfl,h1,h2⟩:=VRs.cons.1 h
    rcases List.mem_cons.1 hu with rfl | hu
    · exact (leafy_one hl.1 h1).1
    · exact leafys_one hl.2 h2 u hu
theorem solid_cells {e:Env} {k:Nat} {x:AV} {v:Value} (hs:solid x = true) (h:VR e (some (.io k 0)) (some fun j=>.io k (j + 1)) x v) :
    (cellsOf x).length = v.cells.size ∧ (∀ u ∈ v.cells.toList,u.oneCell' = true) ∧ ∀ i y u,(cellsOf x)[i]? = some y → v.cells.toList[i]? = some u → ∃ j,VR e (some (.io k j)) none y u ∧ ((∃ cs,x = .agg cs) ∧ j = i + 1 ∨ (∀ cs,x ≠ .agg cs) ∧ j = 0 ∧ i = 0):=by
  by_cases hx:∃ cs,x = .agg cs
  · obtain ⟨cs,rfl⟩:=hx
    simp only [VR] at h
    obtain ⟨arr,rfl,h2⟩:=h
    refine ⟨by simpa [cellsOf,Value.cells] using h2.len,by simpa [Value.cells] using leafys_one hs h2,fun i y u hy hu=>⟨i + 1,?_,.inl ⟨⟨cs,rfl⟩,rfl⟩⟩⟩
    obtain ⟨u',e1,e2⟩:=h2.get i y (by simpa [cellsOf] using hy)
    simp only [Value.cells] at hu
    rw [hu] at e1; cases e1
    simpa using e2
  · have hx':∀ cs,x ≠ .agg cs:=fun cs hc=>hx ⟨cs,hc⟩
    have hl:leafy x = true:=by cases x <;> first | exact hs | exact absurd rfl (hx' _)
    have hc:cellsOf x = [x]:=by cases x <;> first | rfl | exact absurd rfl (hx' _)
    obtain ⟨g1,g2⟩:=leafy_one hl h
    rw [hc,g2]
    refine ⟨rfl,by simpa using g1,fun i y u hy hu=>⟨0,?_,.inr ⟨hx',rfl,?_⟩⟩⟩
    · cases i with
      | zero =>
        simp at hy hu; subst hy; subst hu
        exact VR.leafy hl h
      | succ i=>simp at hy
    · cases i with
      | zero=>rfl
      | succ i=>simp at hy
end Go.Vm
namespace Go.Vm
variable {P:Program} {n:Nat} {A:AbsR} {e:Env} {s:RS} {a:Act} {w:World} {o:Oper}
def stF (l i off:Nat):Pl → Pl
  | .io 0 0=>.cell l i off
  | .io 0 (j + 1)=>.cell l i (off + j)
  | p=>p
instance (l i off:Nat):ObF (stF l i off):=⟨fun p=>by unfold stF; split <;> rfl⟩
theorem stF_fix (l i off:Nat):Fix (stF l i off):=⟨fun _ _=>rfl,fun _=>rfl⟩
theorem killOb_some {l i:Nat} {als:Als} {t:Nat} {src:Src} (h:killOb l i als t = some src):als t = some src ∧ src.inOb l i = false:=by
  unfold killOb at h
  cases ha:als t with
  | none=>rw [ha] at h; cases h
  | some s0 =>
    rw [ha] at h
    simp only at h
    cases hs:s0.inOb l i with
    | true=>rw [hs] at h; cases h
    | false=>rw [hs] at h; cases h; exact ⟨rfl,hs⟩
theorem HR.sep (hr:HR A e s.H w) {l i l' i' b b':Nat} (hb:rhoAt e.rho l i = some b) (hb':rhoAt e.rho l' i' = some b') (hne:¬ (l' = l ∧ i' = i)):b' ≠ b:=by
  have key:∀ l i b,rhoAt e.rho l i = some b → ∃ m,e.own b = some (.ob l i,m):=by
    intro l i b hb
    obtain ⟨x,hx⟩:∃ x,getH s.H l i = some x:=by
      have:=hr.par.get l i
      rw [hb] at this
      exact Option.isSome_iff_exists.1 (by rw [← this]; rfl)
    obtain ⟨b',hb',c,ty,fz,h1,h2,_⟩:=hr.ob l i x hx
    rw [hb] at hb'; cases hb'
    exact ⟨_,h2⟩
  obtain ⟨m,hm⟩:=key l i b hb
  obtain ⟨m',hm'⟩:=key l' i' b' hb'
  intro he
  subst he
  rw [hm] at hm'
  simp only [Option.some.injEq,Prod.mk.injEq,Pl.ob.injEq] at hm'
  exact hne ⟨hm'.1.1.symm,hm'.1.2.symm⟩
theorem RR.write {l i off b:Nat} {cs:List AV} {c:Array Value} {ty:TypeId} {fz:Nat × Nat} {w':World} {v:AV} {u:Value} (h:RR n A e s a w)
    (hb:rhoAt e.rho l i = some b) (hg:getH s.H l i = some (.cells cs)) (hc:w.heap[b]? = some (.cells c ty fz)) (hw:w'.heap[b]? = some (.cells (putL c.toList off u.cells.toList).toArray ty fz)) (hx:∀ k,k ≠ b → w'.heap[k]? = w.heap[k]?)
    (hs:solid v = true) (hv:VR e (some (.io 0 0)) (some fun j=>.io 0 (j + 1)) v u) (hfit:off + (cellsOf v).length ≤ cs.length) (hp:(Nat.beq l 0 || noPtr v) = true) :
    RR n A (e.ren (stF l i off)) { s with H:=setH s.H l i (.cells (putCells cs off (cellsOf v))),wr:=(l,i) :: s.wr,als:=killOb l i s.als } a w':=by
  obtain ⟨b',c',ty',fz',hb',h1,h2,h3,h4⟩:=h.hr.get hg
  rw [hb] at hb'; cases hb'
  rw [hc] at h1; cases h1
  have hv:VR (e.dr l) (some (.io 0 0)) (some fun j=>.io 0 (j + 1)) v u:=by
    simp only [Bool.or_eq_true,beq_iff] at hp
    rcases hp with rfl | hp
    · simpa [Env.dr] using hv
    · exact VR.noPtr (e:=e) (e':=e.dr l) rfl rfl v _ _ u hp hv
  obtain ⟨k1,k2,k3⟩:=solid_cells hs hv
  have hlen:(putL c.toList off u.cells.toList).length = c.size:=by rw [putL_length]; simp
  have hcs:cs.length = c.size:=by rw [h4.1]; simp
  refine ⟨⟨fun b' q z hz=>?_,fun b' p m hp=>?_⟩,⟨h.hr.par.setH _ _ _,fun l' i' x hgx=>?_⟩,⟨h.fr.size,fun t ht=>?_⟩,fun t src ht hsrc=>?_⟩
  · have hne:b' ≠ b:=by
      intro he; subst he
      have:=h3 q
      rw [show (e.ren (stF l i off)).cl = e.cl from rfl] at hz
      rw [this] at hz; cases hz
    rw [cell_of_heap (hx b' hne)]
    exact h.wok.holds b' q z hz
  · obtain ⟨p',hp',_⟩:=Env.ren_own_inv hp
    by_cases he:b' = b
    · subst he
      rw [h2] at hp'
      simp only [Option.some.injEq,Prod.mk.injEq] at hp'
      obtain ⟨p0,hp0,rfl⟩:=Env.ren_own_inv hp
      obtain ⟨_,g3⟩:=(h.wok.free b' _ _ hp0).of hc
      exact ((h.wok.free b' _ _ hp0).cells hc hw (by simp [hlen]) g3).ren
    · obtain ⟨p0,hp0,rfl⟩:=Env.ren_own_inv hp
      exact ((h.wok.free b' _ _ hp0).to (hx b' he)).ren
  · by_cases hli:l' = l ∧ i' = i
    · obtain ⟨rfl,rfl⟩:=hli
      rw [getH_setH_same _ _ _ _ _ hg] at hgx
      cases hgx
      refine ⟨b,hb,_,ty,fz,hw,?_,h3,?_⟩
      · have:=Env.ren_own (f:=stF l' i' off) h2
        rw [this]; simp [stF,hlen]
      · simp only
        refine ⟨by rw [putCells_length]; simp [hcs,hlen],fun q av z hav hz=>?_⟩
        rw [putL_get _ _ _ _ (by rw [show u.cells.toList.length = u.cells.size by simp,← k1]; simp; omega)] at hz
        rw [putCells_get _ _ _ _ hfit] at hav
        have hul:u.cells.toList.length = (cellsOf v).length:=by rw [k1]; simp
        by_cases hin:off ≤ q ∧ q < off + (cellsOf v).length
        · rw [if_pos hin] at hav
          rw [if_pos (by rw [hul]; exact hin)] at hz
          obtain ⟨j,g1,g2⟩:=k3 (q - off) av z hav hz
          refine VR.ren (e:=e.dr l') (fun y hy=>?_) (by simp) g1
          simp only [Option.some.injEq] at hy ⊢
          subst hy
          rcases g2 with ⟨_,rfl⟩ | ⟨_,rfl,h0⟩
          · simp only [stF,Pl.cell.injEq,true_and]; omega
          · simp only [stF,Pl.cell.injEq,true_and]; omega
        · rw [if_neg hin] at hav
          rw [if_neg (by rw [hul]; exact hin)] at hz
          exact VR.ren (by simp [stF]) (by simp) (h4.2 q av z hav hz)
    · have hne:l' ≠ l ∨ i' ≠ i:=by
        by_cases hl:l' = l
        · exact .inr fun hi=>hli ⟨hl,hi⟩
        · exact .inl hl
      rw [getH_setH_ne _ _ _ _ _ _ hne] at hgx
      obtain ⟨b2,hb2,c2,ty2,fz2,g1,g2,g3,g4⟩:=h.hr.ob l' i' x hgx
      have hbb:=h.hr.sep hb hb2 hli
      refine ⟨b2,hb2,c2,ty2,fz2,by rw [hx b2 hbb]; exact g1,by have:=Env.ren_own (f:=stF l i off) g2; exact this,g3,?_⟩
      cases x with
      | abs _ _=>exact g4
      | map _=>trivial
      | cells cs2=>exact CellsR.ren (fun _=>rfl) g4
  · exact VR.ren (by simp [stF]) (by simp [stF]) (h.fr.val t ht)
  · obtain ⟨g1,g2⟩:=killOb_some hsrc
    refine (h.als t src ht g1).env (fun _ _ _ h=>h) fun l' i' q hq b2 hb2=>?_
    subst hq
    refine cell_of_heap (hx b2 (h.hr.sep hb hb2 fun hh=>?_))
    obtain ⟨rfl,rfl⟩:=hh
    simp only [Src.inOb] at g2
    rw [(beq_iff l' l').2 rfl,(beq_iff i' i').2 rfl] at g2
    cases g2
theorem HR.noown (hr:HR A e s.H w) {l i b:Nat} (hb:rhoAt e.rho l i = some b):∃ m,e.own b = some (.ob l i,m):=by
  obtain ⟨x,hx⟩:∃ x,getH s.H l i = some x:=by
    have:=hr.par.get l i
    rw [hb] at this
    exact Option.isSome_iff_exists.1 (by rw [← this]; rfl)
  obtain ⟨b',hb',c,ty,fz,h1,h2,_⟩:=hr.ob l i x hx
  rw [hb] at hb'; cases hb'
  exact ⟨_,h2⟩
theorem Grow.write {l i b:Nat} {f:Pl → Pl} {w':World} {wr:Wr} (hr:HR A e s.H w) (hf:∀ p,f (.hid p) = .hid p) (hb:rhoAt e.rho l i = some b) (hx:∀ k,k ≠ b → w'.heap[k]? = w.heap[k]?) (h1:w'.os = w.os) (h2:w'.tape = w.tape) (h3:w'.output = w.output) (h4:w'.heap.size = w.heap.size) :
    Grow e w (e.ren f) w' ((l,i) :: wr) where
  os:=h1
  tape:=h2
  output:=h3
  size:=by rw [h4]; exact Nat.le_refl _
  cl:=ClLe.refl _
  stay:=fun b' hb' ho=>by
    obtain ⟨m,hm⟩:=hr.noown hb
    have hne:b' ≠ b:=by
      intro he; subst he
      rw [hm] at ho
      rcases ho with ho | ⟨p,k,ho⟩
      · cases ho
      · simp at ho
    refine ⟨hx b' hne,?_,fun _=>rfl⟩
    rcases ho with ho | ⟨p,k,ho⟩
    · simp [Env.ren,ho]
    · simp [Env.ren,ho,hf]
  rho:=fun _ _ _ h=>h
  obs:=fun l' i' b' hb' hm=>by
    refine hx b' (hr.sep hb hb' fun hh=>?_)
    obtain ⟨rfl,rfl⟩:=hh
    simp [memWr,(beq_iff l' l').2 rfl,(beq_iff i' i').2 rfl] at hm
theorem Env.ren_ren (f g:Pl → Pl) (e:Env):(e.ren f).ren g = e.ren (g ∘ f):=by
  obtain ⟨rho,own,cl⟩:=e
  simp only [Env.ren,Env.mk.injEq,true_and,and_true]
  funext b
  cases own b <;> rfl
theorem store_sim (h:RR n A e s a w) {t:TypeId} {x y:Operand} {l i off:Nat} {cs:List AV} {v:AV} {s1:RS} (ho:o.op = .store t x y) (hx:okOp n x) (hy:okOp n y) (ht:okT P t = true) (ex:ev P s 0 x = .ptr l i off) (htk:tk P s t y = (v,s1)) (hg:getH s1.H l i = some (.cells cs))
    (hsz:(cellsOf v).length = sizeB P t) (hfit:off + (cellsOf v).length ≤ cs.length) (hs:solid v = true) (hp:(Nat.beq l 0 || noPtr v) = true) :
    Done P n A o e a w { s1 with H:=setH s1.H l i (.cells (putCells cs off (cellsOf v))),wr:=(l,i) :: s1.wr,als:=killOb l i s1.als } (.tuple []) none:=by
  obtain ⟨p,q,hvx⟩:=ev_sim (P:=P) h 0 hx
  rw [ex] at hvx
  simp only [VR] at hvx
  obtain ⟨b,hb,hb2⟩:=hvx
  obtain ⟨f,hf,hio,h1,h2,h3,h4⟩:=tk_sim (P:=P) h 0 t hy
  rw [htk] at h1 h2 h3 h4
  simp only at h1 h2 h3 h4
  obtain ⟨b',c,ty,fz,hb',g1,g2,g3,g4⟩:=h1.hr.get hg
  have hb1:rhoAt (e.ren f).rho l i = some b:=hb
  rw [hb1] at hb'; cases hb'
  obtain ⟨d,hd⟩:=okT_iff ht
  obtain ⟨k1,k2,k3⟩:=solid_cells hs h2
  have hlo:off < mapO:=by
    have h5:=(h1.wok.free b _ _ g2).low rfl
    have h7:=g4.1
    simp at h7
    omega
  rw [pval_low hlo] at hb2
  obtain ⟨lo,hi⟩:=fz
  obtain ⟨m2,m3⟩:=(h1.wok.free b _ _ g2).of g1
  have hcs:cs.length = c.size:=by rw [g4.1]; simp
  obtain ⟨w',r1,r2,r3,r4,r5,r6,r7⟩:=storeCells_run (P:=P) (b:=b) (o0:=off) (a.eval y).cells.toList 0 c w g1 (by simp; rw [← k1]; omega) (fun k hk hh=>by rcases m3 with m3 | m3 <;> omega) k2
  have hrun:(execOp a.eval o).run P w = .ok .skip w':=by
    refine exec_u (S:=Instr.storeAt t (a.eval x) (a.eval y)) (by unfold execOp; rw [ho]) ?_
    rw [hb2]
    simp only [Instr.storeAt,Instr.sureAddr,Sem.run_bind,Sem.run_pure,Result.andThen_ok,storeVar,sizeOf_run w hd,if_neg (show ¬ (a.eval y).cells.size ≠ sizeB P t by rw [← k1,hsz]; simp),r1]
  rw [Nat.add_zero] at r2
  have hR:=RR.write h1 hb1 hg g1 r2 r3 hs h2 hfit hp
  refine ⟨_,w',.tuple #[],.inr ⟨hrun,rfl⟩,hR,by simp only [VR]; exact ⟨#[],rfl,by simp [VRs]⟩,by simp,?_,fun _ _ _ h=>h⟩
  rw [Env.ren_ren]
  exact Grow.write h.hr (fun p=>by simp [Function.comp,hf.hid,stF]) hb r3 r5 r6 r7 r4
end Go.Vm
