/- A part of an evaluator of loaded programs and of the proof that it is right. Conditions: none. -/
import Derived.Test.YtdnghpfmobnjlaaGreatVd
set_option linter.unusedVariables false
set_option linter.unusedSimpArgs false
namespace Go.Vm
variable {P:Program} {cf:CallK} {cfg:Cfg} {s:RS} {o:Oper}
def rdO:Operand → List Nat
  | .tmp t=>[t]
  | _=>[]
def rdOs:List Operand → List Nat
  | []=>[]
  | x :: r=>rdO x ++ rdOs r
def rdOo:Option Operand → List Nat
  | some x=>rdO x
  | none=>[]
def rds:Op → List Nat
  | .move x | .assign x | .box _ x | .load _ x | .nilCheck x | .unOp _ _ x | .convert _ _ x | .fieldAddr _ x _ | .field _ x _ | .extract x _=>rdO x
  | .store _ x y | .binOp _ _ x y _ | .makeSlice _ x y | .indexAddr _ x y | .index _ x y=>rdO x ++ rdO y
  | .pick c x y=>rdO c ++ (rdO x ++ rdO y)
  | .build _ ps=>rdOs (mapN (·.2) ps.toList)
  | .buildSlice _ _ ps=>rdOs (mapN (·.2) ps.toList)
  | .makeFunc _ f c=>rdOs f.toList ++ rdOs c.toList
  | .slice _ x lo hi mx=>rdO x ++ (rdOo lo ++ (rdOo hi ++ rdOo mx))
  | .call c=>rdOs c.args.toList ++ (match c.callee with | .value x=>rdO x | _=>[])
  | _=>[]
def addLdo (ld:Option (Nat × Nat)) (f:Lds):Lds:=match ld with | some (l,i)=>addLd l i f | none=>f
def mu (d:Nat) (v:AV) (l:Option Src) (ld:Option (Nat × Nat)) (s:RS):RS :=
  { fr:=upd s.fr d v,als:=setAl d l s.als,H:=s.H,wr:=s.wr,lds:=addLdo ld s.lds }
def NoUse (d:Nat) (als:Als):Prop:=∀ t src,als t = some src → src.uses d = false
def mapS (m:RS → RS):Plan → Plan
  | .no=>.no
  | .yes c s v l=>.yes c (m s) v l
  | .two c s a b=>.two c (m s) a b
  | .elt T o s f=>.elt T o (m s) f
  | .sel n s vs=>.sel n (m s) vs
  | .call g args s=>.call g args (m s)
theorem mapS_bif {m:RS → RS} {b:Bool} {x:Plan}:mapS m (bif b then x else .no) = bif b then mapS m x else .no:=by cases b <;> rfl
section
variable {d:Nat} {v:AV} {l:Option Src} {ld:Option (Nat × Nat)}
theorem ev_mu {t:TypeId} {x:Operand} (h:d ∉ rdO x):ev P (mu d v l ld s) t x = ev P s t x:=by
  cases x with
  | tmp y=>simp only [ev,mu]; exact upd_ne _ _ (by intro e; subst e; simp [rdO] at h)
  | _=>rfl
theorem evo_mu {t:TypeId} {x:Option Operand} (h:d ∉ rdOo x):evo P (mu d v l ld s) t x = evo P s t x:=by
  cases x with
  | none=>rfl
  | some y=>simp only [evo]; rw [ev_mu h]
theorem NoUse.stripAt {src:Src} (h:NoUse d s.als):NoUse d (s.stripAt src).als:=by
  have:(s.stripAt src).als = s.als:=by
    cases src with
    | slot x=>rfl
    | comp x j=>rfl
    | cell l i o=>simp only [RS.stripAt]; split <;> rfl
  rw [this]; exact h
theorem upd_comm (f:Fr) {a b:Nat} (x y:AV) (h:a ≠ b):upd (upd f a x) b y = upd (upd f b y) a x:=by
  funext t
  by_cases h1:t = a
  · subst h1; rw [upd_ne _ _ h,upd_same,upd_same]
  · by_cases h2:t = b
    · subst h2; rw [upd_same,upd_ne _ _ h1,upd_same]
    · rw [upd_ne _ _ h2,upd_ne _ _ h1,upd_ne _ _ h1,upd_ne _ _ h2]
theorem stripAt_mu {src:Src} (h:src.uses d = false):(mu d v l ld s).stripAt src = mu d v l ld (s.stripAt src):=by
  cases src with
  | slot x =>
    have hx:x ≠ d:=by simpa [Src.uses,beq_false] using h
    simp only [RS.stripAt,mu]
    rw [upd_ne _ _ hx,upd_comm _ _ _ (Ne.symm hx)]
  | comp x j =>
    have hx:x ≠ d:=by simpa [Src.uses,beq_false] using h
    simp only [RS.stripAt,mu]
    rw [upd_ne _ _ hx,upd_comm _ _ _ (Ne.symm hx)]
  | cell l i o =>
    simp only [RS.stripAt,mu]
    split <;> simp_all
theorem valAt_mu {src:Src} (h:src.uses d = false):(mu d v l ld s).valAt src = s.valAt src:=by
  cases src with
  | slot x =>
    have hx:x ≠ d:=by simpa [Src.uses,beq_false] using h
    simp only [RS.valAt,mu]; exact upd_ne _ _ hx
  | comp x j =>
    have hx:x ≠ d:=by simpa [Src.uses,beq_false] using h
    simp only [RS.valAt,mu]; rw [upd_ne _ _ hx]
  | cell l i o=>rfl
theorem als_mu {t:Nat} (ht:t ≠ d) (h:NoUse d s.als):(mu d v l ld s).als t = s.als t:=by
  simp only [mu,setAl,beq_false.2 ht,cond_false]
  cases ha:s.als t with
  | none=>rfl
  | some src=>simp only [h t src ha,cond_false]
theorem ownSrc_mu {t:Nat} (ht:t ≠ d) (h:NoUse d s.als):(mu d v l ld s).ownSrc t = s.ownSrc t:=by
  have h1:(mu d v l ld s).fr t = s.fr t:=upd_ne _ _ ht
  unfold RS.ownSrc
  rw [h1,als_mu ht h]
  cases ha:s.als t with
  | none=>rfl
  | some src=>simp only [valAt_mu (h t src ha)]
theorem ownSrc_uses {t:Nat} {src:Src} (ht:t ≠ d) (h:NoUse d s.als) (hs:s.ownSrc t = some src):src.uses d = false:=by
  unfold RS.ownSrc at hs
  cases ho:isOwn (s.fr t) with
  | true =>
    rw [ho] at hs
    simp only [cond_true,Option.some.injEq] at hs
    subst hs
    exact beq_false.2 ht
  | false =>
    rw [ho] at hs
    simp only [cond_false] at hs
    cases ha:s.als t with
    | none=>rw [ha] at hs; cases hs
    | some s0 =>
      rw [ha] at hs
      simp only at hs
      rcases cond_some (α:=Src) (y:=none) hs with ⟨_,hs⟩ | ⟨_,hs⟩
      · cases hs; exact h t _ ha
      · cases hs
theorem take_mu {t:Nat} (ht:t ≠ d) (h:NoUse d s.als):(mu d v l ld s).take t = ((s.take t).1,mu d v l ld (s.take t).2) ∧ NoUse d (s.take t).2.als:=by
  unfold RS.take
  rw [ownSrc_mu ht h]
  cases hs:s.ownSrc t with
  | none =>
    simp only
    refine ⟨?_,NoUse.stripAt h⟩
    rw [stripAt_mu (src:=.slot t) (beq_false.2 ht)]
    have h1:(mu d v l ld s).fr t = s.fr t:=upd_ne _ _ ht
    rw [h1]
  | some src =>
    simp only
    have hu:=ownSrc_uses ht h hs
    exact ⟨by rw [valAt_mu hu,stripAt_mu hu],NoUse.stripAt h⟩
theorem tk_mu {t:TypeId} {x:Operand} (hx:d ∉ rdO x) (h:NoUse d s.als):tk P (mu d v l ld s) t x = ((tk P s t x).1,mu d v l ld (tk P s t x).2) ∧ NoUse d (tk P s t x).2.als:=by
  cases x with
  | tmp y =>
    have hy:y ≠ d:=by intro e; subst e; simp [rdO] at hx
    exact take_mu hy h
  | _=>exact ⟨rfl,h⟩
theorem takeArgs_mu {own:List Nat} {tys:List TypeId}:∀ (xs:List Operand) (s:RS) (i:Nat),d ∉ rdOs xs → NoUse d s.als → takeArgs P own (mu d v l ld s) tys i xs = ((takeArgs P own s tys i xs).1,mu d v l ld (takeArgs P own s tys i xs).2) ∧ NoUse d (takeArgs P own s tys i xs).2.als
  | [],s,i,_,h=>⟨rfl,h⟩
  | x :: xs,s,i,hx,h=>by
    simp only [rdOs,List.mem_append,not_or] at hx
    cases hm:memN i own with
    | true =>
      have hk:=fun t=>tk_mu (P:=P) (v:=v) (l:=l) (ld:=ld) (t:=t) hx.1 h
      simp only [takeArgs,hm,cond_true]
      rw [(hk _).1]
      simp only
      rw [(takeArgs_mu xs _ (i + 1) hx.2 (hk _).2).1]
      exact ⟨rfl,(takeArgs_mu xs _ (i + 1) hx.2 (hk _).2).2⟩
    | false =>
      obtain ⟨h3,h4⟩:=takeArgs_mu (own:=own) (tys:=tys) xs s (i + 1) hx.2 h
      simp only [takeArgs,hm,cond_false]
      rw [ev_mu hx.1,h3]
      exact ⟨rfl,h4⟩
theorem evs_mu {f:Nat × Operand → TypeId}:∀ (ps:List (Nat × Operand)),d ∉ rdOs (mapN (·.2) ps) → mapN (fun p=>strip (ev P (mu d v l ld s) (f p) p.2)) ps = mapN (fun p=>strip (ev P s (f p) p.2)) ps
  | [],_=>rfl
  | p :: ps,h=>by
    simp only [mapN,rdOs,List.mem_append,not_or] at h
    simp only [mapN,ev_mu h.1,evs_mu ps h.2]
theorem evl_mu {t:TypeId}:∀ (xs:List Operand),d ∉ rdOs xs → mapN (fun x=>strip (ev P (mu d v l ld s) t x)) xs = mapN (fun x=>strip (ev P s t x)) xs
  | [],_=>rfl
  | p :: ps,h=>by
    simp only [rdOs,List.mem_append,not_or] at h
    simp only [mapN,ev_mu h.1,evl_mu ps h.2]
theorem intop_mu (op:BinOp) (k:IntKind) (x y:Int):intop op k x y (mu d v l ld s) = mapS (mu d v l ld) (intop op k x y s):=by cases op <;> rfl
theorem binop_mu (op:BinOp) (t:TypeId) (x y:AV):binop P op t x y (mu d v l ld s) = mapS (mu d v l ld) (binop P op t x y s):=by
  unfold binop nilEq nilEqS
  repeat' split
  all_goals first | rfl | exact intop_mu _ _ _ _ | (cases Nat.blt _ mapO <;> rfl)
theorem addLd_comm (l i:Nat) (ld:Option (Nat × Nat)) (f:Lds):addLd l i (addLdo ld f) = addLdo ld (addLd l i f):=by
  cases ld with
  | none=>rfl
  | some x =>
    obtain ⟨a,b⟩:=x
    funext p q
    simp only [addLdo,addLd]
    rw [Bool.or_left_comm]
theorem killOb_setAl {l' i:Nat} {als:Als} (hl:∀ a b q,l = some (.cell a b q) → ¬ (a = l' ∧ b = i)):killOb l' i (setAl d l als) = setAl d l (killOb l' i als):=by
  funext t
  by_cases ht:t = d
  · subst ht
    simp only [killOb,setAl,(beq_iff t t).2 rfl,cond_true]
    cases l with
    | none=>rfl
    | some s0 =>
      simp only
      cases hu:s0.uses t with
      | true=>rfl
      | false =>
        simp only [cond_false]
        cases s0 with
        | slot x=>rfl
        | comp x j=>rfl
        | cell a b q =>
          have:=hl a b q rfl
          simp only [Src.inOb]
          cases h1:Nat.beq l' a with
          | false=>rfl
          | true =>
            cases h2:Nat.beq i b with
            | false=>rfl
            | true=>exact absurd ⟨((beq_iff _ _).1 h1).symm,((beq_iff _ _).1 h2).symm⟩ this
  · simp only [killOb,setAl,beq_false.2 ht,cond_false]
    cases als t with
    | none=>rfl
    | some s0 =>
      simp only
      cases hu:s0.uses d with
      | true=>cases h3:s0.inOb l' i <;> simp [hu,h3]
      | false=>cases h3:s0.inOb l' i <;> simp [hu,h3]
theorem killWr_setAl:∀ {w:Wr} {als:Als},(∀ a b q,l = some (.cell a b q) → memWr a b w = false) → killWr w (setAl d l als) = setAl d l (killWr w als)
  | [],als,_=>rfl
  | (a,b) :: w,als,h=>by
    simp only [killWr]
    rw [killOb_setAl (fun x y q hx hh=>by
      obtain ⟨rfl,rfl⟩:=hh
      have:=h x y q hx
      simp [memWr,(beq_iff x x).2 rfl,(beq_iff y y).2 rfl] at this),killWr_setAl fun x y q hx=>by
      have:=h x y q hx
      simp only [memWr,Bool.or_eq_false_iff] at this
      exact this.2]
end
end Go.Vm
namespace Go.Vm
variable {P:Program} {cf:CallK} {cfg:Cfg} {s:RS} {o:Oper}
section
variable {d:Nat} {v:AV} {l:Option Src} {ld:Option (Nat × Nat)}
def AddrNe (P:Program) (o:Oper) (s:RS) (ld:Option (Nat × Nat)):Prop:=∀ t a x,o.op = .store t a x → ∀ l i off,ev P s 0 a = .ptr l i off → ld ≠ some (l,i)
def isMapUpd:Op → Bool
  | .mapUpdate ..=>true
  | _=>false
theorem mu_H:(mu d v l ld s).H = s.H:=rfl
theorem mu_wr:(mu d v l ld s).wr = s.wr:=rfl
theorem plan_mu (hmu:isMapUpd o.op = false) (hd:d ∉ rds o.op) (hu:NoUse d s.als) (hs:notStore o.op = true ∨ AddrNe P o s ld) (hll:∀ a b q,l = some (.cell a b q) → ld = some (a,b)):plan P cfg true o (mu d v l ld s) = mapS (mu d v l ld) (plan P cfg true o s):=by
  unfold plan
  cases hop:o.op <;> rw [hop] at hd hs hmu <;> simp only [rds,List.mem_append,not_or] at hd <;> simp only
  case move x=>rw [ev_mu hd]; cases x <;> rfl
  case assign x=>rw [(tk_mu (P:=P) hd hu).1]; rfl
  case pick c a b =>
    rw [ev_mu hd.1,ev_mu hd.2.1,ev_mu hd.2.2]
    split <;> rfl
  case alloc e =>
    rw [mu_H]
    split <;> first | rfl | (rw [mapS_bif]; rfl)
  case box e x =>
    rw [(tk_mu (P:=P) hd hu).1]
    simp only [mu_H]
    split <;> first | rfl | (rw [mapS_bif]; rfl)
  case build t ps =>
    simp only [cond_true]
    unfold buildD
    simp only [evs_mu (f:=fun p=>fieldTy _ p.1) _ hd]
    split
    · split
      · split
        · rw [mapS_bif]; rfl
        · rfl
      · rfl
    · rfl
  case buildSlice t len ps =>
    try dsimp only
    cases isRowT P t with
    | true =>
      simp only [cond_true]
      unfold buildRowD
      simp only [evs_mu (f:=fun _=>_) _ hd]
      repeat' split
      all_goals rfl
    | false =>
    simp only [cond_false]
    unfold buildSliceA
    simp only [evs_mu (f:=fun _=>_) _ hd]
    split
    · split
      · rw [mapS_bif]
        congr 1
        split
        · split <;> rfl
        · rfl
      · rfl
    · rfl
  case load t a =>
    simp only [cond_true]
    rw [mapS_bif]
    congr 1
    unfold loadA
    rw [ev_mu hd]
    split
    · rename_i l0 i off ex
      rw [mu_H]
      split
      · split
        · simp only [Bool.true_and,cond_true,mu_wr]
          cases memWr l0 i s.wr
          · simp only [cond_false,mapS]
            congr 1
            simp only [mu,RS.mk.injEq,true_and,and_true]
            exact addLd_comm _ _ _ _
          · rfl
        · rfl
      · rfl
    · split <;> rfl
    · rfl
  case store t a x =>
    have hne:=hs.resolve_left (by simp [notStore])
    have hfree:freeA P (true && cfg.ls) a (mu d v l ld s) = freeA P (true && cfg.ls) a s:=by
      unfold freeA
      rw [ev_mu hd.1]
      cases hev:ev P s 0 a <;> first | rfl | skip
      rename_i l0 i off
      have h0:=hne t a x hop l0 i off hev
      have:(mu d v l ld s).lds l0 i = s.lds l0 i:=by
        show addLdo ld s.lds l0 i = _
        cases ld with
        | none=>rfl
        | some ab =>
          obtain ⟨a',b'⟩:=ab
          simp only [addLdo,addLd]
          have:(Nat.beq l0 a' && Nat.beq i b') = false:=by
            cases h1:Nat.beq l0 a' with
            | false=>rfl
            | true =>
              cases h2:Nat.beq i b' with
              | false=>rfl
              | true =>
                rw [(beq_iff _ _).1 h1,(beq_iff _ _).1 h2] at h0
                exact absurd rfl h0
          rw [this,Bool.false_or]
      simp only [this]
    rw [hfree,mapS_bif]
    congr 1
    unfold storeA
    rw [ev_mu hd.1,(tk_mu (P:=P) hd.2 hu).1]
    split
    · rename_i l0 i off v1 s1 ex htk
      simp only [Prod.mk.injEq] at htk
      obtain ⟨rfl,rfl⟩:=htk
      simp only [ex,mu_H]
      split
      · rw [mapS_bif]
        congr 1
        simp only [mapS]
        congr 1
        simp only [mu,RS.mk.injEq,true_and,and_true]
        exact killOb_setAl fun a' b' q h hc=>by
          have h1:=hll a' b' q h
          rw [hc.1,hc.2] at h1
          exact hne t a x hop _ _ _ ex h1
      · rfl
    · rename_i hno
      cases hx:ev P s 0 a <;> first | rfl | skip
      exact absurd hx (hno _ _ _ _ _ · rfl)
  case nilCheck x=>rw [ev_mu hd]; split <;> rfl
  case binOp op t x y ty =>
    split
    · rw [ev_mu hd.1,ev_mu hd.2]; exact binop_mu _ _ _ _
    · rw [ev_mu hd.1,ev_mu hd.2]; exact binop_mu _ _ _ _
    · rw [ev_mu hd.1,ev_mu hd.2]; exact binop_mu _ _ _ _
  case unOp op t x=>rw [ev_mu hd]; split <;> rfl
  case convert a b x =>
    unfold convertA
    rw [ev_mu hd,(tk_mu (P:=P) hd hu).1]
    dsimp only
    repeat' split
    all_goals rfl
  case makeFunc f xs ys=>rw [evl_mu _ hd.1,evl_mu _ hd.2]; split <;> rfl
  case makeSlice t x y =>
    unfold makeSliceA
    rw [ev_mu hd.1,ev_mu hd.2]
    repeat' split
    all_goals rfl
  case slice t x lo hi mx =>
    unfold sliceA
    rw [ev_mu hd.1,evo_mu hd.2.1,evo_mu hd.2.2.1,evo_mu hd.2.2.2]
    repeat' split
    all_goals rfl
  case fieldAddr t x f=>rw [ev_mu hd]; split <;> first | rfl | (rw [mapS_bif]; rfl)
  case field t x f =>
    rw [ev_mu hd]
    repeat' split
    all_goals rfl
  case indexAddr t x i =>
    try dsimp only
    unfold indexAddrA
    rw [ev_mu hd.1,ev_mu hd.2]
    split
    · rw [mapS_bif]; rfl
    · rw [mapS_bif]; rfl
    · rw [mapS_bif]; rfl
    · rfl
  case index t x i =>
    unfold indexA
    rw [ev_mu hd.1,ev_mu hd.2]
    repeat' split
    all_goals rfl
  case extract x j =>
    unfold extractA
    cases x with
    | tmp y =>
      have hy:y ≠ d:=by intro e; subst e; simp [rdO] at hd
      have h1:(mu d v l ld s).fr y = s.fr y:=upd_ne _ _ hy
      simp only [h1,cond_true]
      split
      · split <;> rfl
      · rfl
    | _=>rfl
  case makeMap t r =>
    cases r with
    | some x=>rfl
    | none =>
      simp only
      unfold makeMapA
      rw [mu_H]
      split <;> rfl
  case mapUpdate=>cases hmu
  case call c =>
    try dsimp only
    unfold callA
    cases hc:c.callee with
    | builtin b =>
      rw [hc] at hd
      cases b <;> simp only
      case len =>
        split
        · rename_i x t ha ht
          rw [ha] at hd
          simp only [rdOs,List.append_nil] at hd
          cases isMapT P t with
          | true =>
            simp only
            unfold mapLenA
            have hM:mapAt P (mu d v l ld s) t x = mapAt P s t x:=by unfold mapAt; rw [ev_mu hd.1]; rfl
            rw [hM]
            cases mapAt P s t x <;> rfl
          | false =>
            simp only
            unfold lenA
            rw [ev_mu hd.1]
            repeat' split
            all_goals rfl
        · rfl
      case min =>
        split
        · rename_i x y t t' ha ht
          rw [ha] at hd
          simp only [rdOs,List.append_nil,List.mem_append,not_or] at hd
          unfold minMaxA
          rw [ev_mu hd.1.1,ev_mu hd.1.2]
          repeat' split
          all_goals rfl
        · rfl
      case max =>
        split
        · rename_i x y t t' ha ht
          rw [ha] at hd
          simp only [rdOs,List.append_nil,List.mem_append,not_or] at hd
          unfold minMaxA
          rw [ev_mu hd.1.1,ev_mu hd.1.2]
          repeat' split
          all_goals rfl
        · rfl
      case append =>
        split
        · rename_i x y t u ha ht
          rw [ha] at hd
          simp only [rdOs,List.append_nil,List.mem_append,not_or] at hd
          unfold appendA
          rw [(tk_mu (P:=P) hd.1.1 hu).1]
          simp only
          rw [ev_mu hd.1.2]
          repeat' split
          all_goals first | rfl | simp_all
        · rfl
      all_goals rfl
    | value f =>
      rw [hc] at hd
      simp only at hd
      cases f with
      | func g =>
        simp only
        rw [(takeArgs_mu (P:=P) c.args.toList s 0 hd.1 hu).1]
        rfl
      | tmp y =>
        have hy:y ≠ d:=by intro e; subst e; simp [rdO] at hd
        have h1:(mu d v l ld s).fr y = s.fr y:=upd_ne _ _ hy
        simp only [h1]
        cases s.fr y with
        | func g a b =>
          simp only
          rw [(takeArgs_mu (P:=P) c.args.toList s 0 hd.1 hu).1]
          rfl
        | _=>rfl
      | _=>rfl
    | _=>rfl
  all_goals rfl
end
end Go.Vm
set_option linter.unnecessarySimpa false
namespace Go.Vm
variable {P:Program} {cf:CallK} {cfg:Cfg} {s s1:RS} {o:Oper}
def CE (a b:AV):Prop:=copyv a = copyv b
def CEs (a b:List AV):Prop:=copyv.copyvs a = copyv.copyvs b
mutual
theorem strip_copyv:∀ a:AV,strip (copyv a) = strip a
  | .undef=>rfl
  | .bool _=>rfl
  | .int _ _=>rfl
  | .str _=>rfl
  | .slice _ _ lv=>by cases lv <;> rfl
  | .ptr _ _ _=>rfl
  | .nilp=>rfl
  | .cptr _ _=>rfl
  | .func _ _ _=>rfl
  | .nilf=>rfl
  | .agg cs=>by simp only [copyv,strip,strips_copyvs cs]
  | .tuple cs=>by simp only [copyv,strip,strips_copyvs cs]
  | .row _ lv=>by cases lv <;> rfl
theorem strips_copyvs:∀ as:List AV,strip.strips (copyv.copyvs as) = strip.strips as
  | []=>rfl
  | a :: r=>by simp only [copyv.copyvs,strip.strips,strip_copyv a,strips_copyvs r]
end
theorem CE.strip {a b:AV} (h:CE a b):Vm.strip a = Vm.strip b:=by rw [← strip_copyv a,← strip_copyv b,h]
theorem CE.refl (a:AV):CE a a:=rfl
theorem CE.cases {a b:AV} (h:CE a b):a = b ∨ (∃ T xs l1 l2,a = .slice T xs l1 ∧ b = .slice T xs l2) ∨ (∃ c c',a = .agg c ∧ b = .agg c' ∧ CEs c c') ∨ (∃ c c',a = .tuple c ∧ b = .tuple c' ∧ CEs c c') ∨ (∃ c l1 l2,a = .row c l1 ∧ b = .row c l2):=by
  have hsl:∀ T xs lv,∃ l',copyv (.slice T xs lv) = .slice T xs l':=fun T xs lv=>by cases lv <;> exact ⟨_,rfl⟩
  have hrw:∀ c lv,∃ l',copyv (.row c lv) = .row c l':=fun c lv=>by cases lv <;> exact ⟨_,rfl⟩
  unfold CE at h
  cases a with
  | slice T xs lv =>
    obtain ⟨l',hl⟩:=hsl T xs lv
    rw [hl] at h
    cases b with
    | slice T' xs' lv' =>
      obtain ⟨l2,hl2⟩:=hsl T' xs' lv'
      rw [hl2] at h
      injection h with h1 h2 h3
      subst h1
      have:=eq_of_heq h2
      subst this
      exact .inr (.inl ⟨_,_,_,_,rfl,rfl⟩)
    | row c lv=>obtain ⟨l2,hl2⟩:=hrw c lv; rw [hl2] at h; cases h
    | _=>simp [copyv] at h
  | row c lv =>
    obtain ⟨l',hl⟩:=hrw c lv
    rw [hl] at h
    cases b with
    | slice T' xs' lv'=>obtain ⟨l2,hl2⟩:=hsl T' xs' lv'; rw [hl2] at h; cases h
    | row c' lv' =>
      obtain ⟨l2,hl2⟩:=hrw c' lv'
      rw [hl2] at h
      injection h with h1 h2
      subst h1
      exact .inr (.inr (.inr (.inr ⟨_,_,_,rfl,rfl⟩)))
    | _=>simp [copyv] at h
  | agg c =>
    cases b with
    | agg c'=>simp only [copyv,AV.agg.injEq] at h; exact .inr (.inr (.inl ⟨_,_,rfl,rfl,h⟩))
    | slice T' xs' lv'=>obtain ⟨l2,hl2⟩:=hsl T' xs' lv'; rw [hl2] at h; simp [copyv] at h
    | row c lv=>obtain ⟨l2,hl2⟩:=hrw c lv; rw [hl2] at h; simp [copyv] at h
    | _=>simp [copyv] at h
  | tuple c =>
    cases b with
    | tuple c'=>simp only [copyv,AV.tuple.injEq] at h; exact .inr (.inr (.inr (.inl ⟨_,_,rfl,rfl,h⟩)))
    | slice T' xs' lv'=>obtain ⟨l2,hl2⟩:=hsl T' xs' lv'; rw [hl2] at h; simp [copyv] at h
    | row c lv=>obtain ⟨l2,hl2⟩:=hrw c lv; rw [hl2] at h; simp [copyv] at h
    | _=>simp [copyv] at h
  | _ =>
    left
    cases b with
    | slice T' xs' lv'=>obtain ⟨l2,hl2⟩:=hsl T' xs' lv'; rw [hl2] at h; simp [copyv] at h
    | row c lv=>obtain ⟨l2,hl2⟩:=hrw c lv; rw [hl2] at h; simp [copyv] at h
    | _=>simpa [copyv] using h
theorem CEs.nth {a b:List AV} (h:CEs a b) (i:Nat):(nth a i = none ∧ nth b i = none) ∨ ∃ x y,nth a i = some x ∧ nth b i = some y ∧ CE x y:=by
  have hg:(copyv.copyvs a)[i]? = (copyv.copyvs b)[i]?:=by rw [h]
  rw [copyvs_get,copyvs_get] at hg
  rw [nth_eq,nth_eq]
  cases ha:a[i]? with
  | none =>
    rw [ha] at hg
    cases hb:b[i]? with
    | none=>exact .inl ⟨rfl,rfl⟩
    | some y=>rw [hb] at hg; cases hg
  | some x =>
    rw [ha] at hg
    cases hb:b[i]? with
    | none=>rw [hb] at hg; cases hg
    | some y =>
      rw [hb] at hg
      simp only [Option.map_some,Option.some.injEq] at hg
      exact .inr ⟨x,y,rfl,rfl,hg⟩
theorem CEs.len {a b:List AV} (h:CEs a b):lenN a = lenN b:=by
  have:(copyv.copyvs a).length = (copyv.copyvs b).length:=by rw [h]
  rw [copyvs_length,copyvs_length] at this
  rw [lenN_eq,lenN_eq,this]
theorem copyvs_cut:∀ (l:List AV) (o n:Nat),copyv.copyvs (cut l o n) = cut (copyv.copyvs l) o n
  | [],o,n=>by simp [cut,copyv.copyvs]
  | a :: r,0,0=>by simp [cut,copyv.copyvs]
  | a :: r,o + 1,0=>by simp [cut,copyv.copyvs]
  | a :: r,0,n + 1=>by simp [cut,copyv.copyvs,copyvs_cut r 0 n]
  | a :: r,o + 1,n + 1=>by simp [cut,copyv.copyvs,copyvs_cut r o (n + 1)]
theorem CEs.part {a b:List AV} (h:CEs a b) (t:TypeId) (i:Nat):(partAV P t a i = none ∧ partAV P t b i = none) ∨ ∃ x y,partAV P t a i = some x ∧ partAV P t b i = some y ∧ CE x y:=by
  unfold partAV
  cases isAggB P t with
  | true =>
    simp only [cond_true,h.len]
    cases Nat.ble (i + sizeB P t) (lenN b) with
    | true =>
      right
      refine ⟨_,_,rfl,rfl,?_⟩
      simp only [CE,copyv,copyvs_cut]
      rw [h]
    | false=>exact .inl ⟨rfl,rfl⟩
  | false=>exact h.nth i
theorem CEs.cons {a b:AV} {r q:List AV} (h:CEs (a :: r) (b :: q)):CE a b ∧ CEs r q:=by
  simp only [CEs,copyv.copyvs,List.cons.injEq] at h; exact h
theorem CEs.nil_cons {b:AV} {q:List AV} (h:CEs [] (b :: q)):False:=by simp [CEs,copyv.copyvs] at h
theorem CEs.cons_nil {b:AV} {q:List AV} (h:CEs (b :: q) []):False:=by simp [CEs,copyv.copyvs] at h
theorem leafEq_ce {a a' b b':AV} (h:CE a a') (k:CE b b'):leafEq a b = leafEq a' b':=by
  rcases h.cases with rfl | ⟨_,_,_,_,rfl,rfl⟩ | ⟨_,_,rfl,rfl,_⟩ | ⟨_,_,rfl,rfl,_⟩ | ⟨_,_,_,rfl,rfl⟩ <;> rcases k.cases with rfl | ⟨_,_,_,_,rfl,rfl⟩ | ⟨_,_,rfl,rfl,_⟩ | ⟨_,_,rfl,rfl,_⟩ | ⟨_,_,_,rfl,rfl⟩ <;> first | rfl | (cases a <;> rfl)
theorem cellsEq_ce:∀ {a a' b b':List AV},CEs a a' → CEs b b' → cellsEq a b = cellsEq a' b'
  | [],[],[],[],_,_=>rfl
  | [],[],y :: b,y' :: b',_,_=>rfl
  | x :: a,x' :: a',[],[],_,_=>rfl
  | x :: a,x' :: a',y :: b,y' :: b',h,k=>by
    simp only [cellsEq]
    rw [leafEq_ce h.cons.1 k.cons.1,cellsEq_ce h.cons.2 k.cons.2]
  | [],x :: _,_,_,h,_=>h.nil_cons.elim
  | x :: _,[],_,_,h,_=>h.cons_nil.elim
  | [],[],[],y :: _,_,k=>k.nil_cons.elim
  | [],[],y :: _,[],_,k=>k.cons_nil.elim
  | _ :: _,_ :: _,[],y :: _,_,k=>k.nil_cons.elim
  | _ :: _,_ :: _,y :: _,[],_,k=>k.cons_nil.elim
theorem plainInts_cons (a b:AV) (r q:List AV):plainInts (a :: r) (b :: q) = (plainB a && (plainB b && plainInts r q)):=rfl
theorem kindB_ce {d:Option TypeDesc} {a b:AV} (h:CE a b):kindB d a = kindB d b:=by
  rcases h.cases with rfl | ⟨_,_,_,_,rfl,rfl⟩ | ⟨_,_,rfl,rfl,_⟩ | ⟨_,_,rfl,rfl,_⟩ | ⟨_,_,_,rfl,rfl⟩ <;> rfl
theorem kindsB_ce:∀ {fs:List Field} {a a':List AV},CEs a a' → kindsB P fs a = kindsB P fs a'
  | [],_,_,_=>by simp [kindsB]
  | f :: fs,[],[],_=>rfl
  | f :: fs,x :: a,x' :: a',h=>by simp only [kindsB]; rw [kindB_ce h.cons.1,kindsB_ce h.cons.2]
  | f :: fs,[],x :: _,h=>h.nil_cons.elim
  | f :: fs,x :: _,[],h=>h.cons_nil.elim
theorem intB_ce {a b:AV} (h:CE a b):plainB a = plainB b:=by
  rcases h.cases with rfl | ⟨_,_,_,_,rfl,rfl⟩ | ⟨_,_,rfl,rfl,_⟩ | ⟨_,_,rfl,rfl,_⟩ | ⟨_,_,_,rfl,rfl⟩ <;> rfl
theorem plainInts_ce:∀ {a a' b b':List AV},CEs a a' → CEs b b' → plainInts a b = plainInts a' b'
  | [],[],[],[],_,_=>rfl
  | [],[],y :: b,y' :: b',_,_=>rfl
  | x :: a,x' :: a',[],[],_,_=>rfl
  | x :: a,x' :: a',y :: b,y' :: b',h,k=>by
    rw [plainInts_cons,plainInts_cons,intB_ce h.cons.1,intB_ce k.cons.1,plainInts_ce h.cons.2 k.cons.2]
  | [],x :: _,_,_,h,_=>h.nil_cons.elim
  | x :: _,[],_,_,h,_=>h.cons_nil.elim
  | [],[],[],y :: _,_,k=>k.nil_cons.elim
  | [],[],y :: _,[],_,k=>k.cons_nil.elim
  | _ :: _,_ :: _,[],y :: _,_,k=>k.nil_cons.elim
  | _ :: _,_ :: _,y :: _,[],_,k=>k.cons_nil.elim
inductive FP where
  | no
  | yes (c:Bool) (v:AV) (l:Option Src)
  | two (c:Bool) (a b:AV)
  | elt (T:Ty) (o:Option T.interp) (f:T.interp → AV)
  | sel (n:Int) (vs:List AV)
  | call
def ss:Plan → FP
  | .no=>.no
  | .yes c _ v l=>.yes c v l
  | .two c _ a b=>.two c a b
  | .elt T o _ f=>.elt T o f
  | .sel n _ vs=>.sel n vs
  | .call _ _ _=>.call
theorem ss_bif {b:Bool} {x:Plan}:ss (bif b then x else .no) = bif b then ss x else .no:=by cases b <;> rfl
def floatB (P:Program):Op → Bool
  | .move _ | .pick .. | .nilCheck _ | .binOp .. | .unOp .. | .makeFunc .. | .slice .. | .fieldAddr .. | .field .. | .indexAddr .. | .index .. | .extract .. | .load .. | .buildSlice .. | .build ..=>true
  | .convert a b _=>match P.underlying a,P.underlying b with | some (.slice _),some (.slice _)=>false | _,_=>true
  | .call c=>match c.callee with | .builtin .len=>(match c.argTypes.toList with | [t]=>!isMapT P t | _=>true) | .builtin .min | .builtin .max=>true | _=>false
  | _=>false
def Agree (R:List Nat) (s1 s:RS):Prop:=∀ t ∈ R,CE (s1.fr t) (s.fr t)
theorem Agree.left {A B:List Nat} (h:Agree (A ++ B) s1 s):Agree A s1 s:=fun t ht=>h t (List.mem_append.2 (.inl ht))
theorem Agree.right {A B:List Nat} (h:Agree (A ++ B) s1 s):Agree B s1 s:=fun t ht=>h t (List.mem_append.2 (.inr ht))
theorem ev_ce {t:TypeId} {x:Operand} (h:Agree (rdO x) s1 s):CE (ev P s1 t x) (ev P s t x):=by
  cases x with
  | tmp y=>exact h y (by simp [rdO])
  | _=>rfl
theorem evs_ce {f:Nat × Operand → TypeId}:∀ (ps:List (Nat × Operand)),Agree (rdOs (mapN (·.2) ps)) s1 s → mapN (fun p=>strip (ev P s1 (f p) p.2)) ps = mapN (fun p=>strip (ev P s (f p) p.2)) ps
  | [],_=>rfl
  | p :: ps,h=>by
    simp only [mapN,rdOs] at h
    simp only [mapN,(ev_ce (P:=P) (t:=f p) h.left).strip,evs_ce ps h.right]
theorem evl_ce {t:TypeId}:∀ (xs:List Operand),Agree (rdOs xs) s1 s → mapN (fun x=>strip (ev P s1 t x)) xs = mapN (fun x=>strip (ev P s t x)) xs
  | [],_=>rfl
  | p :: ps,h=>by
    simp only [rdOs] at h
    simp only [mapN,(ev_ce (P:=P) (t:=t) h.left).strip,evl_ce ps h.right]
def soft:Lv → Bool
  | .view=>true
  | .own=>true
  | .mine=>true
  | _=>false
theorem CE.soft {T:Ty} {xs:List T.interp} {l1 l2:Lv} (h:CE (.slice T xs l1) (.slice T xs l2)):l1 = l2 ∨ (soft l1 = true ∧ soft l2 = true):=by
  cases l1 <;> cases l2 <;> first | exact .inl rfl | exact .inr ⟨rfl,rfl⟩ | (unfold CE at h; simp [copyv] at h)
theorem binop_same {op:BinOp} {t:TypeId} (x y:AV):ss (binop P op t x y s1) = ss (binop P op t x y s):=by
  have hint:∀ ki a b,ss (intop op ki a b s1) = ss (intop op ki a b s):=fun ki a b=>by cases op <;> rfl
  have hnil:∀ b,ss (nilEq P op t b s1) = ss (nilEq P op t b s):=fun b=>by unfold nilEq; split <;> rfl
  have hnilS:∀ b,ss (nilEqS P op t b s1) = ss (nilEqS P op t b s):=fun b=>by unfold nilEqS; split <;> rfl
  unfold binop
  repeat' split
  all_goals first | rfl | exact hint _ _ _ | exact hnil _ | exact hnilS _ | (rw [ss_bif,ss_bif,hnil])
theorem binop_softL {op:BinOp} {t:TypeId} {T:Ty} {xs:List T.interp} {l:Lv} (hl:soft l = true) (y:AV):binop P op t (.slice T xs l) y s = .no:=by
  cases l <;> first | (cases hl; done) | (cases y <;> rfl)
theorem binop_softR {op:BinOp} {t:TypeId} {T:Ty} {xs:List T.interp} {l:Lv} (hl:soft l = true) (x:AV):binop P op t x (.slice T xs l) s = .no:=by
  cases l <;> first | (cases hl; done) | skip
  all_goals cases x <;> first | rfl | (rename_i lv; cases lv <;> rfl)
theorem binop_sliceR {op:BinOp} {t:TypeId} {T:Ty} {xs:List T.interp} {l1 l2:Lv} (k:CE (.slice T xs l1) (.slice T xs l2)) (x:AV):ss (binop P op t x (.slice T xs l1) s1) = ss (binop P op t x (.slice T xs l2) s):=by
  rcases CE.soft k with rfl | ⟨h1,h2⟩
  · exact binop_same _ _
  · rw [binop_softR h1,binop_softR h2]
theorem binop_aggR {op:BinOp} {t:TypeId} {q q':List AV} (hq:CEs q q') (x:AV):ss (binop P op t x (.agg q) s1) = ss (binop P op t x (.agg q') s):=by
  cases x with
  | agg c =>
    simp only [binop]
    rw [plainInts_ce (rfl:CEs c c) hq,cellsEq_ce (rfl:CEs c c) hq]
    repeat' split
    all_goals rfl
  | slice T xs lv=>cases lv <;> rfl
  | _=>rfl
theorem binop_tupR {op:BinOp} {t:TypeId} {q q':List AV} (x:AV):ss (binop P op t x (.tuple q) s1) = ss (binop P op t x (.tuple q') s):=by
  cases x with
  | slice T xs lv=>cases lv <;> rfl
  | _=>rfl
theorem binop_R {op:BinOp} {t:TypeId} {x y y':AV} (k:CE y y'):ss (binop P op t x y s1) = ss (binop P op t x y' s):=by
  rcases k.cases with rfl | ⟨_,_,_,_,rfl,rfl⟩ | ⟨q,q',rfl,rfl,hq⟩ | ⟨_,_,rfl,rfl,_⟩ | ⟨_,_,_,rfl,rfl⟩
  · exact binop_same _ _
  · exact binop_sliceR k x
  · exact binop_aggR hq x
  · exact binop_tupR x
  · have hn:∀ (q:List AV) (lv:Lv) (z:AV) (s:RS),binop P op t z (.row q lv) s = .no:=fun q lv z s=>by
      cases z with
      | slice T xs lv=>cases lv <;> rfl
      | _=>rfl
    rw [hn,hn]
theorem binop_aggL {op:BinOp} {t:TypeId} {q q':List AV} (hq:CEs q q') (y:AV):ss (binop P op t (.agg q) y s1) = ss (binop P op t (.agg q') y s1):=by
  cases y with
  | agg c =>
    simp only [binop]
    rw [plainInts_ce hq (rfl:CEs c c),cellsEq_ce hq (rfl:CEs c c),kindsB_ce hq,hq.len]
  | _=>rfl
theorem binop_ce {op:BinOp} {t:TypeId} {x x' y y':AV} (h:CE x x') (k:CE y y'):ss (binop P op t x y s1) = ss (binop P op t x' y' s):=by
  rcases h.cases with rfl | ⟨_,_,_,_,rfl,rfl⟩ | ⟨c,c',rfl,rfl,hc⟩ | ⟨_,_,rfl,rfl,_⟩ | ⟨_,_,_,rfl,rfl⟩
  · exact binop_R k
  · rcases CE.soft h with rfl | ⟨g1,g2⟩
    · exact binop_R k
    · rw [binop_softL g1,binop_softL g2]
  · exact (binop_aggL hc y).trans (binop_R k)
  · have hn:∀ (q:List AV) (z:AV) (s:RS),binop P op t (.tuple q) z s = .no:=fun q z s=>by cases z <;> rfl
    rw [hn,hn]
  · have hn:∀ (q:List AV) (lv:Lv) (z:AV) (s:RS),binop P op t (.row q lv) z s = .no:=fun q lv z s=>by cases z <;> rfl
    rw [hn,hn]
theorem lowHigh_ce {m:Nat} {lo hi:Option Operand} {t t':TypeId} (h:Agree (rdOo lo) s1 s) (k:Agree (rdOo hi) s1 s):lowHigh m (evo P s1 t lo) (evo P s1 t' hi) = lowHigh m (evo P s t lo) (evo P s t' hi):=by
  have hc:∀ {t:TypeId} (x:Option Operand),Agree (rdOo x) s1 s → (evo P s1 t x = evo P s t x) ∨ ∃ a b,evo P s1 t x = some a ∧ evo P s t x = some b ∧ (∀ k n,a ≠ .int k n) ∧ (∀ k n,b ≠ .int k n):=by
    intro t x hx
    cases x with
    | none=>exact .inl rfl
    | some y =>
      simp only [evo]
      have:=ev_ce (P:=P) (t:=t) (x:=y) hx
      rcases this.cases with h | ⟨_,_,_,_,h1,h2⟩ | ⟨_,_,h1,h2,_⟩ | ⟨_,_,h1,h2,_⟩ | ⟨_,_,_,h1,h2⟩
      · rw [h]; exact .inl rfl
      all_goals exact .inr ⟨_,_,rfl,rfl,by rw [h1]; simp,by rw [h2]; simp⟩
  have hno:∀ (a b:AV),(∀ k n,a ≠ .int k n) → (∀ k n,b ≠ .int k n) → ∀ (y:Option AV),lowHigh m (some a) y = lowHigh m (some b) y:=by
    intro a b ha hb y
    cases a <;> first | exact absurd rfl (ha _ _) | skip
    all_goals cases b <;> first | exact absurd rfl (hb _ _) | (cases y <;> rfl)
  have hno2:∀ (a b:AV),(∀ k n,a ≠ .int k n) → (∀ k n,b ≠ .int k n) → ∀ (y:Option AV),lowHigh m y (some a) = lowHigh m y (some b):=by
    intro a b ha hb y
    cases y with
    | none =>
      cases a <;> first | exact absurd rfl (ha _ _) | skip
      all_goals cases b <;> first | exact absurd rfl (hb _ _) | rfl
    | some v =>
      cases a <;> first | exact absurd rfl (ha _ _) | skip
      all_goals cases b <;> first | exact absurd rfl (hb _ _) | (cases v <;> rfl)
  rcases hc (t:=t) lo h with h1 | ⟨a,b,h1,h2,h3,h4⟩
  · rw [h1]
    rcases hc (t:=t') hi k with k1 | ⟨a,b,k1,k2,k3,k4⟩
    · rw [k1]
    · rw [k1,k2]; exact hno2 _ _ k3 k4 _
  · rw [h1,h2,hno _ _ h3 h4]
    rcases hc (t:=t') hi k with k1 | ⟨a,b,k1,k2,k3,k4⟩
    · rw [k1]
    · rw [k1,k2]; exact hno2 _ _ k3 k4 _
def slCore (tr:Bool) (lh:Option (Nat × Nat × Bool)) (hi mx:Option AV) (f:Nat → Nat → Lv → AV):FP :=
  match tr,lh,hi,mx with
  | true,some (l,h,c),_,none=>.yes c (f l h .view) none
  | true,some (l,h,c),some (.int _ a),some (.int _ b)=>.yes (c && decide (a = b)) (f l h .full) none
  | _,_,_,_=>.no
theorem evo_cases {t:TypeId} (x:Option Operand) (hx:Agree (rdOo x) s1 s):(evo P s1 t x = evo P s t x) ∨ ∃ a b,evo P s1 t x = some a ∧ evo P s t x = some b ∧ (∀ k n,a ≠ .int k n) ∧ (∀ k n,b ≠ .int k n):=by
  cases x with
  | none=>exact .inl rfl
  | some y =>
    simp only [evo]
    have:=ev_ce (P:=P) (t:=t) (x:=y) hx
    rcases this.cases with h | ⟨_,_,_,_,h1,h2⟩ | ⟨_,_,h1,h2,_⟩ | ⟨_,_,h1,h2,_⟩ | ⟨_,_,_,h1,h2⟩
    · rw [h]; exact .inl rfl
    all_goals exact .inr ⟨_,_,rfl,rfl,by rw [h1]; simp,by rw [h2]; simp⟩
theorem slCore_mx {tr:Bool} {lh:Option (Nat × Nat × Bool)} {hi:Option AV} {f:Nat → Nat → Lv → AV} {a b:AV} (ha:∀ k n,a ≠ .int k n) (hb:∀ k n,b ≠ .int k n):slCore tr lh hi (some a) f = slCore tr lh hi (some b) f:=by
  have key:∀ a,(∀ k n,a ≠ .int k n) → slCore tr lh hi (some a) f = .no:=by
    intro a ha
    unfold slCore
    split
    · rename_i h; cases h
    · rename_i h; cases h; exact absurd rfl (ha _ _)
    · rfl
  rw [key a ha,key b hb]
theorem slCore_hi {tr:Bool} {lh:Option (Nat × Nat × Bool)} {mx:Option AV} {f:Nat → Nat → Lv → AV} {a b:AV} (ha:∀ k n,a ≠ .int k n) (hb:∀ k n,b ≠ .int k n):slCore tr lh (some a) mx f = slCore tr lh (some b) mx f:=by
  cases mx with
  | none=>unfold slCore; cases tr <;> cases lh <;> rfl
  | some y =>
    have key:∀ a,(∀ k n,a ≠ .int k n) → slCore tr lh (some a) (some y) f = .no:=by
      intro a ha
      unfold slCore
      split
      · rename_i h; cases h
      · rename_i h _; cases h; exact absurd rfl (ha _ _)
      · rfl
    rw [key a ha,key b hb]
theorem sliceA_core {t el:TypeId} {x:Operand} {lo hi mx:Option Operand} {T:Ty} {xs:List T.interp} {lv:Lv} {s:RS} (ht:P.underlying t = some (.slice el)) (ex:ev P s t x = .slice T xs lv) :
    ss (sliceA P t x lo hi mx s) = slCore (Nat.beq T.size (sizeB P el) && okT P el) (lowHigh xs.length (evo P s 3 lo) (evo P s 3 hi)) (evo P s 3 hi) (evo P s 3 mx) fun l h lv=>.slice T ((xs.take h).drop l) lv:=by
  unfold sliceA slCore
  rw [ht,ex]
  simp only
  generalize (Nat.beq T.size (sizeB P el) && okT P el) = tr
  generalize lowHigh xs.length (evo P s 3 lo) (evo P s 3 hi) = lh
  generalize evo P s 3 hi = hi'
  generalize evo P s 3 mx = mx'
  rcases lh with _ | ⟨l,h,c⟩ <;> cases tr <;> cases hi' <;> cases mx' <;> first | rfl | skip
  · rename_i b; cases b <;> rfl
  · rename_i a b; cases a <;> cases b <;> rfl
theorem sliceA_str {t:TypeId} {x:Operand} {lo hi mx:Option Operand} {xs:List Int} {s:RS} (ht:P.underlying t = some .string) (ex:ev P s t x = .str xs) :
    ss (sliceA P t x lo hi mx s) = match mx,lowHigh xs.length (evo P s 3 lo) (evo P s 3 hi) with
      | none,some (l,h,c)=>.yes c (.str ((xs.take h).drop l)) none
      | _,_=>.no:=by
  unfold sliceA
  rw [ht,ex]
  simp only
  generalize lowHigh xs.length (evo P s 3 lo) (evo P s 3 hi) = lh
  cases mx <;> rcases lh with _ | ⟨l,h,c⟩ <;> rfl
theorem int_ce {a b:AV} (h:CE a b):a = b ∨ ((∀ k n,a ≠ .int k n) ∧ (∀ k n,b ≠ .int k n)):=by
  rcases h.cases with h | ⟨_,_,_,_,h1,h2⟩ | ⟨_,_,h1,h2,_⟩ | ⟨_,_,h1,h2,_⟩ | ⟨_,_,_,h1,h2⟩
  · exact .inl h
  all_goals exact .inr ⟨by rw [h1]; simp,by rw [h2]; simp⟩
theorem float_ce {cfg:Cfg} (hf:floatB P o.op = true) (hl:isLoad o.op = false) (h:Agree (rds o.op) s1 s):ss (plan P cfg true o s1) = ss (plan P cfg true o s):=by
  unfold plan
  cases hop:o.op <;> rw [hop] at hf hl h <;> simp only [rds] at h <;> simp only
  case move x =>
    simp only [ss]
    have:=ev_ce (P:=P) (t:=o.type) h
    rw [show copyv (ev P s1 o.type x) = copyv (ev P s o.type x) from this]
    cases x <;> rfl
  case pick c a b =>
    rw [(ev_ce (P:=P) (t:=o.type) h.right.left).strip,(ev_ce (P:=P) (t:=o.type) h.right.right).strip]
    rcases (ev_ce (P:=P) (t:=o.type) h.left).cases with h | ⟨_,_,_,_,h1,h2⟩ | ⟨_,_,h1,h2,_⟩ | ⟨_,_,h1,h2,_⟩ | ⟨_,_,_,h1,h2⟩
    · rw [h]; split <;> rfl
    all_goals (rw [h1,h2]; try rfl)
  case nilCheck x =>
    rcases (ev_ce (P:=P) (t:=0) h).cases with h | ⟨_,_,_,_,h1,h2⟩ | ⟨_,_,h1,h2,_⟩ | ⟨_,_,h1,h2,_⟩ | ⟨_,_,_,h1,h2⟩
    · rw [h]; split <;> rfl
    all_goals (rw [h1,h2]; try rfl)
  case binOp op t x y ty =>
    split
    · exact binop_ce (ev_ce h.left) (ev_ce h.right)
    · exact binop_ce (ev_ce h.left) (ev_ce h.right)
    · exact binop_ce (ev_ce h.left) (ev_ce h.right)
  case unOp op t x =>
    rcases (ev_ce (P:=P) (t:=t) h).cases with h | ⟨_,_,_,_,h1,h2⟩ | ⟨_,_,h1,h2,_⟩ | ⟨_,_,h1,h2,_⟩ | ⟨_,_,_,h1,h2⟩
    · rw [h]; split <;> rfl
    all_goals rw [h1,h2]; cases op <;> rfl
  case convert a b x =>
    simp only [floatB] at hf
    unfold convertA
    generalize P.underlying a = ua at hf ⊢
    generalize P.underlying b = ub at hf ⊢
    have hfin:∀ u v:AV,(∀ k n,u ≠ .int k n) → (∀ k n,v ≠ .int k n) → True:=fun _ _ _ _=>trivial
    rcases (ev_ce (P:=P) (t:=a) h).cases with h | ⟨T,xs,l1,l2,h1,h2⟩ | ⟨_,_,h1,h2,_⟩ | ⟨_,_,h1,h2,_⟩ | ⟨_,_,_,h1,h2⟩
    · rw [h]
      cases ua with
      | none=>rfl
      | some da => cases da <;> first | rfl | skip
                   all_goals cases ub with
                     | none=>first | rfl | (cases ev P s a x <;> rfl)
                     | some db=>cases db <;> first | rfl | (cases hf; done) | (cases ev P s a x <;> first | rfl | (simp only; split <;> rfl) | (rename_i T xs lv; cases T <;> first | rfl | (rename_i k; cases k <;> first | rfl | (simp only; split <;> rfl))))
    · rw [h1,h2]
      cases ua with
      | none=>rfl
      | some da => cases da <;> first | rfl | skip
                   all_goals cases ub with
                     | none=>rfl
                     | some db=>cases db <;> first | rfl | (cases hf; done) | (cases T <;> first | rfl | (rename_i k; cases k <;> first | rfl | (simp only; split <;> rfl)))
    · rw [h1,h2]
      cases ua with
      | none=>rfl
      | some da => cases da <;> first | rfl | skip
                   all_goals cases ub with
                     | none=>rfl
                     | some db=>cases db <;> first | rfl | (cases hf; done)
    · rw [h1,h2]
      cases ua with
      | none=>rfl
      | some da => cases da <;> first | rfl | skip
                   all_goals cases ub with
                     | none=>rfl
                     | some db=>cases db <;> first | rfl | (cases hf; done)
    · rw [h1,h2]
      cases ua with
      | none=>rfl
      | some da => cases da <;> first | rfl | skip
                   all_goals cases ub with
                     | none=>rfl
                     | some db=>cases db <;> first | rfl | (cases hf; done)
  case makeFunc f xs ys=>rw [evl_ce _ h.left,evl_ce _ h.right]; split <;> rfl
  case slice t x lo hi mx =>
    have hx:=ev_ce (P:=P) (t:=t) h.left
    have hlo:=h.right.left
    have hhi:=h.right.right.left
    have hmx:=h.right.right.right
    have hno:∀ s',(∀ el,P.underlying t ≠ some (.slice el)) ∧ P.underlying t ≠ some .string → ss (sliceA P t x lo hi mx s') = .no:=by
      intro s' ⟨n1,n2⟩
      unfold sliceA
      split
      · rename_i q _; exact absurd q (n1 _)
      · rename_i q _; exact absurd q n2
      · rfl
    by_cases hsl:∃ el,P.underlying t = some (.slice el)
    · obtain ⟨el,ht⟩:=hsl
      have hns:∀ s',(∀ T xs lv,ev P s' t x ≠ .slice T xs lv) → ss (sliceA P t x lo hi mx s') = .no:=by
        intro s' hn
        unfold sliceA
        split
        · rename_i q; exact absurd q (hn _ _ _)
        · rename_i q _; rw [ht] at q; cases q
        · rfl
      have hcore:∀ (m:Nat) (tr:Bool) (f:Nat → Nat → Lv → AV),slCore tr (lowHigh m (evo P s1 3 lo) (evo P s1 3 hi)) (evo P s1 3 hi) (evo P s1 3 mx) f = slCore tr (lowHigh m (evo P s 3 lo) (evo P s 3 hi)) (evo P s 3 hi) (evo P s 3 mx) f:=by
        intro m tr f
        rw [lowHigh_ce hlo hhi]
        rcases evo_cases (P:=P) (t:=3) hi hhi with e1 | ⟨a,b,e1,e2,e3,e4⟩
        · rw [e1]
          rcases evo_cases (P:=P) (t:=3) mx hmx with k1 | ⟨a,b,k1,k2,k3,k4⟩
          · rw [k1]
          · rw [k1,k2]; exact slCore_mx k3 k4
        · rw [e1,e2,slCore_hi e3 e4]
          rcases evo_cases (P:=P) (t:=3) mx hmx with k1 | ⟨a,b,k1,k2,k3,k4⟩
          · rw [k1]
          · rw [k1,k2]; exact slCore_mx k3 k4
      rcases hx.cases with h0 | ⟨T,xs,l1,l2,h1,h2⟩ | ⟨_,_,h1,h2,_⟩ | ⟨_,_,h1,h2,_⟩ | ⟨_,_,_,h1,h2⟩
      · cases hv:ev P s t x with
        | slice T xs lv=>rw [sliceA_core ht (h0.trans hv),sliceA_core ht hv]; exact hcore _ _ _
        | _=>rw [hns s1 (by rw [h0,hv]; simp),hns s (by rw [hv]; simp)]
      · rw [sliceA_core ht h1,sliceA_core ht h2]; exact hcore _ _ _
      · rw [hns s1 (by rw [h1]; simp),hns s (by rw [h2]; simp)]
      · rw [hns s1 (by rw [h1]; simp),hns s (by rw [h2]; simp)]
      · rw [hns s1 (by rw [h1]; simp),hns s (by rw [h2]; simp)]
    · by_cases hst:P.underlying t = some .string
      · have hns:∀ s',(∀ xs,ev P s' t x ≠ .str xs) → ss (sliceA P t x lo hi mx s') = .no:=by
          intro s' hn
          unfold sliceA
          split
          · rename_i q _; rw [hst] at q; cases q
          · rename_i q; exact absurd q (hn _)
          · rfl
        rcases hx.cases with h0 | ⟨T,xs,l1,l2,h1,h2⟩ | ⟨_,_,h1,h2,_⟩ | ⟨_,_,h1,h2,_⟩ | ⟨_,_,_,h1,h2⟩
        · cases hv:ev P s t x with
          | str xs=>rw [sliceA_str hst (h0.trans hv),sliceA_str hst hv,lowHigh_ce hlo hhi]
          | _=>rw [hns s1 (by rw [h0,hv]; simp),hns s (by rw [hv]; simp)]
        all_goals rw [hns s1 (by rw [h1]; simp),hns s (by rw [h2]; simp)]
      · have hb:(∀ el,P.underlying t ≠ some (.slice el)) ∧ P.underlying t ≠ some .string:=⟨fun el he=>hsl ⟨el,he⟩,hst⟩
        rw [hno s1 hb,hno s hb]
  case fieldAddr t x f =>
    rcases (ev_ce (P:=P) (t:=0) h).cases with h | ⟨_,_,_,_,h1,h2⟩ | ⟨_,_,h1,h2,_⟩ | ⟨_,_,h1,h2,_⟩ | ⟨_,_,_,h1,h2⟩
    · rw [h]; split <;> first | rfl | (rw [ss_bif,ss_bif]; rfl)
    all_goals rw [h1,h2]; cases fieldOff P t f <;> rfl
  case field t x f =>
    rcases (ev_ce (P:=P) (t:=t) h).cases with h | ⟨_,_,_,_,h1,h2⟩ | ⟨c,c',h1,h2,hc⟩ | ⟨_,_,h1,h2,_⟩ | ⟨_,_,_,h1,h2⟩
    · rw [h]; repeat' split
      all_goals rfl
    · rw [h1,h2]; cases fieldOff P t f <;> rfl
    · rw [h1,h2]
      cases fieldOff P t f with
      | none=>rfl
      | some q =>
        obtain ⟨off,ft⟩:=q
        simp only
        rcases hc.part (P:=P) ft off with ⟨e1,e2⟩ | ⟨u,v,e1,e2,e3⟩
        · (rw [e1,e2]; try rfl)
        · rw [e1,e2]; simp only [ss]; rw [e3.strip]
    · rw [h1,h2]; cases fieldOff P t f <;> rfl
    · rw [h1,h2]; cases fieldOff P t f <;> rfl
  case indexAddr t x i =>
    have hno:∀ s',(∀ k n,ev P s' 3 i ≠ .int k n) → ss (indexAddrA P t x i s') = .no:=by
      intro s' hn
      unfold indexAddrA
      split
      · rename_i q; exact absurd q (hn _ _)
      · rename_i q; exact absurd q (hn _ _)
      · rename_i q; exact absurd q (hn _ _)
      · rfl
    rcases int_ce (ev_ce (P:=P) (t:=3) h.right) with hi | ⟨n1,n2⟩
    · unfold indexAddrA
      rw [hi]
      generalize ev P s 3 i = iv
      generalize P.underlying t = ut
      rcases (ev_ce (P:=P) (t:=t) h.left).cases with h0 | ⟨T,xs,l1,l2,h1,h2⟩ | ⟨_,_,h1,h2,_⟩ | ⟨_,_,h1,h2,_⟩ | ⟨_,_,_,h1,h2⟩
      · rw [h0]
        repeat' split
        all_goals first | rfl | (rw [ss_bif,ss_bif]; rfl)
      · rw [h1,h2]
        cases ut with
        | none=>rfl
        | some d=>cases d <;> first | rfl | (cases iv <;> first | rfl | (simp only; rw [ss_bif,ss_bif]; rfl))
      · rw [h1,h2]
        cases ut with
        | none=>rfl
        | some d=>cases d <;> first | rfl | (cases iv <;> rfl)
      · rw [h1,h2]
        cases ut with
        | none=>rfl
        | some d=>cases d <;> first | rfl | (cases iv <;> rfl)
      · rw [h1,h2]
        cases ut with
        | none=>rfl
        | some d=>cases d <;> first | rfl | (cases iv <;> first | rfl | (simp only; rw [ss_bif,ss_bif]; rfl))
    · rw [hno s1 n1,hno s n2]
  case index t x i =>
    have hno:∀ s',(∀ k n,ev P s' 3 i ≠ .int k n) → ss (indexA P t x i s') = .no:=by
      intro s' hn
      unfold indexA
      split
      · rename_i q; exact absurd q (hn _ _)
      · rename_i q; exact absurd q (hn _ _)
      · rfl
    rcases int_ce (ev_ce (P:=P) (t:=3) h.right) with hi | ⟨n1,n2⟩
    · unfold indexA
      rw [hi]
      generalize ev P s 3 i = iv
      generalize P.underlying t = ut
      rcases (ev_ce (P:=P) (t:=t) h.left).cases with h0 | ⟨T,xs,l1,l2,h1,h2⟩ | ⟨c,c',h1,h2,hc⟩ | ⟨_,_,h1,h2,_⟩ | ⟨_,_,_,h1,h2⟩
      · rw [h0]
        repeat' split
        all_goals rfl
      · rw [h1,h2]
        cases ut with
        | none=>rfl
        | some d=>cases d <;> first | rfl | (cases iv <;> rfl)
      · rw [h1,h2]
        cases ut with
        | none=>rfl
        | some d =>
          cases d <;> first | rfl | (cases iv <;> rfl) | skip
          rename_i len el
          cases iv <;> first | rfl | skip
          rename_i k m
          simp only
          rcases hc.part (P:=P) el (m.toNat * sizeB P el) with ⟨e1,e2⟩ | ⟨u,w,e1,e2,e3⟩
          · rw [e1,e2]; try rfl
          · rw [e1,e2]; simp only [ss]; rw [e3.strip]
      · rw [h1,h2]
        cases ut with
        | none=>rfl
        | some d=>cases d <;> first | rfl | (cases iv <;> rfl)
      · rw [h1,h2]
        cases ut with
        | none=>rfl
        | some d=>cases d <;> first | rfl | (cases iv <;> rfl)
    · rw [hno s1 n1,hno s n2]
  case extract x j =>
    unfold extractA
    cases x with
    | tmp y =>
      simp only [cond_true]
      have:=h y (by simp [rdO])
      rcases this.cases with h | ⟨_,_,_,_,h1,h2⟩ | ⟨_,_,h1,h2,_⟩ | ⟨c,c',h1,h2,hc⟩ | ⟨_,_,_,h1,h2⟩
      · rw [h]; repeat' split
        all_goals rfl
      · (rw [h1,h2]; try rfl)
      · (rw [h1,h2]; try rfl)
      · rw [h1,h2]
        simp only
        rcases hc.nth j with ⟨e1,e2⟩ | ⟨u,v,e1,e2,e3⟩
        · rw [e1,e2]
        · rw [e1,e2]; simp only [ss]; rw [show copyv u = copyv v from e3]
      · (rw [h1,h2]; try rfl)
    | _=>rfl
  case load=>cases hl
  case build t ps =>
    simp only [cond_true]
    unfold buildD
    simp only [evs_ce (f:=fun p=>fieldTy _ p.1) _ h]
    split
    · split
      · split
        · rw [ss_bif,ss_bif]; rfl
        · rfl
      · rfl
    · rfl
  case buildSlice t len ps =>
    try dsimp only
    cases isRowT P t with
    | true =>
      simp only [cond_true]
      unfold buildRowD
      simp only [evs_ce (f:=fun _=>_) _ h]
      repeat' split
      all_goals rfl
    | false =>
    simp only [cond_false]
    unfold buildSliceA
    simp only [evs_ce (f:=fun _=>_) _ h]
    split
    · split
      · rw [ss_bif,ss_bif]
        congr 1
        split
        · split <;> rfl
        · rfl
      · rfl
    · rfl
  case call c =>
    simp only [floatB] at hf
    try dsimp only
    unfold callA
    cases hc:c.callee with
    | builtin b =>
      rw [hc] at hf
      have hmm:∀ (mx:Bool) (t:TypeId) (x y:Operand),Agree (rdO x) s1 s → Agree (rdO y) s1 s → ss (minMaxA P mx t x y s1) = ss (minMaxA P mx t x y s):=by
        intro mx t x y hx hy
        have hno:∀ s',((∀ k n,ev P s' t x ≠ .int k n) ∨ (∀ k n,ev P s' t y ≠ .int k n)) → ss (minMaxA P mx t x y s') = .no:=by
          intro s' hn
          unfold minMaxA
          split
          · rename_i q1 q2
            rcases hn with hn | hn
            · exact absurd q1 (hn _ _)
            · exact absurd q2 (hn _ _)
          · rfl
        rcases int_ce (ev_ce (P:=P) (t:=t) hx) with h1 | ⟨n1,n2⟩
        · rcases int_ce (ev_ce (P:=P) (t:=t) hy) with h2 | ⟨n1,n2⟩
          · unfold minMaxA
            rw [h1,h2]
            repeat' split
            all_goals rfl
          · rw [hno s1 (.inr n1),hno s (.inr n2)]
        · rw [hno s1 (.inl n1),hno s (.inl n2)]
      cases b <;> first | (cases hf; done) | skip
      case len =>
        simp only
        split
        · rename_i x t ha ht
          rw [ha] at h
          simp only [ht,Bool.not_eq_true'] at hf
          rw [hf]
          simp only
          have hx:Agree (rdO x) s1 s:=h.left.left
          unfold lenA
          generalize P.underlying t = ut
          rcases (ev_ce (P:=P) (t:=t) hx).cases with h0 | ⟨T,xs,l1,l2,h1,h2⟩ | ⟨_,_,h1,h2,_⟩ | ⟨_,_,h1,h2,_⟩ | ⟨_,_,_,h1,h2⟩
          · rw [h0]
            repeat' split
            all_goals rfl
          all_goals
            rw [h1,h2]
            cases ut with
            | none=>rfl
            | some d=>cases d <;> first | rfl | (simp only; split <;> rfl)
        · rfl
      case max =>
        simp only
        split
        · rename_i x y t t' ha ht
          rw [ha] at h
          exact hmm true t x y h.left.left h.left.right.left
        · rfl
      case min =>
        simp only
        split
        · rename_i x y t t' ha ht
          rw [ha] at h
          exact hmm false t x y h.left.left h.left.right.left
        · rfl
    | _=>first | (rw [hc] at hf; cases hf) | (rw [hc] at hf)
  all_goals cases hf
end Go.Vm
namespace Go.Vm
variable {P:Program} {cf:CallK} {cfg:Cfg} {s s1:RS} {o:Oper}
def ldOf (P:Program) (o:Oper) (s:RS):Option (Nat × Nat) :=
  match o.op with
  | .load _ a=>match ev P s 0 a with | .ptr l i _=>some (l,i) | _=>none
  | _=>none
def withLd (ld:Option (Nat × Nat)) (s:RS):RS:={ s with lds:=addLdo ld s.lds }
def stIs (st:RS):Plan → Prop
  | .no=>True
  | .yes _ s _ _ | .two _ s _ _ | .elt _ _ s _ | .sel _ s _=>s = st
  | .call _ _ _=>False
theorem stIs.bif {st:RS} {b:Bool} {x:Plan} (h:stIs st x):stIs st (bif b then x else .no):=by
  cases b
  · trivial
  · exact h
theorem intop_st (op:BinOp) (k:IntKind) (x y:Int):stIs s (intop op k x y s):=by cases op <;> first | trivial | rfl
theorem binop_st (op:BinOp) (t:TypeId) (x y:AV):stIs s (binop P op t x y s):=by
  unfold binop nilEq nilEqS
  repeat' split
  all_goals first | trivial | rfl | exact intop_st _ _ _ _ | exact stIs.bif rfl | exact stIs.bif trivial
theorem float_st {cfg:Cfg} (hf:floatB P o.op = true) (hl:isLoad o.op = false):stIs s (plan P cfg true o s):=by
  unfold plan
  cases hop:o.op <;> rw [hop] at hf hl <;> simp only
  case move x=>rfl
  case pick c a b=>split <;> first | trivial | rfl
  case nilCheck x=>split <;> first | trivial | rfl
  case binOp op t x y ty=>split <;> exact binop_st _ _ _ _
  case unOp op t x=>split <;> first | trivial | rfl
  case convert a b x =>
    simp only [floatB] at hf
    unfold convertA
    split
    · rfl
    · rfl
    · split <;> first | trivial | rfl
    · split <;> first | trivial | rfl
    · rename_i q1 q2 _; rw [q1,q2] at hf; cases hf
    · trivial
  case makeFunc f xs ys=>split <;> first | trivial | rfl
  case slice t x lo hi mx =>
    unfold sliceA
    repeat' split
    all_goals first | trivial | rfl
  case fieldAddr t x f=>split <;> first | trivial | rfl | exact stIs.bif rfl
  case field t x f =>
    repeat' split
    all_goals first | trivial | rfl
  case indexAddr t x i =>
    try dsimp only
    unfold indexAddrA
    split
    · exact stIs.bif rfl
    · exact stIs.bif rfl
    · exact stIs.bif rfl
    · trivial
  case index t x i =>
    unfold indexA
    repeat' split
    all_goals first | trivial | rfl
  case extract x j =>
    unfold extractA
    repeat' split
    all_goals first | trivial | rfl
  case load=>cases hl
  case build t ps =>
    simp only [cond_true]
    unfold buildD
    repeat' split
    all_goals first | trivial | exact stIs.bif rfl
  case buildSlice t len ps =>
    try dsimp only
    cases isRowT P t with
    | true =>
      simp only [cond_true]
      unfold buildRowD
      repeat' split
      all_goals first | trivial | rfl
    | false =>
    simp only [cond_false]
    unfold buildSliceA
    split
    · split
      · refine stIs.bif ?_
        repeat' split
        all_goals first | trivial | rfl
      · trivial
    · trivial
  case call c =>
    simp only [floatB] at hf
    try dsimp only
    unfold callA
    cases hc:c.callee with
    | builtin b =>
      rw [hc] at hf
      cases b <;> first | (cases hf; done) | skip
      case len =>
        simp only
        split
        · rename_i ht
          simp only [ht,Bool.not_eq_true'] at hf
          rw [hf]
          simp only
          unfold lenA; repeat' split
          all_goals first | trivial | rfl
        · trivial
      case max =>
        simp only
        split
        · unfold minMaxA; repeat' split
          all_goals first | trivial | rfl
        · trivial
      case min =>
        simp only
        split
        · unfold minMaxA; repeat' split
          all_goals first | trivial | rfl
        · trivial
    | _=>first | (rw [hc] at hf; cases hf) | (rw [hc] at hf)
  all_goals cases hf
theorem load_st {cfg:Cfg} (hl:isLoad o.op = true):stIs (withLd (ldOf P o s) s) (plan P cfg true o s):=by
  unfold plan
  cases hop:o.op <;> rw [hop] at hl <;> first | (cases hl; done) | skip
  rename_i t a
  simp only [cond_true]
  refine stIs.bif ?_
  unfold loadA ldOf
  rw [hop]
  simp only
  cases hv:ev P s 0 a with
  | ptr l i off =>
    simp only
    cases getH s.H l i with
    | none=>trivial
    | some x =>
      cases x with
      | abs _ _=>trivial
      | map _=>trivial
      | cells c =>
        simp only
        cases partAV P t c off with
        | none=>trivial
        | some v =>
          simp only [Bool.true_and]
          cases memWr l i s.wr
          · rfl
          · trivial
  | cptr cs off =>
    simp only
    cases partAV P t cs off with
    | none=>trivial
    | some v=>rfl
  | _=>trivial
def fx (P:Program) (cf:CallK) (cfg:Cfg) (ops:List Oper) (o:Oper) (s:RS):Option (AV × Option Src × Option (Nat × Nat)) :=
  match wantedV ops s o.guard with
  | some true=>match run1 cf cfg true (plan P cfg true o s) with
    | some (_,v,l)=>some (v,l,ldOf P o s)
    | none=>none
  | some false=>some (.tuple [],none,none)
  | none=>none
theorem run1_st {st:RS} {pl:Plan} (h:stIs st pl):∀ s' v l,run1 cf cfg true pl = some (s',v,l) → s' = st:=by
  intro s' v l hr
  cases pl with
  | no=>cases hr
  | yes c s v l=>simp only [run1] at hr; obtain ⟨_,hr⟩:=cond_none hr; cases hr; exact h
  | two c s a b=>cases hr; exact h
  | elt T o s f =>
    simp only [run1] at hr
    cases o with
    | none=>cases hr
    | some x=>cases hr; exact h
  | sel m s vs =>
    simp only [run1] at hr
    cases hv:at? vs m with
    | none=>rw [hv] at hr; cases hr
    | some x=>rw [hv] at hr; cases hr; exact h
  | call _ _ _=>exact h.elim
theorem ldOf_none (hl:isLoad o.op = false):ldOf P o s = none:=by
  unfold ldOf
  cases hop:o.op <;> rw [hop] at hl <;> first | rfl | cases hl
theorem step_float {ops:List Oper} {d:Nat} (hf:floatB P o.op = true) (hd:o.dst = some d):step1 P cf cfg true ops o s = (fx P cf cfg ops o s).map fun x=>mu d x.1 x.2.1 x.2.2 s:=by
  unfold step1 fx
  cases wantedV ops s o.guard with
  | none=>rfl
  | some b =>
    cases b with
    | false=>simp only [put,hd,Option.map_some]; rfl
    | true =>
      simp only
      cases hr:run1 cf cfg true (plan P cfg true o s) with
      | none=>rfl
      | some x =>
        obtain ⟨s',v,l⟩:=x
        have hst:s' = withLd (ldOf P o s) s:=by
          cases hl:isLoad o.op with
          | true=>exact run1_st (load_st (cfg:=cfg) hl) _ _ _ hr
          | false =>
            have:=run1_st (float_st (cfg:=cfg) hf hl) _ _ _ hr
            rw [this,ldOf_none hl]; rfl
        subst hst
        simp only [put,hd,Option.map_some]
        rfl
def runF:FP → Option (AV × Option Src)
  | .no=>none
  | .yes c v l=>bif c then some (v,l) else none
  | .two c a b=>some ((bif c then a else b),none)
  | .elt _ o f=>match o with | some x=>some (f x,none) | none=>none
  | .sel n vs=>match at? vs n with | some v=>some (v,none) | none=>none
  | .call=>none
theorem run1_runF {st:RS} {pl:Plan} (h:stIs st pl):(run1 cf cfg true pl).map (fun x=>(x.2.1,x.2.2)) = runF (ss pl):=by
  cases pl with
  | no=>rfl
  | yes c s v l=>cases c <;> rfl
  | two c s a b=>rfl
  | elt T o s f=>cases o <;> rfl
  | sel m s vs=>simp only [run1,runF,ss]; cases at? vs m <;> rfl
  | call _ _ _=>exact h.elim
theorem ObE.refl (x:Option Ob):ObE x x:=by
  cases x with
  | none=>rfl
  | some y=>cases y <;> rfl
def LookOK (P:Program) (o:Oper) (s1 s:RS):Prop:=∀ l i,ldOf P o s = some (l,i) → memWr l i s1.wr = memWr l i s.wr ∧ ObE (getH s1.H l i) (getH s.H l i)
mutual
theorem copyv_shift (k:Nat):∀ a:AV,copyv (shift k a) = shift k (copyv a)
  | .undef=>rfl
  | .bool _=>rfl
  | .int _ _=>rfl
  | .str _=>rfl
  | .slice _ _ lv=>by cases lv <;> rfl
  | .ptr _ _ _=>rfl
  | .nilp=>rfl
  | .cptr _ _=>rfl
  | .func _ _ _=>rfl
  | .nilf=>rfl
  | .agg cs=>by simp only [copyv,shift,copyvs_shifts k cs]
  | .tuple cs=>by simp only [copyv,shift,copyvs_shifts k cs]
  | .row _ lv=>by cases lv <;> rfl
theorem copyvs_shifts (k:Nat):∀ as:List AV,copyv.copyvs (shift.shifts k as) = shift.shifts k (copyv.copyvs as)
  | []=>rfl
  | a :: r=>by simp only [copyv.copyvs,shift.shifts,copyv_shift k a,copyvs_shifts k r]
end
theorem CE.shiftV {a b:AV} (h:CE a b) (k:Nat):copyv (Vm.shiftV k a) = copyv (Vm.shiftV k b):=by
  cases k with
  | zero=>exact h
  | succ k=>simp only [Vm.shiftV,copyv_shift]; rw [h]
theorem load_ce {cfg:Cfg} (hl:isLoad o.op = true) (h:Agree (rds o.op) s1 s) (hk:LookOK P o s1 s):ss (plan P cfg true o s1) = ss (plan P cfg true o s) ∧ ldOf P o s1 = ldOf P o s:=by
  unfold plan ldOf
  cases hop:o.op <;> rw [hop] at hl <;> first | (cases hl; done) | skip
  rename_i t a
  rw [hop] at h
  have hev:=ev_ce (P:=P) (t:=0) h
  have hk':∀ l i off,ev P s 0 a = .ptr l i off → memWr l i s1.wr = memWr l i s.wr ∧ ObE (getH s1.H l i) (getH s.H l i):=fun l i off he=>hk l i (by unfold ldOf; rw [hop]; simp only [he])
  simp only [cond_true]
  rw [ss_bif,ss_bif]
  rcases hev.cases with h0 | ⟨_,_,_,_,h1,h2⟩ | ⟨_,_,h1,h2,_⟩ | ⟨_,_,h1,h2,_⟩ | ⟨_,_,_,h1,h2⟩
  · refine ⟨?_,by rw [h0]⟩
    congr 1
    unfold loadA
    rw [h0]
    cases hv:ev P s 0 a with
    | ptr l i off =>
      obtain ⟨e1,e2⟩:=hk' l i off hv
      simp only
      cases g1:getH s1.H l i with
      | none =>
        rw [g1] at e2
        cases g2:getH s.H l i with
        | none=>rfl
        | some y=>rw [g2] at e2; cases y <;> cases e2
      | some x =>
        rw [g1] at e2
        cases g2:getH s.H l i with
        | none=>rw [g2] at e2; cases x <;> cases e2
        | some y =>
          rw [g2] at e2
          cases x with
          | abs _ _=>cases y with
            | abs _ _=>rfl
            | cells _=>cases e2
            | map _=>rfl
          | map _=>cases y with
            | abs _ _=>rfl
            | cells _=>cases e2
            | map _=>rfl
          | cells c=>cases y with
            | abs _ _=>cases e2
            | map _=>cases e2
            | cells c' =>
              simp only
              have e2':CEs c c':=e2
              rcases e2'.part (P:=P) t off with ⟨q1,q2⟩ | ⟨u,w,q1,q2,q3⟩
              · rw [q1,q2]; try rfl
              · rw [q1,q2]
                simp only [Bool.true_and,e1]
                cases memWr l i s.wr
                · simp only [cond_false,ss]; rw [q3.shiftV]
                · rfl
    | cptr cs off=>simp only; split <;> rfl
    | _=>rfl
  all_goals exact ⟨by unfold loadA; rw [h1,h2],by rw [h1,h2]⟩
def gdS (ops:List Oper) (o:Oper):List Nat :=
  match o.guard with
  | some (j,_)=>match nth ops j with
    | some q=>match q.dst with | some d=>[d] | none=>[]
    | none=>[]
  | none=>[]
theorem wanted_ce {ops:List Oper} (h:Agree (gdS ops o) s1 s):wantedV ops s1 o.guard = wantedV ops s o.guard:=by
  unfold wantedV
  unfold gdS at h
  cases hg:o.guard with
  | none=>rfl
  | some jw =>
    obtain ⟨j,want⟩:=jw
    rw [hg] at h
    simp only at h ⊢
    cases hn:nth ops j with
    | none=>rfl
    | some q =>
      rw [hn] at h
      simp only at h ⊢
      cases hd:q.dst with
      | none=>rfl
      | some d =>
        rw [hd] at h
        have hc:=h d (by simp)
        simp only
        rcases hc.cases with h0 | ⟨_,_,_,_,h1,h2⟩ | ⟨_,_,h1,h2,_⟩ | ⟨c,c',h1,h2,hcc⟩ | ⟨_,_,_,h1,h2⟩
        · rw [h0]
        · rw [h1,h2]
        · rw [h1,h2]
        · rw [h1,h2]
          cases c <;> cases c' <;> first | rfl | exact hcc.nil_cons.elim | exact hcc.cons_nil.elim
        · rw [h1,h2]
theorem fx_ce {ops:List Oper} (hf:floatB P o.op = true) (hg:Agree (gdS ops o) s1 s) (h:Agree (rds o.op) s1 s) (hk:LookOK P o s1 s):fx P cf cfg ops o s1 = fx P cf cfg ops o s:=by
  unfold fx
  rw [wanted_ce hg]
  cases wantedV ops s o.guard with
  | none=>rfl
  | some b =>
    cases b with
    | false=>rfl
    | true =>
      simp only
      have hboth:(run1 cf cfg true (plan P cfg true o s1)).map (fun x=>(x.2.1,x.2.2)) = (run1 cf cfg true (plan P cfg true o s)).map (fun x=>(x.2.1,x.2.2)) ∧ ldOf P o s1 = ldOf P o s:=by
        cases hl:isLoad o.op with
        | true =>
          have:=load_ce (cfg:=cfg) hl h hk
          exact ⟨by rw [run1_runF (load_st (cfg:=cfg) hl),run1_runF (load_st (cfg:=cfg) hl),this.1],this.2⟩
        | false=>exact ⟨by rw [run1_runF (float_st (cfg:=cfg) hf hl),run1_runF (float_st (cfg:=cfg) hf hl),float_ce hf hl h],by rw [ldOf_none hl,ldOf_none hl]⟩
      rw [hboth.2]
      cases h1:run1 cf cfg true (plan P cfg true o s1) with
      | none =>
        rw [h1] at hboth
        cases h2:run1 cf cfg true (plan P cfg true o s) with
        | none=>rfl
        | some y=>rw [h2] at hboth; have:=hboth.1; cases this
      | some x =>
        rw [h1] at hboth
        cases h2:run1 cf cfg true (plan P cfg true o s) with
        | none=>rw [h2] at hboth; have:=hboth.1; cases this
        | some y =>
          rw [h2] at hboth
          have:=hboth.1
          simp only [Option.map_some,Option.some.injEq,Prod.mk.injEq] at this
          obtain ⟨x1,x2,x3⟩:=x
          obtain ⟨y1,y2,y3⟩:=y
          simp only at this ⊢
          rw [this.1,this.2]
end Go.Vm
namespace Go.Vm
variable {P:Program} {cf:CallK} {cfg:Cfg} {s s1 s2:RS} {o:Oper}
theorem ObE.trans {a b c:Option Ob} (h:ObE a b) (k:ObE b c):ObE a c:=by
  cases a with
  | none=>cases b with
    | none=>exact k
    | some y=>cases y <;> cases h
  | some x =>
    cases x with
    | abs _ _=>cases b with
      | none=>cases h
      | some y=>cases y with
        | abs _ _=>rw [show (some (Ob.abs _ _)) = some (Ob.abs _ _) from h]; exact k
        | map _=>cases h
        | cells _=>cases h
    | map _=>cases b with
      | none=>cases h
      | some y=>cases y with
        | map _=>rw [show (some (Ob.map _)) = some (Ob.map _) from h]; exact k
        | abs _ _=>cases h
        | cells _=>cases h
    | cells cx=>cases b with
      | none=>cases h
      | some y=>cases y with
        | abs _ _=>cases h
        | map _=>cases h
        | cells cy=>cases c with
          | none=>cases k
          | some z=>cases z with
            | abs _ _=>cases k
            | map _=>cases k
            | cells cz=>exact Eq.trans h k
theorem CEs_set {vs:List AV} (j:Nat):CEs (setAt vs j (copyv (nthD vs j))) vs:=by
  induction vs generalizing j with
  | nil=>rfl
  | cons a r ih =>
    cases j with
    | zero =>
      simp only [setAt,nthD,nth,CEs,copyv.copyvs]
      congr 1
      have:∀ a:AV,copyv (copyv a) = copyv a:=fun a=>copyv_idem a
      exact this a
    | succ j =>
      have:=ih j
      simp only [setAt,CEs,copyv.copyvs] at this ⊢
      congr 1
where
  copyv_idem:∀ a:AV,copyv (copyv a) = copyv a
    | .undef=>rfl
    | .bool _=>rfl
    | .int _ _=>rfl
    | .str _=>rfl
    | .slice _ _ lv=>by cases lv <;> rfl
    | .ptr _ _ _=>rfl
    | .nilp=>rfl
    | .cptr _ _=>rfl
    | .func _ _ _=>rfl
    | .nilf=>rfl
    | .agg cs=>by simp only [copyv,copyvs_idem cs]
    | .tuple cs=>by simp only [copyv,copyvs_idem cs]
    | .row _ lv=>by cases lv <;> rfl
  copyvs_idem:∀ as:List AV,copyv.copyvs (copyv.copyvs as) = copyv.copyvs as
    | []=>rfl
    | a :: r=>by simp only [copyv.copyvs,copyv_idem a,copyvs_idem r]
theorem CE.copyv (a:AV):CE (copyv a) a:=CEs_set.copyv_idem a
theorem CE.trans {a b c:AV} (h:CE a b) (k:CE b c):CE a c:=Eq.trans h k
theorem headLen_setH:∀ (H:Stack) (l i:Nat) (x:Ob),headLen (setH H l i x) = headLen H
  | [],_,_,_=>rfl
  | a :: S,0,i,x=>by simp [setH,headLen,lenN_eq,setAt_eq]
  | a :: S,l + 1,i,x=>rfl
structure Eff0 (s s1:RS):Prop where
  fr:∀ t,CE (s1.fr t) (s.fr t)
  ob:∀ l i,ObE (getH s1.H l i) (getH s.H l i)
  als:s1.als = s.als
  wr:s1.wr = s.wr
  lds:s1.lds = s.lds
  hl:headLen s1.H = headLen s.H
theorem Eff0.refl (s:RS):Eff0 s s:=⟨fun _=>rfl,fun _ _=>ObE.refl _,rfl,rfl,rfl,rfl⟩
theorem Eff0.trans (h:Eff0 s s1) (k:Eff0 s1 s2):Eff0 s s2:=⟨fun t=>(k.fr t).trans (h.fr t),fun l i=>(k.ob l i).trans (h.ob l i),k.als.trans h.als,k.wr.trans h.wr,k.lds.trans h.lds,k.hl.trans h.hl⟩
theorem stripAt_eff (s:RS) (src:Src):Eff0 s (s.stripAt src):=by
  cases src with
  | slot x =>
    refine ⟨fun t=>?_,fun _ _=>ObE.refl _,rfl,rfl,rfl,rfl⟩
    simp only [RS.stripAt]
    by_cases h:t = x
    · subst h; rw [upd_same]; exact CE.copyv _
    · rw [upd_ne _ _ h]; rfl
  | comp x j =>
    refine ⟨fun t=>?_,fun _ _=>ObE.refl _,rfl,rfl,rfl,rfl⟩
    simp only [RS.stripAt]
    by_cases h:t = x
    · subst h
      rw [upd_same]
      cases s.fr t <;> first | rfl | skip
      · rename_i cs
        show Vm.copyv _ = Vm.copyv _
        simp only [Vm.copyv]
        rw [CEs_set j]
      · rename_i cs
        show Vm.copyv _ = Vm.copyv _
        simp only [Vm.copyv]
        rw [CEs_set j]
    · rw [upd_ne _ _ h]; rfl
  | cell l i o =>
    simp only [RS.stripAt]
    split
    · rename_i cs hg
      refine ⟨fun t=>rfl,fun l' i'=>?_,rfl,rfl,rfl,headLen_setH _ _ _ _⟩
      by_cases h:l' = l ∧ i' = i
      · obtain ⟨rfl,rfl⟩:=h
        simp only
        rw [getH_setH_same _ _ _ _ _ hg,hg]
        exact CEs_set o
      · have hne:l' ≠ l ∨ i' ≠ i:=by
          by_cases hl:l' = l
          · exact .inr fun hi=>h ⟨hl,hi⟩
          · exact .inl hl
        simp only
        rw [getH_setH_ne _ _ _ _ _ _ hne]
        exact ObE.refl _
    · exact Eff0.refl s
theorem take_eff (s:RS) (t:Nat):Eff0 s (s.take t).2:=by
  unfold RS.take
  cases s.ownSrc t with
  | none=>exact stripAt_eff s (.slot t)
  | some src=>exact stripAt_eff s src
theorem tk_eff (s:RS) (t:TypeId) (x:Operand):Eff0 s (tk P s t x).2:=by
  cases x <;> first | exact Eff0.refl s | exact take_eff _ _
theorem takeArgs_eff {own:List Nat} {tys:List TypeId}:∀ (xs:List Operand) (s:RS) (i:Nat),Eff0 s (takeArgs P own s tys i xs).2
  | [],s,i=>Eff0.refl s
  | x :: xs,s,i=>by
    simp only [takeArgs]
    refine Eff0.trans ?_ (takeArgs_eff xs _ _)
    cases memN i own
    · exact Eff0.refl s
    · exact tk_eff _ _ _
structure Eff (s s1:RS):Prop where
  fr:∀ t,CE (s1.fr t) (s.fr t)
  ob:∀ l i,memWr l i s1.wr = false → ObE (getH s1.H l i) (getH s.H l i)
  als:∀ t src,s1.als t = some src → s.als t = some src
theorem Eff0.eff (h:Eff0 s s1):Eff s s1:=⟨h.fr,fun l i _=>h.ob l i,fun t src hs=>by rw [← h.als]; exact hs⟩
def quiet:Op → Bool
  | .box _ _=>false
  | .makeMap _ _=>false
  | .mapUpdate ..=>false
  | _=>true
def PEff (q:Bool) (s:RS):Plan → Prop
  | .no=>True
  | .yes _ s1 _ _ | .two _ s1 _ _ | .elt _ _ s1 _ | .sel _ s1 _=>Eff s s1
  | .call _ _ s1=>q = true ∧ Eff0 s s1
theorem PEff.bif {q b:Bool} {x:Plan} (h:PEff q s x):PEff q s (bif b then x else .no):=by
  cases b
  · trivial
  · exact h
theorem PEff.st {q:Bool} {st:RS} {pl:Plan} (h:stIs st pl) (he:Eff s st):PEff q s pl:=by
  cases pl with
  | no=>trivial
  | yes c s v l=>rw [show _ = st from h]; exact he
  | two c s a b=>rw [show _ = st from h]; exact he
  | elt T o s f=>rw [show _ = st from h]; exact he
  | sel m s vs=>rw [show _ = st from h]; exact he
  | call _ _ _=>exact h.elim
theorem plan_eff {cfg:Cfg} (hq:quiet o.op = true) (hal:isAlloc o.op = false):PEff (isVCall o.op) s (plan P cfg true o s):=by
  cases hl:isLoad o.op with
  | true=>exact PEff.st (load_st (cfg:=cfg) hl) ⟨fun _=>rfl,fun _ _ _=>ObE.refl _,fun _ _ h=>h⟩
  | false =>
    cases hf:floatB P o.op with
    | true=>exact PEff.st (float_st (cfg:=cfg) hf hl) (Eff0.refl s).eff
    | false =>
      unfold plan
      cases hop:o.op <;> rw [hop] at hf hl hq hal <;> first | (cases hf; done) | (cases hl; done) | (cases hq; done) | (cases hal; done) | skip
      all_goals simp only
      case assign x=>exact (tk_eff _ _ _).eff
      case store t a x =>
        refine PEff.bif ?_
        unfold storeA
        split
        · rename_i l i off v s1 ex htk
          have he:=tk_eff (P:=P) s t x
          rw [htk] at he
          simp only at he
          split
          · rename_i cs hg
            refine PEff.bif ⟨he.fr,fun l' i' hm=>?_,fun t src hs=>?_⟩
            · simp only [memWr,Bool.or_eq_false_iff] at hm
              have hne:l' ≠ l ∨ i' ≠ i:=by
                by_cases h1:l' = l
                · by_cases h2:i' = i
                  · subst h1; subst h2
                    have:=hm.1
                    rw [(beq_iff l' l').2 rfl,(beq_iff i' i').2 rfl] at this
                    cases this
                  · exact .inr h2
                · exact .inl h1
              simp only
              rw [getH_setH_ne _ _ _ _ _ _ hne]
              exact he.ob l' i'
            · have:=(killOb_some hs).1
              rw [← he.als]; exact this
          · trivial
        · trivial
      case convert a b x =>
        unfold convertA
        repeat' split
        all_goals first | trivial | exact (Eff0.refl s).eff | exact (tk_eff _ _ _).eff
      case makeSlice t x y =>
        unfold makeSliceA
        repeat' split
        all_goals first | trivial | exact (Eff0.refl s).eff
      case call c =>
        try dsimp only
        unfold callA
        split
        · repeat' split
          all_goals first | trivial | (unfold mapLenA; repeat' split) | (unfold lenA; repeat' split)
          all_goals first | trivial | exact (Eff0.refl s).eff
        · repeat' split
          all_goals first | trivial | (unfold minMaxA; repeat' split)
          all_goals first | trivial | exact (Eff0.refl s).eff
        · repeat' split
          all_goals first | trivial | (unfold minMaxA; repeat' split)
          all_goals first | trivial | exact (Eff0.refl s).eff
        · split
          · unfold appendA
            repeat' split
            all_goals first | trivial | exact (tk_eff _ _ _).eff
          · trivial
        · split
          · split
            rename_i htk
            have he:=congrArg (fun x=>x.2) htk
            simp only at he
            rw [← he]
            exact ⟨by simp only [isVCall,‹c.callee = .value _›],takeArgs_eff _ _ _⟩
          · trivial
        · trivial
      all_goals trivial
end Go.Vm
namespace Go.Vm
variable {P:Program} {cf:CallK} {cfg:Cfg} {s s1 s2:RS} {o:Oper} {A:AbsR}
section
variable {d:Nat} {v:AV} {l:Option Src} {ld:Option (Nat × Nat)}
theorem wanted_mu {ops:List Oper} (h:d ∉ gdS ops o):wantedV ops (mu d v l ld s) o.guard = wantedV ops s o.guard:=by
  refine wanted_ce fun t ht=>?_
  have:t ≠ d:=by intro e; subst e; exact h ht
  show CE (upd s.fr d v t) (s.fr t)
  rw [upd_ne _ _ this]; rfl
theorem setAl_comm {a b:Nat} {la lb:Option Src} {als:Als} (hab:a ≠ b) (h1:∀ src,la = some src → src.uses b = false) (h2:∀ src,lb = some src → src.uses a = false):setAl a la (setAl b lb als) = setAl b lb (setAl a la als):=by
  funext t
  by_cases ha:t = a
  · subst ha
    have hb:¬ t = b:=hab
    simp only [setAl,(beq_iff t t).2 rfl,cond_true,beq_false.2 hb,cond_false]
    cases la with
    | none=>rfl
    | some src =>
      simp only
      cases hu:src.uses t with
      | true=>rfl
      | false=>simp only [cond_false,h1 src rfl]
  · by_cases hb:t = b
    · subst hb
      simp only [setAl,(beq_iff t t).2 rfl,cond_true,beq_false.2 ha,cond_false]
      cases lb with
      | none=>rfl
      | some src =>
        simp only
        cases hu:src.uses t with
        | true=>rfl
        | false=>simp only [cond_false,h2 src rfl]
    · simp only [setAl,beq_false.2 ha,beq_false.2 hb,cond_false]
      cases als t with
      | none=>rfl
      | some src =>
        simp only
        cases h3:src.uses a <;> cases h4:src.uses b <;> simp [h3,h4]
theorem put_mu {v':AV} {l':Option Src} (hd:o.dst ≠ some d) (h1:∀ src,l = some src → ∀ q,o.dst = some q → src.uses q = false) (h2:∀ src,l' = some src → src.uses d = false):put o (mu d v l ld s) v' l' = mu d v l ld (put o s v' l'):=by
  unfold put
  cases hq:o.dst with
  | none=>rfl
  | some q =>
    have hne:q ≠ d:=by intro e; subst e; exact hd hq
    simp only [mu]
    rw [upd_comm _ _ _ (Ne.symm hne),setAl_comm hne h2 fun src hs=>h1 src hs q hq]
def PLink (R:List Nat) (ld:Option (Nat × Nat)):Plan → Prop
  | .yes _ _ _ l=>∀ src,l = some src → (∀ q,src.uses q = true → q ∈ R) ∧ ∀ a b q,src = .cell a b q → ld = some (a,b)
  | _=>True
theorem PLink.bif {R:List Nat} {ld:Option (Nat × Nat)} {b:Bool} {x:Plan} (h:PLink R ld x):PLink R ld (bif b then x else .no):=by
  cases b
  · trivial
  · exact h
theorem PLink.none {R:List Nat} {ld:Option (Nat × Nat)} {c:Bool} {s:RS} {v:AV}:PLink R ld (.yes c s v Option.none):=fun src h=>by cases h
theorem intop_link {R:List Nat} {ld:Option (Nat × Nat)} (op:BinOp) (k:IntKind) (x y:Int):PLink R ld (intop op k x y s):=by cases op <;> first | trivial | exact PLink.none
theorem binop_link {R:List Nat} {ld:Option (Nat × Nat)} (op:BinOp) (t:TypeId) (x y:AV):PLink R ld (binop P op t x y s):=by
  unfold binop nilEq nilEqS
  repeat' split
  all_goals first | trivial | exact PLink.none | exact intop_link _ _ _ _ | exact PLink.bif PLink.none | exact PLink.bif trivial
theorem plan_link {cfg:Cfg}:PLink (rds o.op) (ldOf P o s) (plan P cfg true o s):=by
  unfold plan
  cases hop:o.op <;> simp only
  case move x =>
    intro src h
    cases x with
    | tmp y =>
      simp only [linkOf,cond_true,Option.some.injEq] at h
      subst h
      refine ⟨fun q hq=>?_,fun a b q hc=>by cases hc⟩
      have:y = q:=(beq_iff _ _).1 hq
      subst this; simp [rds,rdO]
    | _=>cases h
  case extract x j =>
    unfold extractA
    cases x with
    | tmp y =>
      simp only [cond_true]
      split
      · split
        · intro src h
          simp only [Option.some.injEq] at h
          subst h
          refine ⟨fun q hq=>?_,fun a b q hc=>by cases hc⟩
          have:y = q:=(beq_iff _ _).1 hq
          subst this; simp [rds,rdO]
        · trivial
      · trivial
    | _=>trivial
  case load t a =>
    simp only [cond_true]
    refine PLink.bif ?_
    unfold loadA
    split
    · rename_i l i off ex
      split
      · split
        · simp only [Bool.true_and]
          cases memWr l i s.wr
          · simp only [cond_false]
            intro src h
            cases hag:isAggB P t with
            | false =>
              rw [hag] at h
              simp only [cond_false,Option.some.injEq] at h
              subst h
              refine ⟨fun q hq=>?_,fun a b q hc=>?_⟩
              · cases hq
              cases hc
              unfold ldOf
              rw [hop]
              simp only [ex]
            | true=>rw [hag] at h; cases h
          · trivial
        · trivial
      · trivial
    · split <;> first | trivial | exact PLink.none
    · trivial
  case pick c a b=>split <;> trivial
  case assign x=>exact PLink.none
  case alloc e=>split <;> first | trivial | exact PLink.none | exact PLink.bif PLink.none
  case box e x =>
    repeat' split
    all_goals first | trivial | exact PLink.none | exact PLink.bif PLink.none
  case build t ps =>
    simp only [cond_true]
    unfold buildD
    repeat' split
    all_goals first | trivial | exact PLink.bif PLink.none
  case buildSlice t len ps =>
    try dsimp only
    cases isRowT P t with
    | true =>
      simp only [cond_true]
      unfold buildRowD
      repeat' split
      all_goals first | trivial | exact PLink.none
    | false =>
    simp only [cond_false]
    unfold buildSliceA
    split
    · split
      · refine PLink.bif ?_
        repeat' split
        all_goals first | trivial | exact PLink.none
      · trivial
    · trivial
  case store t a x =>
    refine PLink.bif ?_
    unfold storeA
    repeat' split
    all_goals first | trivial | exact PLink.bif PLink.none
  case nilCheck x=>split <;> first | trivial | exact PLink.none
  case binOp op t x y ty=>split <;> exact binop_link _ _ _ _
  case unOp op t x=>split <;> first | trivial | exact PLink.none
  case convert a b x =>
    unfold convertA
    repeat' split
    all_goals first | trivial | exact PLink.none
  case makeFunc f xs ys=>split <;> first | trivial | exact PLink.none
  case makeSlice t x y =>
    unfold makeSliceA
    repeat' split
    all_goals first | trivial | exact PLink.none
  case slice t x lo hi mx =>
    unfold sliceA
    repeat' split
    all_goals first | trivial | exact PLink.none
  case fieldAddr t x f=>split <;> first | trivial | exact PLink.none | exact PLink.bif PLink.none
  case field t x f =>
    repeat' split
    all_goals first | trivial | exact PLink.none
  case indexAddr t x i =>
    try dsimp only
    unfold indexAddrA
    split
    · cases (Nat.beq _ _ && okT P _) <;> trivial
    · cases (Nat.beq _ _ && okT P _) <;> trivial
    · exact PLink.bif PLink.none
    · trivial
  case index t x i =>
    unfold indexA
    repeat' split
    all_goals first | trivial | exact PLink.none
  case call c =>
    try dsimp only
    unfold callA
    split
    · repeat' split
      all_goals first | trivial | (unfold mapLenA; repeat' split) | (unfold lenA; repeat' split)
      all_goals first | trivial | exact PLink.none
    · repeat' split
      all_goals first | trivial | (unfold minMaxA; repeat' split)
      all_goals first | trivial | exact PLink.none
    · repeat' split
      all_goals first | trivial | (unfold minMaxA; repeat' split)
      all_goals first | trivial | exact PLink.none
    · split
      · unfold appendA
        repeat' split
        all_goals first | trivial | exact PLink.none
      · trivial
    · repeat' split
      all_goals trivial
    · trivial
  case makeMap t r =>
    cases r with
    | some x=>trivial
    | none =>
      simp only
      unfold makeMapA
      split <;> first | trivial | exact PLink.none
  case mapUpdate t m k x =>
    unfold mapUpdA
    split <;> first | trivial | exact PLink.bif PLink.none
  all_goals trivial
end
def PlanWq (s:RS):Plan → Prop
  | .no=>True
  | .yes _ s' _ _ | .two _ s' _ _ | .elt _ _ s' _ | .sel _ s' _ | .call _ _ s'=>s'.wr = s.wr
theorem PlanWq.bif {b:Bool} {x:Plan} (h:PlanWq s x):PlanWq s (bif b then x else .no):=by
  cases b
  · trivial
  · exact h
theorem intop_wq (op:BinOp) (k:IntKind) (x y:Int):PlanWq s (intop op k x y s):=by
  cases op <;> first | trivial | exact rfl
theorem binop_wq (op:BinOp) (t:TypeId) (x y:AV):PlanWq s (binop P op t x y s):=by
  unfold binop nilEq nilEqS
  repeat' split
  all_goals first | trivial | exact rfl | exact intop_wq _ _ _ _ | exact PlanWq.bif rfl | exact PlanWq.bif trivial
theorem plan_wq (dr:Bool) (hdr:dr = true) (o:Oper) (s:RS) (hs:notStore o.op = true):PlanWq s (plan P cfg dr o s):=by
  unfold plan
  split
  · exact rfl
  · split; rename_i htk; exact tk_le htk
  · split <;> first | trivial | exact rfl
  · split <;> first | trivial | exact rfl | exact PlanWq.bif rfl
  · split; rename_i htk
    have hw:=tk_le htk
    split <;> first | trivial | exact hw | exact PlanWq.bif hw
  · cases dr
    · simp only [cond_false]
      unfold buildA
      split
      · split
        rename_i htk
        have hw:=congrArg (fun x=>x.2.wr) htk
        simp only [takeAll_wr] at hw
        have hw:=hw.symm
        repeat' split
        all_goals first | trivial | exact PlanWq.bif hw
      · trivial
    · simp only [cond_true]
      unfold buildD
      repeat' split
      all_goals first | trivial | exact PlanWq.bif rfl
  · have hA:∀ d t len ps,PlanWq s (buildSliceA P d t len ps s):=by
      intro d t len ps
      unfold buildSliceA
      split
      · split
        · refine PlanWq.bif ?_
          repeat' split
          all_goals first | trivial | exact rfl
        · trivial
      · trivial
    cases dr with
    | true =>
      simp only
      cases isRowT P _ with
      | false=>exact hA _ _ _ _
      | true =>
        simp only [cond_true]
        unfold buildRowD
        repeat' split
        all_goals first | trivial | exact rfl
    | false =>
      simp only
      cases isRowT P _ with
      | false=>exact hA _ _ _ _
      | true =>
        simp only [cond_true]
        unfold buildRowA
        repeat' split
        all_goals first | trivial | exact rfl
  · rename_i t a ho
    have hA:∀ d:Bool,PlanWq s (bif okT P t then loadA P d t a s else .no):=by
      intro d
      refine PlanWq.bif ?_
      unfold loadA
      split
      · split
        · split
          · cases d
            · exact rfl
            · simp only [Bool.true_and]
              generalize memWr _ _ s.wr = q
              cases q
              · exact rfl
              · trivial
          · trivial
        · trivial
      · split <;> first | trivial | exact rfl
      · trivial
    cases dr with
    | true=>exact hA true
    | false =>
      simp only [cond_false]
      split
      · unfold loadI
        repeat' split
        all_goals first | trivial | exact rfl
      · exact hA false
  · rename_i hop; rw [hop] at hs; cases hs
  · split <;> first | trivial | exact rfl
  · split <;> exact binop_wq _ _ _ _
  · split <;> first | trivial | exact rfl
  · unfold convertA
    repeat' split
    all_goals first | trivial | exact rfl | skip
    exact tk_wr _ _ _
  · split <;> first | trivial | exact rfl
  · unfold makeSliceA
    repeat' split
    all_goals first | trivial | exact rfl
  · unfold sliceA
    repeat' split
    all_goals first | trivial | exact rfl
  · split <;> first | trivial | exact rfl | exact PlanWq.bif rfl
  · repeat' split
    all_goals first | trivial | exact rfl
  · have hA:∀ t x i,PlanWq s (indexAddrA P t x i s):=by
      intro t x i
      unfold indexAddrA
      repeat' split
      all_goals first | trivial | exact rfl | exact PlanWq.bif (rfl)
    cases dr with
    | true=>exact hA _ _ _
    | false =>
      simp only
      cases isRowT P _ with
      | false=>exact hA _ _ _
      | true =>
        simp only [cond_true]
        unfold rowIdxA
        repeat' split
        all_goals first | exact hA _ _ _ | trivial | exact rfl
  · unfold indexA
    repeat' split
    all_goals first | trivial | exact rfl
  · unfold extractA
    repeat' split
    all_goals first | trivial | exact rfl
  · have hA:∀ c,PlanWq s (callA P cfg c s):=by
      intro c
      unfold callA
      split
      · repeat' split
        all_goals first | trivial | (unfold mapLenA; repeat' split) | (unfold lenA; repeat' split)
        all_goals first | trivial | exact rfl
      · repeat' split
        all_goals first | trivial | (unfold minMaxA; repeat' split)
        all_goals first | trivial | exact rfl
      · repeat' split
        all_goals first | trivial | (unfold minMaxA; repeat' split)
        all_goals first | trivial | exact rfl
      · split
        · unfold appendA
          repeat' split
          all_goals first | trivial | exact tk_wr _ _ _
        · trivial
      · split
        · split
          rename_i htk
          have hw:=congrArg (fun x=>x.2.wr) htk
          simp only [takeArgs_wr] at hw
          exact hw.symm
        · trivial
      · trivial
    cases dr with
    | true=>exact hA _
    | false =>
      simp only
      split
      · unfold rowLenA
        repeat' split
        all_goals first | trivial | exact rfl
      · split
        · cases hdr
        · exact hA _
  · repeat' split
    all_goals first | trivial | (unfold makeMapA; split <;> first | trivial | exact rfl)
  · repeat' split
    all_goals first | trivial | (unfold lookupA; split <;> first | trivial | exact PlanWq.bif rfl)
  · rename_i hop; rw [hop] at hs; cases hs
  · trivial
section
variable {d:Nat} {v:AV} {l:Option Src} {ld:Option (Nat × Nat)}
theorem meets_addLd:∀ (w:Wr) (a b:Nat) (f:Lds),meets w (addLd a b f) = (memWr a b w || meets w f)
  | [],a,b,f=>rfl
  | (x,y) :: w,a,b,f=>by
    simp only [meets,memWr,meets_addLd w a b f,addLd]
    have h1:Nat.beq x a = Nat.beq a x:=by
      cases h:Nat.beq a x with
      | true=>exact (beq_iff _ _).2 ((beq_iff _ _).1 h).symm
      | false=>exact beq_false.2 (Ne.symm (beq_false.1 h))
    have h2:Nat.beq y b = Nat.beq b y:=by
      cases h:Nat.beq b y with
      | true=>exact (beq_iff _ _).2 ((beq_iff _ _).1 h).symm
      | false=>exact beq_false.2 (Ne.symm (beq_false.1 h))
    rw [h1,h2]
    cases (Nat.beq a x && Nat.beq b y) <;> cases f x y <;> cases memWr a b w <;> rfl
theorem run1_fwd {pl:Plan} {s':RS} {v':AV} {l':Option Src} (h:run1 cf cfg true pl = some (s',v',l')) (hw:∀ a b,ld = some (a,b) → memWr a b s'.wr = false) (hl:∀ a b q,l = some (.cell a b q) → ld = some (a,b)):run1 cf cfg true (mapS (mu d v l ld) pl) = some (mu d v l ld s',v',l'):=by
  cases pl with
  | no=>cases h
  | yes c s1 v1 l1 =>
    simp only [run1] at h
    obtain ⟨hc,h⟩:=cond_none h
    cases h
    simp only [mapS,run1,hc,cond_true]
  | two c s1 a b=>cases h; rfl
  | elt T ot s1 f =>
    cases ot with
    | none=>cases h
    | some x=>cases h; rfl
  | sel m s1 vs =>
    simp only [run1] at h
    simp only [mapS,run1]
    cases hv:at? vs m with
    | none=>rw [hv] at h; cases h
    | some x=>rw [hv] at h; cases h; rfl
  | call g args s1 =>
    simp only [run1] at h
    simp only [mapS,run1,mu_H]
    cases hres:cf g args s1.H some with
    | none=>rw [hres] at h; cases h
    | some res =>
      obtain ⟨v0,w0,H0⟩:=res
      rw [hres] at h
      simp only at h ⊢
      cases hm:barred cfg.nl true w0 H0 s1 with
      | true=>rw [hm] at h; cases h
      | false =>
        rw [hm] at h
        simp only [cond_false,Option.some.injEq,Prod.mk.injEq] at h
        obtain ⟨rfl,rfl,rfl⟩:=h
        have hw0:∀ a b,ld = some (a,b) → memWr a b w0 = false:=fun a b hab=>by
          have:=hw a b hab
          simp only [memWr_app,Bool.or_eq_false_iff] at this
          exact this.1
        have hb:barred cfg.nl true w0 H0 (mu d v l ld s1) = false:=by
          rw [← hm]
          simp only [barred,mu,Bool.true_and]
          congr 1
          cases ld with
          | none=>rfl
          | some x=>obtain ⟨a,b⟩:=x; simp only [addLdo,meets_addLd,hw0 a b rfl,Bool.false_or]
        rw [hb]
        simp only [cond_false,mu]
        rw [killWr_setAl fun a b q hq=>hw0 a b (hl a b q hq)]
theorem run1_bwd {pl:Plan} {s2:RS} {v':AV} {l':Option Src} (h:run1 cf cfg true (mapS (mu d v l ld) pl) = some (s2,v',l')) (hl:∀ a b q,l = some (.cell a b q) → ld = some (a,b)):∃ s',run1 cf cfg true pl = some (s',v',l') ∧ s2 = mu d v l ld s' ∧ ∀ s,PlanWq s pl → ∀ a b,ld = some (a,b) → memWr a b s.wr = false → memWr a b s'.wr = false:=by
  cases pl with
  | no=>cases h
  | yes c s1 v1 l1 =>
    simp only [mapS,run1] at h
    obtain ⟨hc,h⟩:=cond_none h
    cases h
    exact ⟨s1,by simp only [run1,hc,cond_true],rfl,fun s hp a b _ hm=>by rw [show s1.wr = s.wr from hp]; exact hm⟩
  | two c s1 a b=>cases h; exact ⟨s1,rfl,rfl,fun s hp a b _ hm=>by rw [show s1.wr = s.wr from hp]; exact hm⟩
  | elt T ot s1 f =>
    cases ot with
    | none=>cases h
    | some x=>cases h; exact ⟨s1,rfl,rfl,fun s hp a b _ hm=>by rw [show s1.wr = s.wr from hp]; exact hm⟩
  | sel m s1 vs =>
    simp only [mapS,run1] at h
    cases hv:at? vs m with
    | none=>rw [hv] at h; cases h
    | some x=>rw [hv] at h; cases h; exact ⟨s1,by simp only [run1,hv],rfl,fun s hp a b _ hm=>by rw [show s1.wr = s.wr from hp]; exact hm⟩
  | call g args s1 =>
    simp only [mapS,run1,mu_H] at h
    simp only [run1]
    cases hres:cf g args s1.H some with
    | none=>rw [hres] at h; cases h
    | some res =>
      obtain ⟨v0,w0,H0⟩:=res
      rw [hres] at h
      simp only at h ⊢
      cases hm:barred cfg.nl true w0 H0 (mu d v l ld s1) with
      | true=>rw [hm] at h; cases h
      | false =>
        rw [hm] at h
        simp only [cond_false,Option.some.injEq,Prod.mk.injEq] at h
        obtain ⟨rfl,rfl,rfl⟩:=h
        have hb:barred cfg.nl true w0 H0 s1 = false ∧ ∀ a b,ld = some (a,b) → memWr a b w0 = false:=by
          simp only [barred,mu,Bool.true_and,Bool.or_eq_false_iff] at hm ⊢
          cases ld with
          | none=>exact ⟨hm,fun a b h=>by cases h⟩
          | some x =>
            obtain ⟨a,b⟩:=x
            simp only [addLdo,meets_addLd,Bool.or_eq_false_iff] at hm
            exact ⟨⟨hm.1.2,hm.2⟩,fun a' b' h=>by cases h; exact hm.1.1⟩
        rw [hb.1]
        refine ⟨_,rfl,?_,fun s hp a b hab hms=>?_⟩
        · simp only [mu]
          rw [killWr_setAl fun a b q hq=>hb.2 a b (hl a b q hq)]
        · simp only [memWr_app,hb.2 a b hab,Bool.false_or]
          rw [show s1.wr = s.wr from hp]; exact hms
end
end Go.Vm
