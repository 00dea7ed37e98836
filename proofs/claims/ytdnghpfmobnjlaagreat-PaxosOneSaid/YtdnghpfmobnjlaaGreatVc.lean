/- A part of an evaluator of loaded programs and of the proof that it is right. Conditions: none. -/
import Derived.Test.YtdnghpfmobnjlaaGreatVb
import Derived.Laws.DeepStrings4
import Derived.Laws.Small
import Derived.Laws.Strings
import Derived.Laws.AppendOwn
import Derived.Laws.Tables
import Derived.Laws.MakeOwn
import Derived.MapKept
import Derived.Conc.MuLone
set_option linter.unusedVariables false
set_option linter.unusedSimpArgs false
namespace Go.Vm
variable {P:Program} {n:Nat} {A:AbsR} {e:Env} {s:RS} {a:Act} {w:World} {o:Oper}
theorem lowHigh_ok {m:Nat} {lo hi:Option AV} {l h:Nat} {c:Bool} (hl:lowHigh m lo hi = some (l,h,c)) (hc:c = true) :
    l ≤ h ∧ h ≤ m ∧ (lo = none ∧ l = 0 ∨ ∃ k,lo = some (.int k (l:Int))) ∧ (hi = none ∧ h = m ∨ ∃ k,hi = some (.int k (h:Int))):=by
  subst hc
  unfold lowHigh at hl
  split at hl
  · cases hl; exact ⟨Nat.zero_le _,Nat.le_refl _,.inl ⟨rfl,rfl⟩,.inl ⟨rfl,rfl⟩⟩
  · rename_i k x
    simp only [Option.some.injEq,Prod.mk.injEq,Bool.and_eq_true,decide_eq_true_eq] at hl
    obtain ⟨rfl,rfl,h1,h2⟩:=hl
    have:((x.toNat:Nat):Int) = x:=Int.toNat_of_nonneg h1
    exact ⟨by omega,Nat.le_refl _,.inr ⟨k,by rw [this]⟩,.inl ⟨rfl,rfl⟩⟩
  · rename_i k x
    simp only [Option.some.injEq,Prod.mk.injEq,Bool.and_eq_true,decide_eq_true_eq] at hl
    obtain ⟨rfl,rfl,h1,h2⟩:=hl
    have:((x.toNat:Nat):Int) = x:=Int.toNat_of_nonneg h1
    exact ⟨by omega,by omega,.inl ⟨rfl,rfl⟩,.inr ⟨k,by rw [this]⟩⟩
  · rename_i k x k' y
    simp only [Option.some.injEq,Prod.mk.injEq,Bool.and_eq_true,decide_eq_true_eq] at hl
    obtain ⟨rfl,rfl,⟨h1,h2⟩,h3⟩:=hl
    have e1:((x.toNat:Nat):Int) = x:=Int.toNat_of_nonneg h1
    have e2:((y.toNat:Nat):Int) = y:=Int.toNat_of_nonneg (by omega)
    exact ⟨by omega,by omega,.inr ⟨k,by rw [e1]⟩,.inr ⟨k',by rw [e2]⟩⟩
  · cases hl
def okOpo (n:Nat):Option Operand → Prop
  | none=>True
  | some x=>okOp n x
theorem evo_none {t:TypeId} {x:Option Operand} (h:evo P s t x = none):x = none:=by
  cases x with
  | none=>rfl
  | some y=>simp [evo] at h
theorem evo_int (h:RR n A e s a w) {t:TypeId} {x:Option Operand} {k:IntKind} {m:Int} (hx:okOpo n x) (he:evo P s t x = some (.int k m)):∃ y,x = some y ∧ x.map a.eval = some (.int k m):=by
  cases x with
  | none=>simp [evo] at he
  | some y =>
    simp only [evo,Option.some.injEq] at he
    obtain ⟨p,q,hv⟩:=ev_sim (P:=P) h t (x:=y) hx
    rw [he] at hv
    simp only [VR] at hv
    exact ⟨y,rfl,by simp [hv.1]⟩
theorem SR.sliced {cl:Claims} {T:Ty} {xs:List T.interp} {ad:Option Addr} {len cap l h m:Nat} (hs:SR cl T xs (.slice ad len cap)) (h1:l ≤ h) (h2:h ≤ len) (h3:h ≤ m) (h4:m ≤ cap):SR cl T ((xs.take h).drop l) (Go.sliced ad l h m T.size):=by
  obtain ⟨a',len',cap',e1,g1,g2,g3,g4,g5⟩:=hs
  cases e1
  refine ⟨_,_,_,rfl,by simp; omega,by omega,by omega,?_,fun i x hx=>?_⟩
  · intro hn
    by_cases hml:m = l
    · omega
    · rw [if_neg hml] at hn
      cases ad with
      | none=>have:=g4 rfl; omega
      | some z=>simp at hn
  · rw [List.getElem?_drop,List.getElem?_take] at hx
    split at hx
    · rename_i hlt
      obtain ⟨b,off,es,e1,e2,e3⟩:=g5 _ _ hx
      subst e1
      refine ⟨b,off + l * T.size,es,?_,e2,fun j u hu=>?_⟩
      · rw [if_neg (by omega)]
        simp [Addr.add_eq]
      · have:=e3 j u hu
        rw [Nat.add_mul] at this
        rwa [show off + l * T.size + (i * T.size + j) = off + (l * T.size + i * T.size + j) by omega]
    · cases hx
theorem slice_sim (h:RR n A e s a w) {t el:TypeId} {x:Operand} {lo hi mx:Option Operand} {T:Ty} {xs:List T.interp} {lv:Lv} {l r:Nat} {c:Bool} (ho:o.op = .slice t x lo hi mx) (hx:okOp n x) (h1:okOpo n lo) (h2:okOpo n hi) (h3:okOpo n mx)
    (ht:P.underlying t = some (.slice el)) (ex:ev P s t x = .slice T xs lv) (hsz:T.size = sizeB P el) (hel:∃ d,P.underlying el = some d) (hlh:lowHigh xs.length (evo P s 3 lo) (evo P s 3 hi) = some (l,r,c)) (hc:c = true) :
    (mx = none → Done P n A o e a w s (.slice T ((xs.take r).drop l) .view) none) ∧
    (∀ k k' p p',evo P s 3 hi = some (.int k p) → evo P s 3 mx = some (.int k' p') → p = p' → Done P n A o e a w s (.slice T ((xs.take r).drop l) .full) none):=by
  obtain ⟨g1,g2,g3,g4⟩:=lowHigh_ok hlh hc
  obtain ⟨p,q,hvx⟩:=ev_sim (P:=P) h t hx
  rw [ex] at hvx
  simp only [VR] at hvx
  obtain ⟨⟨ad,len,cap,k1,k2,k3,k4,k5,k6⟩,_⟩:=hvx
  have hSR:SR e.cl T xs (.slice ad len cap):=⟨ad,len,cap,rfl,k2,k3,k4,k5,k6⟩
  obtain ⟨d,hd⟩:=hel
  have he:=elem_of ht
  have ht':P.underlying t = some (.slice (P.elem t)):=by rw [he]; exact ht
  have hso:(sizeOf (P.elem t)).run P w = .ok T.size w:=by rw [he,hsz]; exact sizeOf_run w hd
  have fin:∀ v,(Instr.slice t (a.eval x) (lo.map a.eval) (hi.map a.eval) (mx.map a.eval)).run P w = .ok v w → (execOp a.eval o).run P w = .ok (.value v) w:=by
    intro v hv
    refine exec_v (S:=Instr.sliceAt t (a.eval x) (lo.map a.eval) (hi.map a.eval) (mx.map a.eval)) (by unfold execOp; rw [ho]) ?_
    rw [run_sliceAt_slice (P:=P) w t _ _ _ _ ht']
    exact hv
  constructor
  · intro hm
    subst hm
    rcases g3 with ⟨a1,rfl⟩ | ⟨kl,a1⟩ <;> rcases g4 with ⟨a2,rfl⟩ | ⟨kh,a2⟩
    · have:=evo_none a1; subst this
      have:=evo_none a2; subst this
      refine Done.pure h (u:=Go.sliced ad 0 len cap T.size) (fin _ ?_) ?_ (by simp)
      · rw [k1]; simp only [Option.map_none]; rw [run_slice_all (P:=P) w t ad len cap ht',hso]; rfl
      · simp only [VR]; rw [k2]; exact ⟨hSR.sliced (by omega) (by omega) (by omega) (by omega),trivial⟩
    · have:=evo_none a1; subst this
      obtain ⟨y,rfl,hy⟩:=evo_int h h2 a2
      refine Done.pure h (u:=Go.sliced ad 0 r cap T.size) (fin _ ?_) ?_ (by simp)
      · rw [k1,hy]; simp only [Option.map_none]; rw [run_slice_h (P:=P) w t ad len cap ht' kh (r:Int) (by omega) (by omega),hso]; rfl
      · simp only [VR]; exact ⟨hSR.sliced g1 (by omega) (by omega) (by omega),trivial⟩
    · have:=evo_none a2; subst this
      obtain ⟨y,rfl,hy⟩:=evo_int h h1 a1
      refine Done.pure h (u:=Go.sliced ad l len cap T.size) (fin _ ?_) ?_ (by simp)
      · rw [k1,hy]; simp only [Option.map_none]; rw [run_slice_l (P:=P) w t ad len cap ht' kl (l:Int) (by omega) (by omega),hso]; rfl
      · simp only [VR]; rw [k2]; exact ⟨hSR.sliced (by omega) (by omega) (by omega) (by omega),trivial⟩
    · obtain ⟨y,rfl,hy⟩:=evo_int h h1 a1
      obtain ⟨z,rfl,hz⟩:=evo_int h h2 a2
      refine Done.pure h (u:=Go.sliced ad l r cap T.size) (fin _ ?_) ?_ (by simp)
      · rw [k1,hy,hz]; simp only [Option.map_none]; rw [run_slice_lh (P:=P) w t ad len cap ht' kl kh (l:Int) (r:Int) (by omega) (by omega) (by omega),hso]; rfl
      · simp only [VR]; exact ⟨hSR.sliced (by omega) (by omega) (by omega) (by omega),trivial⟩
  · intro k k' m m' a2 a3 hmm
    subst hmm
    rcases g4 with ⟨a2',_⟩ | ⟨kh,a2'⟩
    · rw [a2'] at a2; cases a2
    · rw [a2'] at a2
      simp only [Option.some.injEq,AV.int.injEq] at a2
      obtain ⟨rfl,rfl⟩:=a2
      obtain ⟨z,rfl,hz⟩:=evo_int h h2 a2'
      obtain ⟨z',rfl,hz'⟩:=evo_int h h3 a3
      have hV:∀ l,l ≤ r → VR e none none (.slice T ((xs.take r).drop l) .full) (Go.sliced ad l r r T.size):=by
        intro l hl
        simp only [VR]; exact ⟨hSR.sliced hl (by omega) (by omega) (by omega),⟨_,_,rfl⟩⟩
      rcases g3 with ⟨a1,rfl⟩ | ⟨kl,a1⟩
      · have:=evo_none a1; subst this
        refine Done.pure h (u:=Go.sliced ad 0 r r T.size) (fin _ ?_) (hV _ g1) (by simp)
        rw [k1,hz,hz']; simp only [Option.map_none]; rw [run_slice_hm (P:=P) w t ad len cap ht' kh k' (r:Int) (r:Int) (by omega) (by omega) (by omega),hso]; rfl
      · obtain ⟨y,rfl,hy⟩:=evo_int h h1 a1
        refine Done.pure h (u:=Go.sliced ad l r r T.size) (fin _ ?_) (hV _ g1) (by simp)
        rw [k1,hy,hz,hz',run_slice_lhm (P:=P) w t ad len cap ht' kl kh k' (l:Int) (r:Int) (r:Int) (by omega) (by omega) (by omega) (by omega),hso]; rfl
theorem slice_string_sim (h:RR n A e s a w) {t:TypeId} {x:Operand} {lo hi:Option Operand} {xs:List Int} {l r:Nat} {c:Bool} (ho:o.op = .slice t x lo hi none) (hx:okOp n x) (h1:okOpo n lo) (h2:okOpo n hi)
    (ht:P.underlying t = some .string) (ex:ev P s t x = .str xs) (hlh:lowHigh xs.length (evo P s 3 lo) (evo P s 3 hi) = some (l,r,c)) (hc:c = true) :
    Done P n A o e a w s (.str ((xs.take r).drop l)) none:=by
  obtain ⟨g1,g2,g3,g4⟩:=lowHigh_ok hlh hc
  obtain ⟨p,q,hvx⟩:=ev_sim (P:=P) h t hx
  rw [ex] at hvx
  simp only [VR] at hvx
  obtain ⟨z,k1,k2,k3⟩:=hvx
  have hlen:xs.length = z.size:=by rw [← k2,bytesOf_length]
  have fin:∀ v,(Instr.slice t (a.eval x) (lo.map a.eval) (hi.map a.eval) none).run P w = .ok v w → (execOp a.eval o).run P w = .ok (.value v) w:=by
    intro v hv
    refine exec_v (S:=Instr.sliceAt t (a.eval x) (lo.map a.eval) (hi.map a.eval) none) (by unfold execOp; rw [ho]; simp) ?_
    rw [run_sliceAt_string (P:=P) w t _ _ _ _ ht]
    exact hv
  have hV:VR e none none (.str ((xs.take r).drop l)) (.string (z.extract l r)):=by
    simp only [VR]
    refine ⟨_,rfl,?_,?_⟩
    · rw [bytesOf_extract z l r (by omega),k2]
    · have:(z.extract l r).size ≤ z.size:=by rw [ByteArray.size_extract]; omega
      omega
  rcases g3 with ⟨a1,rfl⟩ | ⟨kl,a1⟩ <;> rcases g4 with ⟨a2,rfl⟩ | ⟨kh,a2⟩
  · have:=evo_none a1; subst this
    have:=evo_none a2; subst this
    refine Done.pure h (fin _ ?_) hV (by simp)
    rw [k1]; simp only [Option.map_none]; rw [run_slice_string_all (P:=P) w t z ht,hlen]
  · have:=evo_none a1; subst this
    obtain ⟨y,rfl,hy⟩:=evo_int h h2 a2
    refine Done.pure h (fin _ ?_) hV (by simp)
    rw [k1,hy]; simp only [Option.map_none]; rw [run_slice_string_h (P:=P) w t z ht kh (r:Int) (by omega) (by omega)]; rfl
  · have:=evo_none a2; subst this
    obtain ⟨y,rfl,hy⟩:=evo_int h h1 a1
    refine Done.pure h (fin _ ?_) hV (by simp)
    rw [k1,hy]; simp only [Option.map_none]; rw [run_slice_string_l (P:=P) w t z ht kl (l:Int) (by omega) (by omega),hlen]; rfl
  · obtain ⟨y,rfl,hy⟩:=evo_int h h1 a1
    obtain ⟨y',rfl,hy'⟩:=evo_int h h2 a2
    refine Done.pure h (fin _ ?_) hV (by simp)
    rw [k1,hy,hy',run_slice_string_if (P:=P) w t z kl kh (l:Int) (r:Int) ht,if_pos (by omega),if_pos (by omega)]; rfl
theorem exec_builtin {c:Call} {b:Builtin} {S:Sem Value} {u:Value} {w':World} (ho:o.op = .call c) (hc:c.callee = .builtin b) (hb:∀ cs,builtin b c.argTypes o.type cs (c.args.map a.eval) = (do pure (.value (← S)))) (hr:S.run P w = .ok u w'):(execOp a.eval o).run P w = .ok (.value u) w':=by
  unfold execOp; rw [ho]
  simp only [resolve,hc,Sem.run_bind,Sem.run_pure,Result.andThen_ok,invoke,hb,hr]
theorem toList1 {α:Type} {xs:Array α} {x:α} (h:xs.toList = [x]):xs = #[x]:=by
  cases xs; simp_all
theorem toList2 {α:Type} {xs:Array α} {x y:α} (h:xs.toList = [x,y]):xs = #[x,y]:=by
  cases xs; simp_all
theorem len_run {c:Call} {x:Operand} {t:TypeId} {u:Value} (ho:o.op = .call c) (hc:c.callee = .builtin .len) (h1:c.args.toList = [x]) (h2:c.argTypes.toList = [t]) (hr:(Builtin.len_ #[t] o.type #[a.eval x]).run P w = .ok u w):(execOp a.eval o).run P w = .ok (.value u) w:=by
  refine exec_builtin (S:=Builtin.len_ #[t] o.type #[a.eval x]) ho hc (fun cs=>?_) hr
  rw [toList1 h1,toList1 h2]; simp [builtin]
theorem len_sim (h:RR n A e s a w) {c:Call} {x:Operand} {t:TypeId} {r:Plan} (ho:o.op = .call c) (hc:c.callee = .builtin .len) (h1:c.args.toList = [x]) (h2:c.argTypes.toList = [t]) (hx:okOp n x) {b:Bool} {s':RS} {v:AV} {l:Option Src} (hr:lenA P t x s = .yes b s' v l) (hb:b = true):Done P n A o e a w s' v l:=by
  subst hb
  obtain ⟨p,q,hvx⟩:=ev_sim (P:=P) h t hx
  unfold lenA at hr
  split at hr
  · rename_i el T xs lv ht ex
    cases hr
    rw [ex] at hvx
    simp only [VR] at hvx
    obtain ⟨⟨ad,len,cap,k1,k2,k3,k4,k5,k6⟩,_⟩:=hvx
    refine Done.pure h (u:=goInt len) (len_run ho hc h1 h2 ?_) ?_ (by simp)
    · rw [k1,run_len_slice (P:=P) w t _ _ _ _ (by rw [elem_of ht]; exact ht)]
    · rw [k2]; exact VR.mkInt (nat_has (by omega))
  · rename_i xs ht ex
    cases hr
    rw [ex] at hvx
    simp only [VR] at hvx
    obtain ⟨z,k1,k2,k3⟩:=hvx
    refine Done.pure h (u:=goInt z.size) (len_run ho hc h1 h2 ?_) ?_ (by simp)
    · rw [k1,run_len_string (P:=P) w t _ _ ht]
    · rw [← k2,bytesOf_length]; exact VR.mkInt (nat_has k3)
  · rename_i m el ht
    simp only [Plan.yes.injEq] at hr
    obtain ⟨g1,rfl,rfl,rfl⟩:=hr
    refine Done.pure h (u:=goInt m) (len_run ho hc h1 h2 ?_) (VR.mkInt (holdsB_has g1)) (by simp)
    simp [Builtin.len_,run_underlying ht]
  · rename_i el ht
    split at hr
    · rename_i m _ ht2
      simp only [Plan.yes.injEq] at hr
      obtain ⟨g1,rfl,rfl,rfl⟩:=hr
      refine Done.pure h (u:=goInt m) (len_run ho hc h1 h2 ?_) (VR.mkInt (holdsB_has g1)) (by simp)
      simp [Builtin.len_,run_underlying ht,run_underlying ht2]
    · cases hr
  · cases hr
theorem minMax_sim (h:RR n A e s a w) {c:Call} {x y:Operand} {t t':TypeId} {mx:Bool} (ho:o.op = .call c) (hc:c.callee = .builtin (if mx then .max else .min)) (h1:c.args.toList = [x,y]) (h2:c.argTypes.toList = [t,t']) (hx:okOp n x) (hy:okOp n y) {b:Bool} {s':RS} {v:AV} {l:Option Src} (hr:minMaxA P mx t x y s = .yes b s' v l) (hb:b = true):Done P n A o e a w s' v l:=by
  subst hb
  obtain ⟨p,q,hvx⟩:=ev_sim (P:=P) h t hx
  obtain ⟨p',q',hvy⟩:=ev_sim (P:=P) h t hy
  unfold minMaxA at hr
  split at hr
  · rename_i ki x0 kj y0 ex ey
    rw [ex] at hvx
    rw [ey] at hvy
    simp only [VR] at hvx hvy
    split at hr
    · rename_i hk _
      cases hr
      obtain rfl:=hk.down
      obtain ⟨e1,i1⟩:=hvx
      obtain ⟨e2,i2⟩:=hvy
      cases mx with
      | true =>
        refine Done.pure h (u:=.int ki (if y0 > x0 then y0 else x0)) (exec_builtin (S:=Builtin.max_ #[t,t'] o.type #[a.eval x,a.eval y]) ho hc (fun cs=>by rw [toList2 h1,toList2 h2]; simp [builtin]) ?_) (VR.mkInt ?_) (by simp)
        · rw [e1,e2,run_max_int2]
        · simp only [cond_true]; split <;> assumption
      | false =>
        refine Done.pure h (u:=.int ki (if y0 < x0 then y0 else x0)) (exec_builtin (S:=Builtin.min_ #[t,t'] o.type #[a.eval x,a.eval y]) ho hc (fun cs=>by rw [toList2 h1,toList2 h2]; simp [builtin]) ?_) (VR.mkInt ?_) (by simp)
        · rw [e1,e2,run_min_int2]
        · simp only [cond_false]; split <;> assumption
    · cases hr
  · cases hr
theorem exec_convert {src dst:TypeId} {x:Operand} {u:Value} {w':World} (ho:o.op = .convert src dst x) (hr:(convert src dst (a.eval x)).run P w = .ok u w'):(execOp a.eval o).run P w = .ok (.value u) w' :=
  exec_v (S:=convert src dst (a.eval x)) (by unfold execOp; rw [ho]) hr
theorem bytesOf_strOfNums (xs:List Int) (h:∀ b ∈ xs,0 ≤ b ∧ b ≤ 255):bytesOf (strOfNums xs) = xs:=by
  unfold bytesOf
  rw [strOfNums_data,List.map_map]
  conv=>rhs; rw [← List.map_id xs]
  refine List.map_congr_left fun b hb=>?_
  obtain ⟨h1,h2⟩:=h b hb
  simp only [Function.comp,id]
  rw [UInt8.toNat_ofNat']
  omega
theorem SR.cells_u8 {e:Env} (hw:WOK e w) {xs:List Int} {ad:Option Addr} {len cap:Nat} (hs:SR e.cl (.int .u8) xs (.slice ad len cap)) :
    xs.length = len ∧ len ≤ maxInt ∧ (∀ b ∈ xs,0 ≤ b ∧ b ≤ 255) ∧ (ad = none ∧ xs = [] ∨ ∃ b off,ad = some ⟨b,off,none⟩ ∧ ∀ i,i < len → w.cell? ⟨b,off + i,none⟩ = some (.int .u8 (xs.getD i 0))) ∨ xs = [] ∧ len = 0:=by
  obtain ⟨a',len',cap',e1,g1,g2,g3,g4,g5⟩:=hs
  cases e1
  have hr:∀ (b:Int),b ∈ xs → 0 ≤ b ∧ b ≤ 255:=by
    intro b hb
    obtain ⟨i,hi,rfl⟩:=List.mem_iff_getElem.1 hb
    obtain ⟨_,_,es,_,h2,_⟩:=g5 i xs[i] (by simp [hi])
    obtain ⟨_,h2⟩:=h2
    simp only [IntKind.has,IntKind.min,IntKind.max,IntKind.signed,IntKind.bits] at h2
    exact ⟨by simpa using h2.1,by simpa using h2.2⟩
  cases xs with
  | nil=>right; exact ⟨rfl,by simpa using g1.symm⟩
  | cons x xs =>
    left
    refine ⟨g1,by omega,hr,.inr ?_⟩
    obtain ⟨b,off,es,e1,_,_⟩:=g5 0 x (by simp)
    refine ⟨b,off,e1,fun i hi=>?_⟩
    have hi':i < (x :: xs).length:=by omega
    obtain ⟨b',off',es',e1',⟨e2',_⟩,e3'⟩:=g5 i (x :: xs)[i] (by rw [List.getElem?_eq_getElem hi'])
    rw [e1] at e1'; cases e1'
    have:=e3' 0 _ (by rw [e2']; rfl)
    have hd:(x :: xs).getD i 0 = (x :: xs)[i]:=by rw [List.getD_eq_getElem?_getD,List.getElem?_eq_getElem hi']; rfl
    rw [hd]
    have hsz:i * (Ty.int IntKind.u8).size + 0 = i:=by simp [Ty.size]
    rw [hsz] at this
    exact hw.holds _ _ _ this
theorem loadCells_zero (w:World) (ad:Addr):(loadCells ad 0).run P w = .ok #[] w:=by
  simp [loadCells,loadCellsFrom]
theorem convert_bytes_string (h:RR n A e s a w) {src dst el:TypeId} {x:Operand} {xs:List Int} {lv:Lv} (ho:o.op = .convert src dst x) (hx:okOp n x) (hs:P.underlying src = some (.slice el)) (he:P.underlying el = some (.int .u8)) (hd:P.underlying dst = some .string)
    (ex:ev P s src x = .slice (.int .u8) xs lv):Done P n A o e a w s (.str xs) none:=by
  obtain ⟨p,q,hvx⟩:=ev_sim (P:=P) h src hx
  rw [ex] at hvx
  simp only [VR] at hvx
  obtain ⟨hSR,_⟩:=hvx
  have hSR0:=hSR
  obtain ⟨ad,len,cap,k1,k2,k3,k4,k5,k6⟩:=hSR
  rw [k1] at hSR0
  rcases hSR0.cells_u8 h.wok with ⟨g1,g2,g3,g4⟩ | ⟨rfl,rfl⟩
  · rcases g4 with ⟨rfl,rfl⟩ | ⟨b,off,rfl,g5⟩
    · refine Done.pure h (exec_convert ho (by rw [k1]; exact run_convert_bytes_nil (P:=P) w src el hs he len cap dst hd)) ?_ (by simp)
      simp only [VR]; exact ⟨_,rfl,rfl,by simp [maxInt]⟩
    · refine Done.pure h (exec_convert ho (by rw [k1]; exact run_convert_bytes_arg (P:=P) w src el hs he b off len cap xs g1 g5 dst hd)) ?_ (by simp)
      simp only [VR]; exact ⟨_,rfl,bytesOf_strOfNums xs g3,by rw [strOfNums_size]; omega⟩
  · cases ad with
    | none =>
      refine Done.pure h (exec_convert ho (by rw [k1]; exact run_convert_bytes_nil (P:=P) w src el hs he _ cap dst hd)) ?_ (by simp)
      simp only [VR]; exact ⟨_,rfl,rfl,by simp [maxInt]⟩
    | some z =>
      have:=run_bytesToString (P:=P) w z 0 cap [] (by simpa using loadCells_zero (P:=P) w z)
      refine Done.pure h (u:=.string ByteArray.empty) (exec_convert ho (by rw [k1,run_convert_bytes_string w src dst el _ _ cap hs he hd]; simpa using this)) ?_ (by simp)
      simp only [VR]; exact ⟨_,rfl,rfl,by simp [maxInt]⟩
theorem convert_string_bytes (h:RR n A e s a w) {src dst el:TypeId} {x:Operand} {xs:List Int} (ho:o.op = .convert src dst x) (hx:okOp n x) (hs:P.underlying src = some .string) (he:P.underlying el = some (.int .u8)) (hd:P.underlying dst = some (.slice el))
    (ex:ev P s src x = .str xs):Done P n A o e a w s (.slice (.int .u8) xs .view) none:=by
  obtain ⟨p,q,hvx⟩:=ev_sim (P:=P) h src hx
  rw [ex] at hvx
  simp only [VR] at hvx
  obtain ⟨z,k1,k2,k3⟩:=hvx
  have hge:=grownCap_ge w z.size 0 el
  have hle:grownCap w z.size 0 el ≤ maxInt:=grownCap_le_maxLen w z.size 0 el k3
  have hcs:(Lib.bytesCells w el z).size = grownCap w z.size 0 el:=by
    simp only [Lib.bytesCells,Array.size_append,Array.size_map,Array.size_replicate,ByteArray.size_data]; omega
  have hext:=Ext.newRow (e:=e) (w:=w) (w':=Lib.bytesWorld w el z) (g:=w.heap.size) (c:=Lib.bytesCells w el z) (m:=z.size) (p:=none) rfl rfl rfl rfl (by rw [Lib.bytesWorld_size]; omega) (fun b hb=>Lib.bytesWorld_at_old w el z b hb)
  have hwok:=WOK.newRow (c:=Lib.bytesCells w el z) (m:=z.size) (p:=none) h.wok rfl (fun b hb=>Lib.bytesWorld_at_old w el z b hb) (Lib.bytesWorld_at_new w el z) (.inr (by omega)) (by simp)
  refine ⟨_,_,_,.inl (exec_convert ho (by rw [k1]; exact Lib.run_convert_string_bytes w src dst el z hs hd he)),h.ext hext hwok,?_,by simp,hext.grow h.wok h.hr _,hext.rhoLe⟩
  simp only [VR]
  refine ⟨⟨_,_,_,rfl,by rw [← k2,bytesOf_length],hge,hle,by simp,fun i b hb=>?_⟩,trivial⟩
  rw [← k2] at hb
  obtain ⟨hi,rfl⟩:=bytesOf_get z i b hb
  have hlt:=(z[i]'hi).toNat_lt
  refine ⟨w.heap.size,0,[.int .u8 ((z[i]'hi).toNat:Int)],rfl,⟨rfl,?_⟩,fun j u hu=>?_⟩
  · simp only [IntKind.has,IntKind.min,IntKind.max,IntKind.signed,IntKind.bits]
    exact ⟨Int.natCast_nonneg _,by simp; omega⟩
  · cases j with
    | zero =>
      simp at hu; subst hu
      have hz:(Ty.int IntKind.u8).size = 1:=rfl
      simp only [Env.newRow,if_true,hz]
      rw [if_pos (by omega)]
      have:0 + (i * 1 + 0) = i:=by omega
      rw [this]
      simp only [Lib.bytesCells]
      rw [Array.getElem?_append_left (by simpa using hi),Array.getElem?_map]
      have hzi:z.data[i]? = some (z[i]'hi):=by
        rw [Array.getElem?_eq_getElem (by simpa using hi)]; rfl
      rw [hzi]; rfl
    | succ j=>simp at hu
theorem freeze_heap_ne {b m k:Nat} {q:Nat} (h:k ≠ b):(w.freeze ⟨b,q,none⟩ m).heap[k]? = w.heap[k]?:=by
  unfold World.freeze
  split
  · rfl
  · simp only [Array.getElem?_modify]; rw [if_neg (Ne.symm h)]
theorem freeze_heap_same {b q:Nat} {c:Array Value} {ty:TypeId} {lo hi:Nat} (h:w.heap[b]? = some (.cells c ty (lo,hi))):(w.freeze ⟨b,q,none⟩ 1).heap[b]? = some (.cells c ty (if lo == hi then (q,q + 1) else (min lo q,max hi (q + 1)))):=by
  unfold World.freeze
  rw [if_neg (by omega)]
  simp only [Array.getElem?_modify,if_true,h]
  rfl
theorem convert_same (h:RR n A e s a w) {src dst el:TypeId} {x:Operand} {T:Ty} {xs:List T.interp} {s1:RS} (ho:o.op = .convert src dst x) (hx:okOp n x) (hsd:src = dst) (he:P.underlying el = some (.int .u8)) (hd:P.underlying dst = some (.slice el))
    (ex:tk P s src x = (.slice T xs .mine,s1)):Done P n A o e a w s1 (.slice T xs .mine) none:=by
  subst hsd
  obtain ⟨f,hf,hio,h1,h2,h3,h4⟩:=tk_sim (P:=P) h 0 src hx
  rw [ex] at h1 h2 h3
  simp only at h1 h2 h3
  simp only [VR] at h2
  obtain ⟨hSR,hlv⟩:=h2
  obtain ⟨b,len,cap,m,pl,hv,hpl,hown,hcap,hfree⟩:=hlv
  obtain ⟨c,ty,lo,hi,g1,g2,g3⟩:=(h1.wok.free b _ _ hown).row (by simp only [Option.some.injEq] at hpl; rw [← hpl]; rfl)
  have hsh:w.shape? b = some (ty,c.size):=by simp [World.shape?,g1]
  have hrun:(convert src src (a.eval x)).run P w = .ok (a.eval x) (w.freeze ⟨b,c.size,none⟩ 1):=by
    rw [hv]
    simp only [convert,Sem.run_bind,run_underlying hd,run_underlying he,Result.andThen_ok,beq_self_eq_true,markStringish,run_shape,hsh,run_freeze,Sem.run_pure]
  have hg:=freeze_heap_same (q:=c.size) g1
  have hx':∀ k,k ≠ b → (w.freeze ⟨b,c.size,none⟩ 1).heap[k]? = w.heap[k]?:=fun k hk=>freeze_heap_ne hk
  have hcell:∀ k q,(w.freeze ⟨b,c.size,none⟩ 1).cell? ⟨k,q,none⟩ = w.cell? ⟨k,q,none⟩:=by
    intro k q
    by_cases hk:k = b
    · subst hk; simp only [World.cell?,hg,g1]
    · exact cell_of_heap (hx' k hk)
  have hob:∀ l i b',rhoAt (e.ren f).rho l i = some b' → b' ≠ b:=by
    intro l i b' hb' hbb
    subst hbb
    obtain ⟨m',hm'⟩:=h1.hr.noown hb'
    rw [hown] at hm'
    simp only [Option.some.injEq,Prod.mk.injEq] at hm' hpl
    rw [← hpl] at hm'
    cases hm'.1
  have hR:RR n A (e.ren f) s1 a (w.freeze ⟨b,c.size,none⟩ 1):=by
    refine ⟨⟨fun b' q z hz=>by rw [hcell]; exact h1.wok.holds b' q z hz,fun b' p m' hp=>?_⟩,⟨h1.hr.par,fun l i y hy=>?_⟩,h1.fr,fun t src' ht hs'=>?_⟩
    · by_cases hbb:b' = b
      · subst hbb
        obtain ⟨k2,k3⟩:=(h1.wok.free b' p m' hp).of g1
        by_cases hlh:lo = hi
        · have hg':(w.freeze ⟨b',c.size,none⟩ 1).heap[b']? = some (.cells c ty (c.size,c.size + 1)):=by rw [hg]; simp [hlh]
          exact (h1.wok.free b' p m' hp).cells g1 hg' rfl (.inr (by omega))
        · have hg':(w.freeze ⟨b',c.size,none⟩ 1).heap[b']? = some (.cells c ty (min lo c.size,max hi (c.size + 1))):=by rw [hg]; simp [hlh]
          refine (h1.wok.free b' p m' hp).cells g1 hg' rfl (.inr ?_)
          rcases k3 with k3 | k3
          · exact absurd k3 hlh
          · have k3':m' ≤ lo:=k3
            omega
      · exact (h1.wok.free b' p m' hp).to (hx' b' hbb)
    · obtain ⟨b',hb',c',ty',fz',k1,k2,k3,k4⟩:=h1.hr.ob l i y hy
      exact ⟨b',hb',c',ty',fz',by rw [hx' b' (hob l i b' hb')]; exact k1,k2,k3,k4⟩
    · exact (h1.als t src' ht hs').env (fun _ _ _ h=>h) fun l i q _ b' hb'=>hcell b' q
  refine ⟨e.ren f,_,_,.inl (exec_convert ho hrun),hR,?_,by simp,?_,fun _ _ _ h=>h⟩
  · simp only [VR]; exact ⟨hSR,⟨b,len,cap,m,pl,hv,hpl,hown,hcap,hfree⟩⟩
  · refine ⟨by unfold World.freeze; split <;> rfl,by unfold World.freeze; split <;> rfl,by unfold World.freeze; split <;> rfl,by unfold World.freeze; split <;> simp,ClLe.refl _,fun b' hb' hn=>⟨hx' b' fun hbb=>?_,?_,fun _=>rfl⟩,fun _ _ _ h=>h,fun l i b' hb' _=>hx' b' (hob l i b' hb')⟩
    · subst hbb
      obtain ⟨p0,hp0,hp1⟩:=Env.ren_own_inv hown
      rw [hp0] at hn
      rcases hn with hn | ⟨p,k,hn⟩
      · cases hn
      · simp only [Option.some.injEq,Prod.mk.injEq] at hn hpl
        rw [hn.1,hf.hid] at hp1
        rw [hp1] at hpl; cases hpl
    · rcases hn with hn | ⟨p,k,hn⟩
      · simp [Env.ren,hn]
      · simp [Env.ren,hn,hf.hid]
end Go.Vm
namespace Go.Vm
variable {P:Program} {n:Nat} {A:AbsR} {e:Env} {s:RS} {a:Act} {w:World} {o:Oper}
def pushRho:Rho → Nat → Rho
  | l :: S,b=>(l ++ [b]) :: S
  | [],b=>[]
theorem pushRho_old:∀ (R:Rho) (g l i b:Nat),rhoAt R l i = some b → rhoAt (pushRho R g) l i = some b
  | [],_,_,_,_,h=>by simp [rhoAt] at h
  | r :: R,g,0,i,b,h=>by
    simp only [rhoAt,pushRho,nth_eq] at h ⊢
    have hi:i < r.length:=by
      rcases Nat.lt_or_ge i r.length with h' | h'
      · exact h'
      · rw [List.getElem?_eq_none h'] at h; cases h
    rw [List.getElem?_append_left hi]; exact h
  | r :: R,g,l + 1,i,b,h=>by simpa only [rhoAt,pushRho] using h
theorem pushRho_new {R:Rho} {l:List Ob} {S:Stack} (g:Nat) (h:Par R (l :: S)):rhoAt (pushRho R g) 0 (lenN l) = some g:=by
  cases R with
  | nil=>simp [Par] at h
  | cons r R =>
    simp only [Par] at h
    simp only [pushRho,rhoAt,nth_eq,lenN_eq,← h.1]
    simp
theorem Par.push {R:Rho} {l:List Ob} {S:Stack} (g:Nat) (x:Ob) (h:Par R (l :: S)):Par (pushRho R g) (app l [x] :: S):=by
  cases R with
  | nil=>simp [Par] at h
  | cons r R =>
    simp only [Par,pushRho,app_eq,List.length_append] at h ⊢
    exact ⟨by simp [h.1],h.2⟩
def Env.push (e:Env) (g:Nat):Env:={ e with rho:=pushRho e.rho g }
theorem Env.push_le (e:Env) (g:Nat):RhoLe e (e.push g):=fun l i b h=>pushRho_old e.rho g l i b h
theorem VR.push {g:Nat} {p:Option Pl} {q:Option (Nat → Pl)} {x:AV} {v:Value} (h:VR e p q x v):VR (e.push g) p q x v :=
  VR.mono (Env.push_le e g) (ClLe.refl _) x p p q q v (fun y hy=>⟨y,hy,⟨fun b n h=>⟨h,fun _ h=>h⟩⟩⟩) (fun f hf=>⟨f,hf,fun j=>⟨fun b n h=>⟨h,fun _ h=>h⟩⟩⟩) h
theorem VR.pushDr {g l:Nat} {p:Option Pl} {q:Option (Nat → Pl)} {x:AV} {v:Value} (h:VR (e.dr l) p q x v):VR ((e.push g).dr l) p q x v :=
  VR.mono (e:=e.dr l) (e':=(e.push g).dr l) ((Env.push_le e g).dr l) (ClLe.refl _) x p p q q v (fun y hy=>⟨y,hy,⟨fun b n h=>⟨h,fun _ h=>h⟩⟩⟩) (fun f hf=>⟨f,hf,fun j=>⟨fun b n h=>⟨h,fun _ h=>h⟩⟩⟩) h
theorem getH_push {l:List Ob} {S:Stack} {y:Ob} {l' i':Nat} {x:Ob} (h:getH (app l [y] :: S) l' i' = some x):getH (l :: S) l' i' = some x ∨ l' = 0 ∧ i' = lenN l ∧ x = y:=by
  cases l' with
  | succ l'=>left; simpa only [getH] using h
  | zero =>
    simp only [getH,nth_eq,app_eq,lenN_eq] at h ⊢
    rcases Nat.lt_or_ge i' l.length with hi | hi
    · left; rwa [List.getElem?_append_left hi] at h
    · right
      rw [List.getElem?_append_right hi] at h
      have:i' - l.length = 0:=by
        rcases Nat.eq_zero_or_pos (i' - l.length) with h0 | h0
        · exact h0
        · rw [List.getElem?_eq_none (by simp; omega)] at h; cases h
      rw [this] at h
      simp at h
      exact ⟨trivial,by omega,h.symm⟩
theorem RR.push {l:List Ob} {S:Stack} {g:Nat} {c:Array Value} {ty:TypeId} {fz:Nat × Nat} {y:Ob} (h:RR n A e s a w) (hH:s.H = l :: S) (hown:e.own g = some (.ob 0 (lenN l),c.size)) (hcl:∀ o,e.cl g o = none) (hb:HB w.heap[g]? c ty fz y)
    (hc:match y with | .cells cs=>CellsR e 0 (lenN l) cs c.toList | .abs k d=>A k d c.toList | .map _=>True):RR n A (e.push g) { s with H:=app l [y] :: S } a w:=by
  have hpar:Par e.rho (l :: S):=by rw [← hH]; exact h.hr.par
  refine ⟨⟨h.wok.holds,h.wok.free⟩,⟨hpar.push g _,fun l' i' x hx=>?_⟩,⟨h.fr.size,fun t ht=>(h.fr.val t ht).push⟩,fun t src ht hs=>(h.als t src ht hs).env (Env.push_le e g) fun _ _ _ _ _ _=>rfl⟩
  rcases getH_push hx with hx | ⟨rfl,rfl,rfl⟩
  · rw [← hH] at hx
    obtain ⟨b,hb',c',ty',fz',k1,k2,k3,k4⟩:=h.hr.ob l' i' x hx
    refine ⟨b,Env.push_le e g _ _ _ hb',c',ty',fz',k1,k2,k3,?_⟩
    cases x with
    | abs _ _=>exact k4
    | map _=>trivial
    | cells cs2=>exact ⟨k4.1,fun o av u h1 h2=>(k4.2 o av u h1 h2).pushDr⟩
  · refine ⟨g,pushRho_new g hpar,c,ty,fz,hb,hown,hcl,?_⟩
    cases x with
    | abs _ _=>exact hc
    | map _=>trivial
    | cells cs=>exact ⟨hc.1,fun o av u h1 h2=>(hc.2 o av u h1 h2).pushDr⟩
theorem Grow.push (e:Env) (w:World) (g:Nat) (wr:Wr):Grow e w (e.push g) w wr :=
  ⟨rfl,rfl,rfl,Nat.le_refl _,ClLe.refl _,fun _ _ _=>⟨rfl,rfl,fun _=>rfl⟩,fun l i b h=>Env.push_le e g _ _ _ h,fun _ _ _ _ _=>rfl⟩
theorem run_newVar (w:World) (t:TypeId) (v:Value):(newVar t v).run P w = .ok ⟨w.heap.size,0,none⟩ (w.alloc (.cells v.cells t)):=by
  simp [newVar,newRow]
theorem alloc_new (w:World) (ob:Obj):(w.alloc ob).heap[w.heap.size]? = some ob:=by simp [World.alloc,-World.alloc_eq]
theorem alloc_old (w:World) (ob:Obj) (k:Nat) (hk:k < w.heap.size):(w.alloc ob).heap[k]? = w.heap[k]?:=by
  simp [World.alloc,-World.alloc_eq,Array.getElem?_push]; intro h; omega
theorem newOb_done {o:Oper} {l:List Ob} {S:Stack} {f:Pl → Pl} {y:Ob} {u:Value} {ty:TypeId} (h:RR n A (e.ren f) s a w) (hf:∀ p,f (.hid p) = .hid p) (hH:s.H = l :: S)
    (hrun:(execOp a.eval o).run P w = .ok (.value (.pointer (some ⟨w.heap.size,0,none⟩))) (w.alloc (.cells u.cells ty)))
    (hc:match y with
      | .cells cs=>CellsR (e.ren f) 0 (lenN l) cs u.cells.toList
      | .abs k d=>A k d u.cells.toList
      | .map _=>False) (hlow:u.cells.size < mapO) :
    Done P n A o e a w { s with H:=app l [y] :: S } (.ptr 0 (lenN l) 0) none:=by
  have hext:=Ext.newRow (e:=e.ren f) (w:=w) (w':=w.alloc (.cells u.cells ty)) (g:=w.heap.size) (c:=u.cells) (m:=0) (p:=some (.ob 0 (lenN l))) rfl rfl rfl rfl (by simp [World.alloc,-World.alloc_eq]) (fun b hb=>alloc_old w _ b hb)
  have hwok:=WOK.newRow (c:=u.cells) (m:=0) (p:=some (.ob 0 (lenN l))) h.wok rfl (fun b hb=>alloc_old w (.cells u.cells ty) b hb) (alloc_new w _) (.inl rfl) (fun _ _ _=>hlow)
  have h1:=h.ext hext hwok
  have h2:=RR.push (g:=w.heap.size) (c:=u.cells) (y:=y) h1 hH (by simp [Env.newRow]) (fun o=>by simp [Env.newRow]) (ty:=ty) (fz:=(0,0)) (by
    cases y with
    | abs _ _=>exact alloc_new w _
    | map _=>exact hc.elim
    | cells _=>exact alloc_new w _) (by
    cases y with
    | abs _ _=>exact hc
    | map _=>trivial
    | cells cs=>exact ⟨hc.1,fun o av u' g1 g2=>VR.ext (hext.dr 0) (h.wok.dr 0) (hc.2 o av u' g1 g2)⟩)
  have hpar:Par e.rho (l :: S):=by have:=h.hr.par; rw [hH] at this; exact this
  refine ⟨_,_,_,.inl hrun,h2,?_,by simp,?_,?_⟩
  · simp only [VR]; exact ⟨w.heap.size,pushRho_new _ hpar,by simp [pval,mapO]⟩
  · have g1:=Grow.ren (f:=f) hf e w s.wr
    have g2:=hext.grow h.wok h.hr s.wr
    have g3:=Grow.push ((e.ren f).newRow w.heap.size u.cells 0 (some (.ob 0 (lenN l)))) (w.alloc (.cells u.cells ty)) w.heap.size s.wr
    exact (g1.trans g2 (fun _ _ _ h=>h) (fun _ _ h=>h)).trans g3 (hext.rhoLe) (fun _ _ h=>h)
  · intro l' i' b hb
    exact Env.push_le _ _ _ _ _ hb
theorem constCells_length {ts:List TypeId} {vs:List Value} {r:List AV} (h:constCells P ts vs = some r):r.length = vs.length:=(constCells_sim (e:=⟨[],fun _=>none,fun _ _=>none⟩) ts vs r 0 h).len
theorem zeros_info {t:TypeId} {cs:List AV} (h:zeros P t = some cs):∃ i z,P.info? t = some i ∧ i.zero = some z ∧ constCells P (leafs P 9 t) z.cells.toList = some cs:=by
  unfold zeros at h
  cases hi:P.info? t with
  | none=>rw [hi] at h; cases h
  | some i =>
    rw [hi] at h
    simp only at h
    cases hz:i.zero with
    | none=>rw [hz] at h; cases h
    | some z=>rw [hz] at h; exact ⟨i,z,rfl,hz,h⟩
theorem zero_run {t:TypeId} {i:TypeInfo} {z:Value} (w:World) (h:P.info? t = some i) (hz:i.zero = some z):(zeroValue t).run P w = .ok z w:=by
  simp [zeroValue,typeInfo,h,hz]
theorem alloc_sim (h:RR n A e s a w) {el:TypeId} {l:List Ob} {S:Stack} {cs:List AV} (ho:o.op = .alloc el) (hH:s.H = l :: S) (hz:zeros P el = some cs) (hlow:Nat.blt (lenN cs) mapO = true):Done P n A o e a w { s with H:=app l [.cells cs] :: S } (.ptr 0 (lenN l) 0) none:=by
  obtain ⟨i,z,h1,h2,h3⟩:=zeros_info hz
  have he:e.ren id = e:=by
    obtain ⟨rho,own,cl⟩:=e
    simp only [Env.ren,Env.mk.injEq,true_and,and_true]
    funext b
    cases own b <;> rfl
  refine newOb_done (f:=id) (y:=.cells cs) (u:=z) (ty:=el) (by rw [he]; exact h) (fun _=>rfl) hH ?_ ?_ (by
    have:=constCells_length h3
    rw [blt_iff,lenN_eq] at hlow
    simp at this
    omega)
  · refine exec_v (S:=Instr.alloc el true (.tuple #[])) (by unfold execOp; rw [ho]) ?_
    simp only [Instr.alloc,Sem.run_bind,zero_run w h1 h2,Result.andThen_ok,run_newVar,Sem.run_pure]
  · rw [he]
    have hv:=constCells_sim (e:=e) _ _ _ 0 h3
    refine ⟨hv.len,fun o av u g1 g2=>?_⟩
    obtain ⟨u',k1,k2⟩:=hv.get o av g1
    rw [g2] at k1; cases k1
    exact (show VR (e.dr 0) none none av u by simpa [Env.dr] using k2).weak
theorem box_sim (h:RR n A e s a w) {el:TypeId} {x:Operand} {l:List Ob} {S:Stack} {v:AV} {s1:RS} (ho:o.op = .box el x) (hx:okOp n x) (htk:tk P s el x = (v,s1)) (hH:s1.H = l :: S) (hs:solid v = true) (hlow:Nat.blt (lenN (cellsOf v)) mapO = true):Done P n A o e a w { s1 with H:=app l [.cells (cellsOf v)] :: S } (.ptr 0 (lenN l) 0) none:=by
  obtain ⟨f,hf,hio,h1,h2,h3,h4⟩:=tk_sim (P:=P) h 0 el hx
  rw [htk] at h1 h2
  simp only at h1 h2
  obtain ⟨k1,k2,k3⟩:=solid_cells hs h2
  have hR:RR n A ((e.ren f).ren (stF 0 (lenN l) 0)) s1 a w:=⟨h1.wok.ren,h1.hr.ren (stF_fix _ _ _) (fun _ _ _=>rfl),⟨h1.fr.size,fun t ht=>VR.ren (by simp [stF]) (by simp [stF]) (h1.fr.val t ht)⟩,fun t src ht hs=>(h1.als t src ht hs).ren _⟩
  rw [Env.ren_ren] at hR
  refine newOb_done (f:=stF 0 (lenN l) 0 ∘ f) (y:=.cells (cellsOf v)) (u:=a.eval x) (ty:=el) hR (fun p=>by simp [Function.comp,hf.hid,stF]) hH ?_ ?_ (by rw [blt_iff,lenN_eq,k1] at hlow; exact hlow)
  · refine exec_v (S:=Instr.box el (a.eval x)) (by unfold execOp; rw [ho]) ?_
    simp only [Instr.box,Sem.run_bind,Result.andThen_ok,run_newVar,Sem.run_pure]
  · rw [← Env.ren_ren]
    refine ⟨by rw [k1]; simp,fun i y u hy hu=>?_⟩
    obtain ⟨j,g1,g2⟩:=k3 i y u hy hu
    refine VR.ren (e:=(e.ren f).dr 0) (p:=some (.io 0 j)) (q:=none) (fun z hz=>?_) (by simp) (by simpa [Env.dr] using g1)
    simp only [Option.some.injEq] at hz ⊢
    subst hz
    rcases g2 with ⟨_,rfl⟩ | ⟨_,rfl,rfl⟩
    · simp [stF]
    · simp [stF]
theorem takeAll_sim:∀ (xs:List Operand) (e:Env) (s:RS) (i:Nat) (ty:Nat → TypeId),RR n A e s a w → (∀ x ∈ xs,okOp n x) →
    ∃ f,Fix f ∧ (∀ i j,f (.io i j) = .io i j) ∧ RR n A (e.ren f) (takeAll P s ty i xs).2 a w ∧ (takeAll P s ty i xs).1.length = xs.length ∧
      (∀ j v x,(takeAll P s ty i xs).1[j]? = some v → xs[j]? = some x → VR (e.ren f) (some (.io (i + j) 0)) (some fun k=>.io (i + j) (k + 1)) v (a.eval x)) ∧ (takeAll P s ty i xs).2.wr = s.wr ∧ (takeAll P s ty i xs).2.lds = s.lds
  | [],e,s,i,ty,h,_=>by
    have he:e.ren id = e:=by
      obtain ⟨rho,own,cl⟩:=e
      simp only [Env.ren,Env.mk.injEq,true_and,and_true]
      funext b
      cases own b <;> rfl
    exact ⟨id,⟨fun _ _=>rfl,fun _=>rfl⟩,fun _ _=>rfl,by rw [he]; exact h,rfl,fun j v x hj=>by simp [takeAll] at hj,rfl,rfl⟩
  | x :: xs,e,s,i,ty,h,hx=>by
    obtain ⟨f,hf,hio,h1,h2,h3,h4⟩:=tk_sim (P:=P) h i (ty i) (x:=x) (hx x (by simp))
    obtain ⟨g,gf,gio,g1,g2,g3,g4,g5⟩:=takeAll_sim xs (e.ren f) (tk P s (ty i) x).2 (i + 1) ty h1 (fun y hy=>hx y (by simp [hy]))
    refine ⟨g ∘ f,⟨fun l i=>by simp [hf.ob,gf.ob],fun p=>by simp [hf.hid,gf.hid]⟩,fun i j=>by simp [hio,gio],?_,?_,?_,?_,?_⟩
    · rw [← Env.ren_ren]; exact g1
    · simp only [takeAll,List.length_cons]; rw [g2]
    · intro j v y hv hy
      rw [← Env.ren_ren]
      cases j with
      | zero =>
        simp only [takeAll,List.getElem?_cons_zero,Option.some.injEq] at hv hy
        subst hv; subst hy
        refine VR.ren (fun z hz=>?_) (fun k hk=>?_) h2
        · cases hz; simp [gio]
        · cases hk; exact ⟨_,rfl,fun j=>by simp [gio]⟩
      | succ j =>
        simp only [takeAll,List.getElem?_cons_succ] at hv hy
        have:=g3 j v y hv hy
        rwa [show i + (j + 1) = i + 1 + j by omega]
    · simp only [takeAll]; rw [g4,h3]
    · simp only [takeAll]; rw [g5,h4]
end Go.Vm
namespace Go.Vm
variable {P:Program} {n:Nat} {A:AbsR} {e:Env} {s:RS} {a:Act} {w:World} {o:Oper}
theorem fold_put:∀ (us:List Value) (k off:Nat) (cs:Array Value),(us.zipIdx k).foldl (fun (cs:Array Value) (x:Value × Nat)=>cs.setIfInBounds (off + x.2) x.1) cs = (putL cs.toList (off + k) us).toArray
  | [],k,off,cs=>by simp [putL]
  | u :: us,k,off,cs=>by
    simp only [List.zipIdx_cons,List.foldl_cons,putL]
    rw [fold_put us (k + 1) off]
    simp [Nat.add_assoc]
theorem fill_cons (place:Nat → Option (Nat × Nat)) (cells:Array Value) (i:Nat) (v:Value) (rest:List (Nat × Value)) (o m:Nat) (hp:place i = some (o,m)) (h1:v.cells.size = m) (h2:o + v.cells.size ≤ cells.size) :
    Instr.fill place cells ((i,v) :: rest) = Instr.fill place (putL cells.toList o v.cells.toList).toArray rest:=by
  have hc:(decide (v.cells.size ≠ m) || decide (o + v.cells.size > cells.size)) = false:=by simp [h1]; omega
  simp only [Instr.fill,hp]
  rw [if_neg (by simpa using hc)]
  congr 1
  rw [← Array.foldl_toList,Array.toList_zipIdx]
  exact fold_put v.cells.toList 0 o cells
def PartR (e:Env) (o:Nat) (v:AV) (u:Value):Prop :=
  (cellsOf v).length = u.cells.size ∧ ∀ m y z,(cellsOf v)[m]? = some y → u.cells.toList[m]? = some z → VR e (some (.io 0 (o + m + 1))) none y z
theorem fill_sim {offs place:Nat → Option (Nat × Nat)}:∀ (ps:List (Nat × AV)) (us:List (Nat × Value)) (cs:List AV) (arr:Array Value) (r:List AV),fillParts offs cs ps = some r → ps.length = us.length →
    (∀ (j i i':Nat) v u o m,ps[j]? = some (i,v) → us[j]? = some (i',u) → offs i = some (o,m) → i' = i ∧ place i = some (o,m) ∧ PartR e o v u) →
    VRs e (some fun j=>.io 0 (j + 1)) 0 cs arr.toList → ∃ arr',Instr.fill place arr us = some arr' ∧ VRs e (some fun j=>.io 0 (j + 1)) 0 r arr'.toList
  | [],us,cs,arr,r,h,hl,hp,hv=>by
    cases us with
    | cons _ _=>simp at hl
    | nil=>simp only [fillParts,Option.some.injEq] at h; subst h; exact ⟨arr,rfl,hv⟩
  | (i,v) :: ps,us,cs,arr,r,h,hl,hp,hv=>by
    cases us with
    | nil=>simp at hl
    | cons x us =>
      obtain ⟨i',u⟩:=x
      simp only [fillParts] at h
      cases ho:offs i with
      | none=>rw [ho] at h; cases h
      | some om =>
        obtain ⟨o,m⟩:=om
        rw [ho] at h
        simp only at h
        obtain ⟨hc,h⟩:=cond_none h
        simp only [Bool.and_eq_true,beq_iff,ble_iff,lenN_eq] at hc
        obtain ⟨rfl,hpl,hlen,hcell⟩:=hp 0 i i' v u o m (by simp) (by simp) ho
        rw [fill_cons place arr i' u us o m hpl (by rw [← hlen]; exact hc.1) (by have:=hv.len; simp at this; rw [← hlen]; omega)]
        refine fill_sim ps us _ _ r h (by simpa using hl) (fun j k k' v' u' o' m' h1 h2 h3=>hp (j + 1) k k' v' u' o' m' (by simpa using h1) (by simpa using h2) h3) ?_
        have hcl:=hv.len
        refine VRs.of (by rw [putCells_length]; simp [putL_length,hcl]) fun q av z hq hz=>?_
        simp only at hz
        rw [putL_get _ _ _ _ (by have:=hcl; simp at this ⊢; rw [← hlen]; omega)] at hz
        rw [putCells_get _ _ _ _ (by omega)] at hq
        have hul:u.cells.toList.length = (cellsOf v).length:=by rw [hlen]; simp
        by_cases hin:o ≤ q ∧ q < o + (cellsOf v).length
        · rw [if_pos hin] at hq
          rw [if_pos (by rw [hul]; exact hin)] at hz
          have:=hcell (q - o) av z hq hz
          rw [show o + (q - o) + 1 = q + 1 by omega] at this
          simpa using this
        · rw [if_neg hin] at hq
          rw [if_neg (by rw [hul]; exact hin)] at hz
          obtain ⟨z',k1,k2⟩:=hv.get q av hq
          rw [hz] at k1; cases k1; exact k2
theorem solids_get:∀ (vs:List AV) (j:Nat) (v:AV),solids vs = true → vs[j]? = some v → solid v = true
  | [],j,v,_,h=>by simp at h
  | x :: vs,0,v,hs,h=>by simp only [solids,Bool.and_eq_true] at hs; simp at h; subst h; exact hs.1
  | x :: vs,j + 1,v,hs,h=>by simp only [solids,Bool.and_eq_true] at hs; exact solids_get vs j v hs.2 (by simpa using h)
theorem solid_part {e:Env} {f:Pl → Pl} {k o:Nat} {v:AV} {u:Value} (hs:solid v = true) (h:VR e (some (.io k 0)) (some fun j=>.io k (j + 1)) v u) (h0:f (.io k 0) = .io 0 (o + 1)) (h1:∀ j,f (.io k (j + 1)) = .io 0 (o + j + 1)):PartR (e.ren f) o v u:=by
  obtain ⟨k1,k2,k3⟩:=solid_cells hs h
  refine ⟨k1,fun m y z hy hz=>?_⟩
  obtain ⟨j,g1,g2⟩:=k3 m y z hy hz
  refine VR.ren (fun x hx=>?_) (by simp) g1
  simp only [Option.some.injEq] at hx ⊢
  subst hx
  rcases g2 with ⟨_,rfl⟩ | ⟨_,rfl,rfl⟩
  · exact (h1 m).symm
  · simpa using h0.symm
theorem places_eq:∀ (fs:List Field),okFields P fs = true → fs.mapM (fun f=>(P.info? f.type).map fun i=>(f.offset,i.size)) = some (fs.map fun f=>(f.offset,sizeB P f.type))
  | [],_=>by simp
  | f :: fs,h=>by
    simp only [okFields,Bool.and_eq_true] at h
    obtain ⟨d,hd⟩:=okT_iff h.1
    obtain ⟨i,hi⟩:=info_of_underlying hd
    have:=places_eq fs h.2
    simp [List.mapM_cons,hi,this,sizeB]
theorem zipParts_get:∀ (is:List Nat) (vs:List AV) (j i:Nat) (v:AV),(zipParts is vs)[j]? = some (i,v) → is[j]? = some i ∧ vs[j]? = some v
  | [],vs,j,i,v,h=>by simp [zipParts] at h
  | _ :: _,[],j,i,v,h=>by simp [zipParts] at h
  | x :: is,y :: vs,0,i,v,h=>by simp [zipParts] at h; obtain ⟨rfl,rfl⟩:=h; simp
  | x :: is,y :: vs,j + 1,i,v,h=>by
    simp only [zipParts,List.getElem?_cons_succ] at h ⊢
    exact zipParts_get is vs j i v h
theorem zipParts_length:∀ (is:List Nat) (vs:List AV),is.length = vs.length → (zipParts is vs).length = is.length
  | [],vs,h=>by simp [zipParts]
  | x :: is,[],h=>by simp at h
  | x :: is,y :: vs,h=>by simp only [zipParts,List.length_cons]; rw [zipParts_length is vs (by simpa using h)]
def buF (O:Nat → Nat):Pl → Pl
  | .io i 0=>.io 0 (O i + 1)
  | .io i (j + 1)=>.io 0 (O i + j + 1)
  | p=>p
instance (O:Nat → Nat):ObF (buF O):=⟨fun p=>by unfold buF; split <;> rfl⟩
theorem RR.ren_io {f:Pl → Pl} [ObF f] (h:RR n A e s a w) (hf:Fix f) (hc:∀ l i o,f (.cell l i o) = .cell l i o) (hs:∀ t j,f (.slot t j) = .slot t j):RR n A (e.ren f) s a w :=
  ⟨h.wok.ren,h.hr.ren hf hc,⟨h.fr.size,fun t ht=>VR.ren (by simp [hs]) (by simp [hs]) (h.fr.val t ht)⟩,fun t src ht hs=>(h.als t src ht hs).ren _⟩
theorem build_sim (h:RR n A e s a w) {t:TypeId} {parts:Array (Nat × Operand)} (ho:o.op = .build t parts) (hx:∀ p ∈ parts.toList,okOp n p.2) {b:Bool} {s':RS} {v:AV} {l:Option Src} (hr:buildA P t parts.toList s = .yes b s' v l) (hb:b = true):Done P n A o e a w s' v l:=by
  subst hb
  unfold buildA at hr
  split at hr
  · rename_i fs hfs
    split at hr
    · rename_i vs s1 htk
      split at hr
      · rename_i zs hz
        split at hr
        · rename_i cs hfill
          cases hok:okFields P fs.toList with
          | false=>rw [hok] at hr; cases hr
          | true =>
            rw [hok] at hr
            simp only [cond_true,Plan.yes.injEq] at hr
            obtain ⟨hs,rfl,rfl,rfl⟩:=hr
            obtain ⟨i,z,g1,g2,g3⟩:=zeros_info hz
            obtain ⟨f,hf,hio,h1,h2,h3,h4,h5⟩:=takeAll_sim (P:=P) (mapN (·.2) parts.toList) e s 0 (partTy fs.toList parts.toList) h (fun x hx'=>by
              rw [mapN_eq] at hx'
              obtain ⟨p,hp,rfl⟩:=List.mem_map.1 hx'
              exact hx p hp)
            rw [htk] at h1 h2 h3 h4 h5
            simp only at h1 h2 h3 h4 h5
            let O:Nat → Nat:=fun j=>match parts.toList[j]? with
              | some p=>match fieldPlaceB P fs.toList p.1 with
                | some (o,_)=>o
                | none=>0
              | none=>0
            have hR:=RR.ren_io (f:=buF O) h1 ⟨fun _ _=>rfl,fun _=>rfl⟩ (fun _ _ _=>rfl) (fun _ _=>rfl)
            rw [Env.ren_ren] at hR
            have hz0:VRs (e.ren (buF O ∘ f)) (some fun j=>.io 0 (j + 1)) 0 zs z.cells.toList:=by
              have hv:=constCells_sim (e:=e.ren (buF O ∘ f)) _ _ _ 0 g3
              exact VRs.mono (fun _ _ _ h=>h) (ClLe.refl _) _ none _ 0 _ (by simp) hv
            have hlen:(mapN (·.1) parts.toList).length = vs.length:=by rw [h2]; simp [mapN_eq]
            have hrel:∀ (j q q':Nat) y u off m,(zipParts (mapN (·.1) parts.toList) vs)[j]? = some (q,y) → (parts.map fun p=>(p.1,a.eval p.2)).toList[j]? = some (q',u) → fieldPlaceB P fs.toList q = some (off,m) → q' = q ∧ (fs.toList.map fun f=>(f.offset,sizeB P f.type)).toArray[q]? = some (off,m) ∧ PartR (e.ren (buF O ∘ f)) off y u:=by
              intro j q q' y u off m hy hu hoff
              obtain ⟨e1,e2⟩:=zipParts_get _ _ _ _ _ hy
              rw [mapN_eq,List.getElem?_map] at e1
              simp only [Array.toList_map,List.getElem?_map] at hu
              cases hp:parts.toList[j]? with
              | none=>rw [hp] at hu; cases hu
              | some p =>
                rw [hp] at e1 hu
                simp only [Option.map_some,Option.some.injEq,Prod.mk.injEq] at e1 hu
                obtain ⟨rfl,rfl⟩:=hu
                subst e1
                have hO:O j = off:=by simp only [O,hp,hoff]
                refine ⟨rfl,?_,?_⟩
                · unfold fieldPlaceB at hoff
                  rw [nth_eq] at hoff
                  simp only [List.getElem?_toArray,List.getElem?_map]
                  cases hfd:fs.toList[p.1]? with
                  | none=>rw [hfd] at hoff; cases hoff
                  | some fd=>rw [hfd] at hoff; simpa using hoff
                · rw [← Env.ren_ren]
                  have hv:=h3 j y p.2 e2 (by rw [mapN_eq,List.getElem?_map,hp]; rfl)
                  rw [Nat.zero_add] at hv
                  exact solid_part (solids_get _ _ _ hs e2) hv (by simp [buF,hO]) (fun k=>by simp [buF,hO])
            obtain ⟨arr,k1,k2⟩:=fill_sim (place:=fun j=>(fs.toList.map fun f=>(f.offset,sizeB P f.type)).toArray[j]?) (zipParts (mapN (·.1) parts.toList) vs) (parts.map fun p=>(p.1,a.eval p.2)).toList zs z.cells cs hfill
              (by rw [zipParts_length _ _ hlen]; simp [mapN_eq]) hrel hz0
            refine ⟨e.ren (buF O ∘ f),w,.agg arr,.inl (exec_v (S:=Instr.build t (parts.map fun (i,x)=>(i,a.eval x))) (by unfold execOp; rw [ho]) ?_),hR,?_,by simp,Grow.ren (fun p=>by simp [Function.comp,hf.hid,buF]) _ _ _,fun _ _ _ h=>h⟩
            · refine run_build w t _ arr ?_
              simp only [Program.built,g1,hfs,g2,places_eq fs.toList hok]
              exact k1
            · simp only [VR]; exact ⟨arr,rfl,k2⟩
        · cases hr
      · cases hr
  · cases hr
theorem buildD_sim (h:RR n A e s a w) {t:TypeId} {parts:Array (Nat × Operand)} (ho:o.op = .build t parts) (hx:∀ p ∈ parts.toList,okOp n p.2) {b:Bool} {s':RS} {v:AV} {l:Option Src} (hr:buildD P t parts.toList s = .yes b s' v l) (hb:b = true):Done P n A o e a w s' v l:=by
  subst hb
  unfold buildD at hr
  split at hr
  · rename_i fs hfs
    split at hr
    · rename_i zs hz
      split at hr
      · rename_i cs hfill
        cases hok:okFields P fs.toList with
        | false=>rw [hok] at hr; cases hr
        | true =>
          rw [hok] at hr
          simp only [cond_true,Plan.yes.injEq] at hr
          obtain ⟨hs,rfl,rfl,rfl⟩:=hr
          have hvs:∃ vs,vs = mapN (fun p=>strip (ev P s (fieldTy fs.toList p.1) p.2)) parts.toList:=⟨_,rfl⟩
          obtain ⟨vs,hvs⟩:=hvs
          rw [← hvs] at hfill hs
          obtain ⟨i,z,g1,g2,g3⟩:=zeros_info hz
          let O:Nat → Nat:=fun j=>match parts.toList[j]? with
            | some p=>match fieldPlaceB P fs.toList p.1 with
              | some (o,_)=>o
              | none=>0
            | none=>0
          have hR:=RR.ren_io (f:=buF O) h ⟨fun _ _=>rfl,fun _=>rfl⟩ (fun _ _ _=>rfl) (fun _ _=>rfl)
          have hz0:VRs (e.ren (buF O)) (some fun j=>.io 0 (j + 1)) 0 zs z.cells.toList:=by
            have hv:=constCells_sim (e:=e.ren (buF O)) _ _ _ 0 g3
            exact VRs.mono (fun _ _ _ h=>h) (ClLe.refl _) _ none _ 0 _ (by simp) hv
          have hlen:(mapN (·.1) parts.toList).length = vs.length:=by rw [hvs]; simp [mapN_eq]
          have hrel:∀ (j q q':Nat) y u off m,(zipParts (mapN (·.1) parts.toList) vs)[j]? = some (q,y) → (parts.map fun p=>(p.1,a.eval p.2)).toList[j]? = some (q',u) → fieldPlaceB P fs.toList q = some (off,m) → q' = q ∧ (fs.toList.map fun f=>(f.offset,sizeB P f.type)).toArray[q]? = some (off,m) ∧ PartR (e.ren (buF O)) off y u:=by
            intro j q q' y u off m hy hu hoff
            obtain ⟨e1,e2⟩:=zipParts_get _ _ _ _ _ hy
            have hsol:=solids_get _ _ _ hs e2
            rw [mapN_eq,List.getElem?_map] at e1
            rw [hvs,mapN_eq,List.getElem?_map] at e2
            simp only [Array.toList_map,List.getElem?_map] at hu
            cases hp:parts.toList[j]? with
            | none=>rw [hp] at hu; cases hu
            | some p =>
              rw [hp] at e1 e2 hu
              simp only [Option.map_some,Option.some.injEq,Prod.mk.injEq] at e1 e2 hu
              obtain ⟨rfl,rfl⟩:=hu
              subst e1
              have hO:O j = off:=by simp only [O,hp,hoff]
              refine ⟨rfl,?_,?_⟩
              · unfold fieldPlaceB at hoff
                rw [nth_eq] at hoff
                simp only [List.getElem?_toArray,List.getElem?_map]
                cases hfd:fs.toList[p.1]? with
                | none=>rw [hfd] at hoff; cases hoff
                | some fd=>rw [hfd] at hoff; simpa using hoff
              · obtain ⟨p0,q0,hv⟩:=ev_sim (P:=P) h (fieldTy fs.toList p.1) (hx p (List.mem_of_getElem? hp))
                have hv2:VR e (some (.io j 0)) (some fun k=>.io j (k + 1)) y (a.eval p.2):=by
                  rw [← e2]
                  exact VR.strip _ _ _ _ _ _ hv
                exact solid_part hsol hv2 (by simp [buF,hO]) (fun k=>by simp [buF,hO])
          obtain ⟨arr,k1,k2⟩:=fill_sim (place:=fun j=>(fs.toList.map fun f=>(f.offset,sizeB P f.type)).toArray[j]?) (zipParts (mapN (·.1) parts.toList) vs) (parts.map fun p=>(p.1,a.eval p.2)).toList zs z.cells cs hfill
            (by rw [zipParts_length _ _ hlen]; simp [mapN_eq]) hrel hz0
          refine ⟨e.ren (buF O),w,.agg arr,.inl (exec_v (S:=Instr.build t (parts.map fun (i,x)=>(i,a.eval x))) (by unfold execOp; rw [ho]) ?_),hR,?_,by simp,Grow.ren (fun p=>by simp [buF]) _ _ _,fun _ _ _ h=>h⟩
          · refine run_build w t _ arr ?_
            simp only [Program.built,g1,hfs,g2,places_eq fs.toList hok]
            exact k1
          · simp only [VR]; exact ⟨arr,rfl,k2⟩
      · cases hr
    · cases hr
  · cases hr
end Go.Vm
namespace Go.Vm
variable {P:Program} {n:Nat} {A:AbsR} {e:Env} {s:RS} {a:Act} {w:World} {o:Oper}
theorem unflatP_sim {e:Env} {q:Option (Nat → Pl)}:∀ (T:Ty) (cs:List AV) (x:T.interp) (r:List AV) (j:Nat) (us:List Value),unflatP T cs = some (x,r) → VRs e q j cs us → ∃ u1 u2,us = u1 ++ u2 ∧ DR e.cl T x u1 ∧ VRs e q (j + T.size) r u2
  | .bool,cs,x,r,j,us,h,hv=>by
    cases cs with
    | nil=>simp [unflatP] at h
    | cons c cs =>
      cases c <;> simp [unflatP] at h
      obtain ⟨rfl,rfl⟩:=h
      obtain ⟨v,s,rfl,h1,h2⟩:=VRs.cons.1 hv
      simp only [VR] at h1
      exact ⟨[v],s,rfl,by rw [h1]; rfl,h2⟩
  | .int k,cs,x,r,j,us,h,hv=>by
    cases cs with
    | nil=>simp [unflatP] at h
    | cons c cs =>
      cases c <;> simp only [unflatP,reduceCtorEq] at h
      split at h
      · rename_i hk _
        simp only [Option.some.injEq,Prod.mk.injEq] at h
        obtain ⟨rfl,rfl⟩:=h
        obtain rfl:=hk.down
        obtain ⟨v,s,rfl,h1,h2⟩:=VRs.cons.1 hv
        simp only [VR] at h1
        exact ⟨[v],s,rfl,⟨by rw [h1.1],h1.2⟩,h2⟩
      · cases h
  | .str,cs,x,r,j,us,h,hv=>by
    cases cs with
    | nil=>simp [unflatP] at h
    | cons c cs =>
      cases c <;> simp [unflatP] at h
      obtain ⟨rfl,rfl⟩:=h
      obtain ⟨v,s,rfl,h1,h2⟩:=VRs.cons.1 hv
      simp only [VR] at h1
      obtain ⟨z,g1,g2⟩:=h1
      exact ⟨[v],s,rfl,⟨z,by rw [g1],g2⟩,h2⟩
  | .slice T,cs,x,r,j,us,h,hv=>by
    cases cs with
    | nil=>simp [unflatP] at h
    | cons c cs =>
      cases c <;> simp only [unflatP,reduceCtorEq] at h
      split at h
      · rename_i hk _
        simp only [Option.some.injEq,Prod.mk.injEq] at h
        obtain ⟨h1,rfl⟩:=h
        subst hk
        simp only at h1
        subst h1
        obtain ⟨v,s,rfl,h1,h2⟩:=VRs.cons.1 hv
        simp only [VR] at h1
        exact ⟨[v],s,rfl,⟨v,rfl,h1.1⟩,h2⟩
      · cases h
  | .pair a b,cs,x,r,j,us,h,hv=>by
    simp only [unflatP] at h
    split at h
    · rename_i x1 r1 h1
      split at h
      · rename_i y q2 h2
        simp only [Option.some.injEq,Prod.mk.injEq] at h
        obtain ⟨rfl,rfl⟩:=h
        obtain ⟨u1,u2,rfl,g1,g2⟩:=unflatP_sim a cs x1 r1 j us h1 hv
        obtain ⟨u3,u4,rfl,g3,g4⟩:=unflatP_sim b r1 y q2 _ u2 h2 g2
        refine ⟨u1 ++ u3,u4,by simp,⟨u1,u3,rfl,g1,g3⟩,?_⟩
        simp only [Ty.size]; rwa [← Nat.add_assoc]
      · cases h
    · cases h
theorem unflat_sim {e:Env} {q:Option (Nat → Pl)} {T:Ty} {cs:List AV} {x:T.interp} {j:Nat} {us:List Value} (h:unflat T cs = some x) (hv:VRs e q j cs us):DR e.cl T x us:=by
  unfold unflat at h
  split at h
  · rename_i y hy
    simp only [Option.some.injEq] at h
    subst h
    obtain ⟨u1,u2,rfl,g1,g2⟩:=unflatP_sim T cs y [] j us hy hv
    rw [VRs.nil] at g2
    subst g2
    simpa using g1
  · cases h
theorem VRs.drop {e:Env} {q:Option (Nat → Pl)} {as:List AV} {j:Nat} {vs:List Value} (h:VRs e q j as vs) (k:Nat):VRs e q (j + k) (as.drop k) (vs.drop k):=by
  refine VRs.of (by simp [h.len]) fun i x v hx hv=>?_
  rw [List.getElem?_drop] at hx hv
  obtain ⟨v',e1,e2⟩:=h.get _ x hx
  rw [hv] at e1; cases e1
  rwa [show j + k + i = j + (k + i) by omega]
theorem unflats_sim {e:Env} {q:Option (Nat → Pl)} {T:Ty} (k:Nat):∀ (m:Nat) (cs:List AV) (xs:List T.interp) (j:Nat) (us:List Value),unflats T (groups k m cs) = some xs → VRs e q j cs us → xs.length = m ∧ ∀ i x,xs[i]? = some x → DR e.cl T x ((us.drop (i * k)).take k)
  | 0,cs,xs,j,us,h,hv=>by simp [groups,unflats] at h; subst h; simp
  | m + 1,cs,xs,j,us,h,hv=>by
    simp only [groups,unflats] at h
    split at h
    · rename_i x xs' h1 h2
      simp only [Option.some.injEq] at h
      subst h
      have hv':VRs e q (j + k) (drp k cs) (us.drop k):=by rw [drp_eq]; exact hv.drop k
      obtain ⟨g1,g2⟩:=unflats_sim k m _ _ _ _ h2 hv'
      refine ⟨by simp [g1],fun i y hy=>?_⟩
      cases i with
      | zero =>
        simp at hy; subst hy
        have:=hv.cut 0 k
        rw [cut_eq] at h1
        have h3:=unflat_sim h1 this
        simpa using h3
      | succ i =>
        have:=g2 i y (by simpa using hy)
        rw [List.drop_drop] at this
        rwa [show (i + 1) * k = k + i * k by rw [Nat.add_mul]; omega]
    · cases h
theorem rep_get {α:Type}:∀ (m:Nat) (l:List α) (i:Nat),i < m * l.length → ((List.replicate m l).flatten)[i]? = l[i % l.length]?
  | 0,l,i,h=>by simp at h
  | m + 1,l,i,h=>by
    rw [List.replicate_succ,List.flatten_cons]
    rcases Nat.lt_or_ge i l.length with hi | hi
    · rw [List.getElem?_append_left hi,Nat.mod_eq_of_lt hi]
    · rw [List.getElem?_append_right hi,rep_get m l _ (by rw [Nat.add_mul] at h; omega)]
      congr 1
      exact (Nat.mod_eq_sub_mod hi).symm
theorem rep_length {α:Type} (m:Nat) (l:List α):((List.replicate m l).flatten).length = m * l.length:=by simp
theorem newRow_doneG {α:Type} {R:Env → α → List Value → Prop} {k:Nat} {o:Oper} {el:TypeId} {arr:Array Value} {xs:List α} {V:AV} {len cap m:Nat} {lv:Lv} {p:Option Pl} (hmono:∀ {e e':Env} {x:α} {es:List Value},RhoLe e e' → ClLe e.cl e'.cl → R e x es → R e' x es) (hR:∀ {e:Env} {x:α} {es:List Value},R e x es → es.length = k)
    (hV:∀ {e':Env} {v:Value},SRof (R e') k e'.cl xs v → LvR e' (some (.io 0 0)) k v lv → VR e' (some (.io 0 0)) (some fun j=>.io 0 (j + 1)) V v) (h:RR n A e s a w) (w':World) (hw1:w'.os = w.os) (hw2:w'.tape = w.tape) (hw3:w'.output = w.output) (hw4:w.heap.size ≤ w'.heap.size)
    (hold:∀ b,b < w.heap.size → w'.heap[b]? = w.heap[b]?) (hnew:w'.heap[w.heap.size]? = some (.cells arr el (0,0)))
    (hrun:(execOp a.eval o).run P w = .ok (.value (.slice (some ⟨w.heap.size,0,none⟩) len cap)) w')
    (hlen:xs.length = len) (hcap:len ≤ cap) (hmax:cap ≤ maxInt) (hm:m = len * k) (hsz:arr.size = cap * k)
    (hel:∀ i x,xs[i]? = some x → ∃ es,R e x es ∧ ∀ j u,es[j]? = some u → arr[i * k + j]? = some u)
    (hlv:(lv = .view ∨ lv = .full) ∨ p = some (.io 0 0)) (hfull:lv = .full → cap = len) (hnn:lv ≠ .nilv:=by first | (intro h; cases h; done) | (cases dr <;> intro h <;> cases h)) (hpo:∀ q,p = some q → q.isOb = false:=by first | (intro q h; cases h; done) | (intro q h; cases h; rfl) | (cases dr <;> intro q h <;> first | (cases h; done) | (cases h; rfl))) :
    Done P n A o e a w s V none:=by
  have hext:=Ext.newRow (e:=e) (w:=w) (w':=w') (g:=w.heap.size) (c:=arr) (m:=m) (p:=p) rfl hw1 hw2 hw3 hw4 hold
  have hwok:=WOK.newRow (c:=arr) (m:=m) (p:=p) h.wok rfl hold hnew (.inl rfl) (fun q hq hb=>by rw [hpo q hq] at hb; cases hb)
  refine ⟨_,w',_,.inl hrun,h.ext hext hwok,?_,by simp,hext.grow h.wok h.hr _,hext.rhoLe⟩
  refine hV ⟨_,_,_,rfl,hlen,hcap,hmax,by simp,fun i x hx=>?_⟩ ?_
  · obtain ⟨es,g1,g2⟩:=hel i x hx
    have hi:i < len:=by
      rcases Nat.lt_or_ge i xs.length with h' | h'
      · omega
      · rw [List.getElem?_eq_none h'] at hx; cases hx
    refine ⟨w.heap.size,0,es,rfl,hmono hext.rhoLe (hext.clLe h.wok) g1,fun j u hu=>?_⟩
    have hj:j < k:=by
      have:=hR g1
      rcases Nat.lt_or_ge j es.length with h' | h'
      · omega
      · rw [List.getElem?_eq_none h'] at hu; cases hu
    simp only [Env.newRow,if_true]
    have hlt:0 + (i * k + j) < m:=by
      rw [hm]
      have:=Nat.mul_le_mul_right k (show i + 1 ≤ len by omega)
      rw [Nat.add_mul] at this
      omega
    rw [if_pos hlt,Nat.zero_add]
    exact g2 j u hu
  · have hmine:p = some (.io 0 0) → ∃ b len' cap' n' pl,Value.slice (some ⟨w.heap.size,0,none⟩) len cap = .slice (some ⟨b,0,none⟩) len' cap' ∧ some (Pl.io 0 0) = some pl ∧ (e.newRow w.heap.size arr m p).own b = some (pl,n') ∧ cap' * k ≤ n' ∧ ∀ o,len' * k ≤ o → (e.newRow w.heap.size arr m p).cl b o = none:=by
      intro hp
      refine ⟨w.heap.size,len,cap,arr.size,.io 0 0,rfl,rfl,by simp [Env.newRow,hp],by omega,fun o ho=>?_⟩
      simp only [Env.newRow,if_true]
      rw [if_neg (by omega)]
    cases lv with
    | view=>trivial
    | full=>exact ⟨some ⟨w.heap.size,0,none⟩,len,by rw [hfull rfl]⟩
    | nn=>exact ⟨_,len,cap,rfl⟩
    | nilv=>exact absurd rfl hnn
    | own =>
      obtain ⟨b,l2,c2,n2,pl,m1,m2,m3,m4,m5⟩:=hmine (by rcases hlv with (h | h) | h; cases h; cases h; exact h)
      exact .inr ⟨b,0,l2,c2,n2,pl,m1,m2,m3,by omega,fun o ho=>m5 o (by omega)⟩
    | mine=>exact hmine (by rcases hlv with (h | h) | h; cases h; cases h; exact h)
theorem newRow_done {o:Oper} {el:TypeId} {arr:Array Value} {T:Ty} {xs:List T.interp} {len cap m:Nat} {lv:Lv} {p:Option Pl} (h:RR n A e s a w) (w':World) (hw1:w'.os = w.os) (hw2:w'.tape = w.tape) (hw3:w'.output = w.output) (hw4:w.heap.size ≤ w'.heap.size)
    (hold:∀ b,b < w.heap.size → w'.heap[b]? = w.heap[b]?) (hnew:w'.heap[w.heap.size]? = some (.cells arr el (0,0)))
    (hrun:(execOp a.eval o).run P w = .ok (.value (.slice (some ⟨w.heap.size,0,none⟩) len cap)) w')
    (hlen:xs.length = len) (hcap:len ≤ cap) (hmax:cap ≤ maxInt) (hm:m = len * T.size) (hsz:arr.size = cap * T.size)
    (hel:∀ i x,xs[i]? = some x → ∃ es,DR e.cl T x es ∧ ∀ j u,es[j]? = some u → arr[i * T.size + j]? = some u)
    (hlv:(lv = .view ∨ lv = .full) ∨ p = some (.io 0 0)) (hfull:lv = .full → cap = len) (hnn:lv ≠ .nilv:=by first | (intro h; cases h; done) | (cases dr <;> intro h <;> cases h)) (hpo:∀ q,p = some q → q.isOb = false:=by first | (intro q h; cases h; done) | (intro q h; cases h; rfl) | (cases dr <;> intro q h <;> first | (cases h; done) | (cases h; rfl))) :
    Done P n A o e a w s (.slice T xs lv) none :=
  newRow_doneG (R:=fun e=>DR e.cl T) (fun _ hc h=>DR.mono hc _ _ _ h) (fun h=>DR.len _ _ _ h) (fun h1 h2=>by simp only [VR]; exact ⟨h1,h2⟩) h w' hw1 hw2 hw3 hw4 hold hnew hrun hlen hcap hmax hm hsz hel hlv hfull hnn hpo
set_option maxHeartbeats 1000000 in
theorem buildSlice_sim {dr:Bool} (h:RR n A e s a w) {t:TypeId} {len:Nat} {parts:Array (Nat × Operand)} (ho:o.op = .buildSlice t len parts) (hx:∀ p ∈ parts.toList,okOp n p.2) {b:Bool} {s':RS} {v:AV} {l:Option Src} (hr:buildSliceA P dr t len parts.toList s = .yes b s' v l) (hb:b = true):Done P n A o e a w s' v l:=by
  subst hb
  unfold buildSliceA at hr
  split at hr
  · rename_i el ht
    split at hr
    · rename_i T zs hT hz
      cases hc:(Nat.beq (lenN zs) T.size && (Nat.beq T.size (sizeB P el) && okT P el) && Nat.ble (len * T.size) 4096) with
      | false=>rw [hc] at hr; cases hr
      | true =>
        rw [hc] at hr
        simp only [Bool.and_eq_true,beq_iff,ble_iff,lenN_eq] at hc
        obtain ⟨⟨c1,c2,c3⟩,c4⟩:=hc
        simp only [cond_true] at hr
        split at hr
        · rename_i cs hfill
          split at hr
          · rename_i xs hxs
            simp only [Plan.yes.injEq] at hr
            obtain ⟨hs,rfl,rfl,rfl⟩:=hr
            obtain ⟨i,z,g1,g2,g3⟩:=zeros_info hz
            obtain ⟨d,hd⟩:=okT_iff c3
            have hzl:zs.length = z.cells.size:=by have:=constCells_length g3; simpa using this
            have hzero:VRs e (some fun j=>.io 0 (j + 1)) 0 (repApp len zs) ((Array.range (len * T.size)).map (((if len * T.size = 0 then #[] else z.cells):Array Value)[· % ((if len * T.size = 0 then #[] else z.cells):Array Value).size]!)).toList:=by
              rw [repApp_eq]
              refine VRs.of (by simp [c1]) fun i x v hx hv=>?_
              have hi:i < len * T.size:=by
                rcases Nat.lt_or_ge i (len * T.size) with h' | h'
                · exact h'
                · rw [List.getElem?_eq_none (by simp [c1]; exact h')] at hx; cases hx
              have hne:¬ (len * T.size = 0):=by omega
              rw [rep_get _ _ _ (by rw [c1]; exact hi)] at hx
              simp only [if_neg hne,Array.toList_map,List.getElem?_map,Array.toList_range,List.getElem?_range hi,Option.map_some,Option.some.injEq] at hv
              have hk:i % zs.length < z.cells.size:=by
                rw [← hzl]; refine Nat.mod_lt _ ?_
                rcases Nat.eq_zero_or_pos zs.length with h0 | h0
                · rw [c1] at h0; rw [h0] at hi; simp at hi
                · exact h0
              obtain ⟨u,k1,k2⟩:=(constCells_sim (e:=e) _ _ _ 0 g3).get _ x hx
              have:v = u:=by
                rw [← hv]
                have:z.cells[i % zs.length]? = some u:=by simpa using k1
                rw [hzl] at this hk
                rw [getElem!_pos z.cells _ hk]
                rw [Array.getElem?_eq_getElem hk] at this
                exact Option.some.inj this
              subst this
              exact (show VR e none none x v by simpa using k2).weak
            have hrel:∀ (j q q':Nat) y u off m,(zipParts (mapN (·.1) parts.toList) (mapN (fun p=>strip (ev P s el p.2)) parts.toList))[j]? = some (q,y) → (parts.map fun p=>(p.1,a.eval p.2)).toList[j]? = some (q',u) → some (q * T.size,T.size) = some (off,m) → q' = q ∧ some (q * T.size,T.size) = some (off,m) ∧ PartR e off y u:=by
              intro j q q' y u off m hy hu hoff
              obtain ⟨e1,e2⟩:=zipParts_get _ _ _ _ _ hy
              have hsol:=solids_get _ _ _ hs e2
              rw [mapN_eq,List.getElem?_map] at e1 e2
              simp only [Array.toList_map,List.getElem?_map] at hu
              cases hp:parts.toList[j]? with
              | none=>rw [hp] at hu; cases hu
              | some p =>
                rw [hp] at e1 e2 hu
                simp only [Option.map_some,Option.some.injEq,Prod.mk.injEq] at e1 e2 hu
                obtain ⟨rfl,rfl⟩:=hu
                subst e1
                refine ⟨rfl,hoff,?_⟩
                have hv:=ev_strip (P:=P) h el (hx p (List.mem_of_getElem? hp))
                rw [e2] at hv
                have hv':VR e (some (.io 0 0)) (some fun j=>.io 0 (j + 1)) y (a.eval p.2):=hv.weak
                obtain ⟨k1,k2,k3⟩:=solid_cells hsol hv'
                have hv0:∀ (m:Nat) (y':AV) (z:Value),(cellsOf y)[m]? = some y' → (a.eval p.2).cells.toList[m]? = some z → VR e none none y' z:=by
                  intro m y' z hy' hz'
                  by_cases hag:∃ cs,y = .agg cs
                  · obtain ⟨cs,rfl⟩:=hag
                    simp only [VR] at hv
                    obtain ⟨arr,e3,e4⟩:=hv
                    rw [e3] at hz'
                    obtain ⟨u',e5,e6⟩:=e4.get m y' hy'
                    have hz'':arr.toList[m]? = some z:=by simpa only [Value.cells] using hz'
                    rw [hz''] at e5; cases e5
                    simpa using e6
                  · have hl:leafy y = true:=by cases y <;> first | exact hsol | exact absurd ⟨_,rfl⟩ hag
                    have hcy:cellsOf y = [y]:=by cases y <;> first | rfl | exact absurd ⟨_,rfl⟩ hag
                    obtain ⟨_,q2⟩:=leafy_one hl hv
                    rw [hcy] at hy'
                    rw [q2] at hz'
                    cases m with
                    | zero=>simp at hy' hz'; subst hy'; subst hz'; exact hv
                    | succ m=>simp at hy'
                exact ⟨k1,fun m y' z hy' hz'=>(hv0 m y' z hy' hz').weak⟩
            obtain ⟨arr,k1,k2⟩:=fill_sim (offs:=fun i=>some (i * T.size,T.size)) (place:=fun i=>some (i * T.size,T.size)) (zipParts (mapN (·.1) parts.toList) (mapN (fun p=>strip (ev P s el p.2)) parts.toList)) (parts.map fun p=>(p.1,a.eval p.2)).toList (repApp len zs) _ cs hfill
              (by rw [zipParts_length _ _ (by simp [mapN_eq])]; simp [mapN_eq]) hrel hzero
            obtain ⟨m1,m2⟩:=unflats_sim T.size len cs xs 0 arr.toList hxs k2
            have hcsl:cs.length = len * T.size:=by
              have:∀ (ps:List (Nat × AV)) (c r:List AV),fillParts (fun i=>some (i * T.size,T.size)) c ps = some r → r.length = c.length:=by
                intro ps
                induction ps with
                | nil=>intro c r hcr; simp only [fillParts,Option.some.injEq] at hcr; rw [hcr]
                | cons p ps ih =>
                  intro c r hcr
                  obtain ⟨i,y⟩:=p
                  simp only [fillParts] at hcr
                  obtain ⟨_,hcr⟩:=cond_none hcr
                  rw [ih _ _ hcr,putCells_length]
              rw [this _ _ _ hfill,repApp_eq,rep_length,c1]
            have harr:arr.size = len * T.size:=by have:=k2.len; rw [hcsl] at this; simpa using this.symm
            have hsize:=sizeOf_run (P:=P) w hd
            rw [← c2] at hsize
            have hbig:¬ (len * T.size > 2 ^ 24):=by omega
            have hrun:(Instr.buildSlice t len (parts.map fun (i,x)=>(i,a.eval x))).run P w = .ok (.slice (some ⟨w.heap.size,0,none⟩) len len) (w.alloc (.cells arr el)):=by
              unfold Instr.buildSlice
              have hp:(parts.map fun (i,x)=>(i,a.eval x)).toList = (parts.map fun p=>(p.1,a.eval p.2)).toList:=rfl
              by_cases h0:len * T.size = 0
              · simp only [if_pos h0] at k1
                simp only [Sem.run_bind,run_underlying ht,Result.andThen_ok,hsize,if_neg hbig,if_pos h0,Sem.run_pure]
                rw [hp,k1]
                simp [newRow]
              · simp only [if_neg h0] at k1
                simp only [Sem.run_bind,run_underlying ht,Result.andThen_ok,hsize,if_neg hbig,if_neg h0,Sem.run_pure,zero_run w g1 g2]
                rw [hp,k1]
                simp [newRow]
            refine newRow_done (arr:=arr) (el:=el) (p:=bif dr then none else some (.io 0 0)) (m:=len * T.size) h (w.alloc (.cells arr el)) rfl rfl rfl (by simp [World.alloc,-World.alloc_eq]) (fun b hb=>alloc_old w _ b hb) (alloc_new w _) (exec_v (S:=Instr.buildSlice t len (parts.map fun (i,x)=>(i,a.eval x))) (by unfold execOp; rw [ho]) hrun) m1 (Nat.le_refl _) ?_ rfl harr (fun i x hi=>⟨_,m2 i x hi,fun j u hu=>?_⟩) (by cases dr <;> simp) (fun _=>rfl)
            · have h0:len ≤ 4096 ∨ T.size = 0:=by
                rcases Nat.eq_zero_or_pos T.size with h0 | h0
                · exact .inr h0
                · left
                  have:=Nat.le_mul_of_pos_right len h0
                  omega
              rcases h0 with h0 | h0
              · simp only [maxInt]; omega
              · exact absurd h0 (Nat.pos_iff_ne_zero.1 (Ty.size_pos T))
            · rw [List.getElem?_take] at hu
              split at hu
              · rw [List.getElem?_drop] at hu; simpa using hu
              · cases hu
          · cases hr
        · cases hr
    · cases hr
  · cases hr
where
  Ty.size_pos:∀ T:Ty,0 < T.size
    | .bool=>by simp [Ty.size]
    | .int _=>by simp [Ty.size]
    | .str=>by simp [Ty.size]
    | .slice _=>by simp [Ty.size]
    | .pair a b=>by simp only [Ty.size]; have:=Ty.size_pos a; omega
theorem makeSlice_sim (h:RR n A e s a w) {t:TypeId} {x y:Operand} (ho:o.op = .makeSlice t x y) (hx:okOp n x) (hy:okOp n y) {b:Bool} {s':RS} {v:AV} {l:Option Src} (hr:makeSliceA P t x y s = .yes b s' v l) (hb:b = true):Done P n A o e a w s' v l:=by
  subst hb
  unfold makeSliceA at hr
  split at hr
  · rename_i el k1 m1 k2 m2 ht ex ey
    split at hr
    · rename_i T zs hT hz
      split at hr
      · rename_i x0 hx0 hc
        simp only [Bool.and_eq_true,beq_iff,ble_iff] at hc
        simp only [Plan.yes.injEq,Bool.and_eq_true,decide_eq_true_eq] at hr
        obtain ⟨⟨⟨r1,r2⟩,r3⟩,rfl,rfl,rfl⟩:=hr
        subst r1
        obtain ⟨p,q,hvx⟩:=ev_sim (P:=P) h 3 hx
        obtain ⟨p',q',hvy⟩:=ev_sim (P:=P) h 3 hy
        rw [ex] at hvx
        rw [ey] at hvy
        simp only [VR] at hvx hvy
        obtain ⟨i,z,g1,g2,g3⟩:=zeros_info hz
        have hv:=constCells_sim (e:=e) _ _ _ 0 g3
        have hDR:=unflat_sim hx0 hv
        have hk:z.cells.toList.length = T.size:=DR.len _ _ _ hDR
        have hisz:i.size = T.size:=by rw [hc.1.1,sizeB,g1]
        have hby:bytesB P el = i.bytes:=by simp [bytesB,g1]
        have hroom:m1.toNat * i.bytes ≤ 140737488355328:=by rw [← hby]; exact r3
        have hpos:1 ≤ i.bytes:=by rw [← hby]; exact hc.2
        have hm1:m1.toNat ≤ 140737488355328:=Nat.le_trans (Nat.le_mul_of_pos_right _ hpos) hroom
        have hmm:((m1.toNat:Nat):Int) = m1:=Int.toNat_of_nonneg r2
        have hrun:=run_make (P:=P) w t el i z ht g1 g2 k1 k2 m1 m1 r2 (Int.le_refl _) (by rw [← hmm,← Int.natCast_mul,Nat.mul_comm]; omega) (by omega)
        refine newRow_done (arr:=madeCells z.cells (m1.toNat * i.size)) (el:=el) (p:=some (.io 0 0)) (m:=m1.toNat * T.size) h (w.alloc (.cells (madeCells z.cells (m1.toNat * i.size)) el)) rfl rfl rfl (by simp [World.alloc,-World.alloc_eq]) (fun b hb=>alloc_old w _ b hb) (alloc_new w _) (exec_v (S:=Instr.makeSlice t (a.eval x) (a.eval y)) (by unfold execOp; rw [ho]) (by rw [hvx.1,hvy.1]; exact hrun)) (by simp) (Nat.le_refl _) (by simp only [maxInt]; omega) rfl (by rw [size_madeCells,hisz]) (fun j x hj=>?_) (.inr rfl) (by simp)
        rw [List.getElem?_replicate] at hj
        split at hj
        · rename_i hjl
          cases hj
          refine ⟨_,hDR,fun r u hu=>?_⟩
          have hr':r < T.size:=by
            rcases Nat.lt_or_ge r T.size with h' | h'
            · exact h'
            · rw [List.getElem?_eq_none (by omega)] at hu; cases hu
          have hlt:j * T.size + r < m1.toNat * i.size:=by
            rw [hisz]
            have:=Nat.mul_le_mul_right T.size (show j + 1 ≤ m1.toNat by omega)
            rw [Nat.add_mul] at this
            omega
          have hzs:z.cells.size = T.size:=by simpa using hk
          simp only [madeCells,Array.getElem?_map,Array.getElem?_range,if_pos hlt,Option.map_some,hzs]
          rw [show (j * T.size + r) % T.size = r by rw [Nat.mul_comm,Nat.mul_add_mod,Nat.mod_eq_of_lt hr']]
          rw [getElem!_pos z.cells r (by omega)]
          have:z.cells[r]? = some u:=by simpa using hu
          rw [Array.getElem?_eq_getElem (by omega)] at this
          exact this
        · cases hj
      · cases hr
    · cases hr
  · cases hr
end Go.Vm
namespace Go.Vm
variable {P:Program} {n:Nat} {A:AbsR} {e:Env} {s:RS} {a:Act} {w:World} {o:Oper}
structure NewsG {α:Type} (P:Program) (R:α → List Value → Prop) (k:Nat) (w:World) (ys:List α) (y:Value) (news:List Value):Prop where
  len:news.length = ys.length * k
  lenOf:∀ d,(Builtin.lenOf y).run P d = .ok ys.length d
  cells:∀ d:World,d.heap = w.heap → (Builtin.firstCells k ys.length y).run P d = .ok news.toArray d
  one:∀ u ∈ news,u.oneCell' = true
  el:∀ i x,ys[i]? = some x → ∃ es,R x es ∧ ∀ j u,es[j]? = some u → news[i * k + j]? = some u
abbrev News (P:Program) (e:Env) (w:World) (T:Ty) (ys:List T.interp) (y:Value) (news:List Value):Prop:=NewsG P (DR e.cl T) T.size w ys y news
theorem cell_heap {d:World} (h:d.heap = w.heap) (x:Addr):d.cell? x = w.cell? x:=by simp only [World.cell?,h]
theorem SRof.news {α:Type} {R:α → List Value → Prop} {k:Nat} (hw:WOK e w) (hk:0 < k) (hR:∀ {x:α} {es:List Value},R x es → es.length = k ∧ ∀ u ∈ es,u.oneCell' = true) {ys:List α} {y:Value} (h:SRof R k e.cl ys y):∃ news,NewsG P R k w ys y news:=by
  obtain ⟨ad,len,cap,rfl,h2,h3,h4,h5,h6⟩:=h
  subst h2
  cases ys with
  | nil =>
    refine ⟨[],by simp,fun d=>by simp [Builtin.lenOf],fun d hd=>?_,by simp,by simp⟩
    cases ad with
    | none=>simp [Builtin.firstCells]
    | some x=>simp [Builtin.firstCells,loadCells,loadCellsFrom]
  | cons y0 ys =>
    obtain ⟨b,off,es0,rfl,_,_⟩:=h6 0 y0 (by simp)
    have hcl:∀ q,q < (y0 :: ys).length * k → ∃ u es x j,(y0 :: ys)[q / k]? = some x ∧ R x es ∧ j = q % k ∧ es[j]? = some u ∧ e.cl b (off + q) = some u:=by
      intro q hq
      have hq1:q / k < (y0 :: ys).length:=by rw [Nat.div_lt_iff_lt_mul hk]; exact hq
      obtain ⟨b',off',es,g1,g2,g3⟩:=h6 (q / k) (y0 :: ys)[q / k] (by rw [List.getElem?_eq_getElem hq1])
      cases g1
      have hm:=Nat.mod_lt q hk
      have hl:=(hR g2).1
      refine ⟨es[q % k],es,_,_,by rw [List.getElem?_eq_getElem hq1],g2,rfl,by simp [hl,hm],?_⟩
      have:=g3 (q % k) es[q % k] (by simp [hl,hm])
      rwa [Nat.mul_comm,Nat.div_add_mod] at this
    let news:=(List.range ((y0 :: ys).length * k)).map fun q=>(e.cl b (off + q)).getD undef
    have hget:∀ q u,news[q]? = some u → q < (y0 :: ys).length * k ∧ e.cl b (off + q) = some u:=by
      intro q u hu
      have hq:q < (y0 :: ys).length * k:=by
        rcases Nat.lt_or_ge q ((y0 :: ys).length * k) with h' | h'
        · exact h'
        · rw [List.getElem?_eq_none (by simpa [news] using h')] at hu; cases hu
      obtain ⟨u',_,_,_,_,_,_,_,g⟩:=hcl q hq
      simp only [news,List.getElem?_map,List.getElem?_range hq,Option.map_some,Option.some.injEq,g,Option.getD_some] at hu
      subst hu
      exact ⟨hq,g⟩
    refine ⟨news,by simp [news],fun d=>by simp [Builtin.lenOf],fun d hd=>?_,fun u hu=>?_,fun i x hx=>?_⟩
    · exact run_firstCells_some (P:=P) d k _ ⟨b,off,none⟩ _ cap news (by simp [news]) fun j v hj=>by
        rw [Addr.add_eq,cell_heap hd]
        exact hw.holds _ _ _ (hget j v hj).2
    · obtain ⟨q,hq,rfl⟩:=List.mem_iff_getElem.1 hu
      obtain ⟨hlt,hc⟩:=hget q news[q] (by simp [hq])
      obtain ⟨u',es,x,j,g1,g2,g3,g4,g5⟩:=hcl q hlt
      rw [hc] at g5; cases g5
      exact (hR g2).2 _ (List.mem_of_getElem? g4)
    · obtain ⟨b',off',es,g1,g2,g3⟩:=h6 i x hx
      cases g1
      refine ⟨es,g2,fun j u hu=>?_⟩
      have hi:i < (y0 :: ys).length:=by
        rcases Nat.lt_or_ge i (y0 :: ys).length with h' | h'
        · exact h'
        · rw [List.getElem?_eq_none h'] at hx; cases hx
      have hj:j < k:=by
        have:=(hR g2).1
        rcases Nat.lt_or_ge j es.length with h' | h'
        · omega
        · rw [List.getElem?_eq_none h'] at hu; cases hu
      have hlt:i * k + j < (y0 :: ys).length * k:=by
        have:=Nat.mul_le_mul_right k (show i + 1 ≤ (y0 :: ys).length by omega)
        rw [Nat.add_mul] at this
        omega
      simp only [news,List.getElem?_map,List.getElem?_range hlt,Option.map_some,g3 j u hu,Option.getD_some]
theorem SR.news (hw:WOK e w) {T:Ty} {ys:List T.interp} {y:Value} (h:SR e.cl T ys y):∃ news,News P e w T ys y news :=
  SRof.news hw (buildSlice_sim.Ty.size_pos T) (fun h=>⟨DR.len _ _ _ h,DR.one _ _ _ h⟩) h
theorem u8_has (b:UInt8):IntKind.u8.has (b.toNat:Int):=by
  have:=b.toNat_lt
  simp only [IntKind.has,IntKind.min,IntKind.max,IntKind.signed,IntKind.bits]
  exact ⟨Int.natCast_nonneg _,by simp; omega⟩
theorem str_news (z:ByteArray):∃ news,News P e w (.int .u8) (bytesOf z) (.string z) news:=by
  refine ⟨z.data.toList.map fun b=>.int .u8 (b.toNat:Int),?_,fun d=>?_,fun d hd=>?_,fun u hu=>?_,fun i x hx=>?_⟩
  · simp [bytesOf,Ty.size]
  · rw [bytesOf_length]; simp [Builtin.lenOf]
  · rw [bytesOf_length]
    have hx:(z.extract 0 z.size).data = z.data:=by
      rw [ByteArray.data_extract]; simp
    simp only [Builtin.firstCells,hx]
    simp
    apply Array.ext'
    simp
  · simp only [List.mem_map] at hu
    obtain ⟨b,_,rfl⟩:=hu
    rfl
  · simp only [bytesOf,List.getElem?_map] at hx
    cases hb:z.data.toList[i]? with
    | none=>rw [hb] at hx; cases hx
    | some b =>
      rw [hb] at hx
      simp only [Option.map_some,Option.some.injEq] at hx
      subst hx
      refine ⟨[.int .u8 (b.toNat:Int)],⟨rfl,u8_has b⟩,fun j u hu=>?_⟩
      cases j with
      | zero =>
        simp at hu; subst hu
        simp only [Ty.size,Nat.mul_one,Nat.add_zero,List.getElem?_map,hb,Option.map_some]
      | succ j=>simp at hu
section
variable {t u el ty:TypeId} {i:TypeInfo} {z:Value} {du:TypeDesc} {base:Option Addr} {sLen sCap m:Nat} {y:Value} {news olds:List Value}
theorem run_app_stay (w:World) (ht:P.underlying t = some (.slice el)) (hu:P.underlying u = some du) (hn:(∃ e',du = .slice e') ∨ du = .string) (hi:P.info? el = some i) (h1:(Builtin.lenOf y).run P w = .ok m w) (h2:(Builtin.firstCells i.size m y).run P w = .ok news.toArray w) (hc:sLen + m ≤ sCap) :
    (Builtin.append_ #[t,u] ty #[.slice base sLen sCap,y]).run P w = match (motive:=Option Addr → Result Value) base with
      | some b=>((storeCells (b.add (sLen * i.size)) news).run P w).andThen fun _ w=>.ok (.slice base (sLen + m) sCap) w
      | none=>.ok (.slice none (sLen + m) sCap) w:=by
  rcases hn with ⟨e',rfl⟩ | rfl <;> cases base <;> simp [Builtin.append_,run_underlying ht,run_underlying hu,sizeOf,typeInfo,hi,h1,h2,hc]
theorem run_app_grow (w:World) (ht:P.underlying t = some (.slice el)) (hu:P.underlying u = some du) (hn:(∃ e',du = .slice e') ∨ du = .string) (hi:P.info? el = some i) (hz0:i.zero = some z) (h1:∀ d,(Builtin.lenOf y).run P d = .ok m d) (h2:(Builtin.firstCells i.size m y).run P w.drew = .ok news.toArray w.drew) (h3:(Builtin.firstCells i.size sLen (.slice base sLen sCap)).run P w.drew = .ok olds.toArray w.drew) (hc:sCap < sLen + m)
    (h63:((sLen + m:Nat):Int) ≤ 9223372036854775807) (hfit:Builtin.nextslicecap (sLen + m) sCap * i.bytes ≤ 281474976710656) :
    (Builtin.append_ #[t,u] ty #[.slice base sLen sCap,y]).run P w =
      .ok (.slice (some ⟨w.heap.size,0,none⟩) (sLen + m) (grownCap w (sLen + m) sCap el)) (w.drew.alloc (.cells (olds.toArray ++ news.toArray ++ Builtin.zeroCells z.cells (grownCap w (sLen + m) sCap el - (sLen + m))) el)):=by
  have hn':¬ (sLen + m ≤ sCap):=by omega
  have h63':¬ (9223372036854775807 < ((sLen:Int) + (m:Int))):=by omega
  have h48':¬ (281474976710656 < Builtin.nextslicecap (sLen + m) sCap * i.bytes):=by omega
  have h1':=h1 w
  rcases hn with ⟨e',rfl⟩ | rfl <;> simp [Builtin.append_,run_underlying ht,run_underlying hu,sizeOf,typeInfo,zeroValue,hi,hz0,h1',h2,h3,hn',h63',h48',Question.forced,newRow,grownCap] <;> (congr 2; apply Array.ext'; simp [List.append_assoc])
end
def Env.claim (e:Env) (b off:Nat) (news:List Value):Env:={ e with cl:=fun b' o=>if b' = b ∧ off ≤ o ∧ o < off + news.length then news[o - off]? else e.cl b' o }
theorem Env.claim_le {b off:Nat} {news:List Value} (hfree:∀ o,off ≤ o → e.cl b o = none):ClLe e.cl (e.claim b off news).cl:=fun b' o v hv=>by
  simp only [Env.claim]
  rw [if_neg]
  · exact hv
  · rintro ⟨rfl,h1,_⟩
    rw [hfree o h1] at hv; cases hv
theorem Env.claim_keeps {b off N:Nat} {news:List Value} {p pl:Pl} (hown:e.own b = some (pl,N)) (hp:p ≠ pl):Keeps e (e.claim b off news) p p :=
  ⟨fun b' m hb'=>⟨hb',fun o ho=>by
    simp only [Env.claim]
    rw [if_neg]
    · exact ho
    · rintro ⟨rfl,_⟩
      rw [hown] at hb'
      simp only [Option.some.injEq,Prod.mk.injEq] at hb'
      exact hp hb'.1.symm⟩⟩
theorem RR.claim {b off N:Nat} {news:List Value} {c:Array Value} {ty:TypeId} {fz:Nat × Nat} {w':World} (h:RR n A e s a w) (hown:e.own b = some (.io 0 0,N)) (hfree:∀ o,off ≤ o → e.cl b o = none) (hc:w.heap[b]? = some (.cells c ty fz)) (hfit:off + news.length ≤ c.size)
    (hw:w'.heap[b]? = some (.cells (putL c.toList off news).toArray ty fz)) (hx:∀ k,k ≠ b → w'.heap[k]? = w.heap[k]?):RR n A (e.claim b off news) s a w':=by
  have hob:∀ l i b',rhoAt e.rho l i = some b' → b' ≠ b:=by
    intro l i b' hb' hbb
    subst hbb
    obtain ⟨m',hm'⟩:=h.hr.noown hb'
    rw [hown] at hm'
    simp at hm'
  have hvr:∀ {p:Option Pl} {q:Option (Nat → Pl)} {x:AV} {v:Value},(∀ y,p = some y → y ≠ .io 0 0) → (∀ f,q = some f → ∀ j,f j ≠ .io 0 0) → VR e p q x v → VR (e.claim b off news) p q x v:=by
    intro p q x v hp hq hv
    exact VR.mono (e:=e) (e':=e.claim b off news) (fun _ _ _ h=>h) (Env.claim_le hfree) x p p q q v (fun y hy=>⟨y,hy,Env.claim_keeps hown (hp y hy)⟩) (fun f hf=>⟨f,hf,fun j=>Env.claim_keeps hown (hq f hf j)⟩) hv
  have hvd:∀ {l:Nat} {p:Option Pl} {q:Option (Nat → Pl)} {x:AV} {v:Value},(∀ y,p = some y → y ≠ .io 0 0) → (∀ f,q = some f → ∀ j,f j ≠ .io 0 0) → VR (e.dr l) p q x v → VR ((e.claim b off news).dr l) p q x v:=by
    intro l p q x v hp hq hv
    exact VR.mono (e:=e.dr l) (e':=(e.dr l).claim b off news) (fun _ _ _ h=>h) (Env.claim_le (e:=e.dr l) hfree) x p p q q v (fun y hy=>⟨y,hy,Env.claim_keeps (e:=e.dr l) hown (hp y hy)⟩) (fun f hf=>⟨f,hf,fun j=>Env.claim_keeps (e:=e.dr l) hown (hq f hf j)⟩) hv
  have hlen:(putL c.toList off news).length = c.size:=by rw [putL_length]; simp
  refine ⟨⟨fun b' q z hz=>?_,fun b' p m hp=>?_⟩,⟨h.hr.par,fun l i y hy=>?_⟩,⟨h.fr.size,fun t ht=>hvr (by simp) (by simp) (h.fr.val t ht)⟩,fun t src ht hs=>(h.als t src ht hs).env (fun _ _ _ h=>h) fun l i q _ b' hb'=>cell_of_heap (hx b' (hob l i b' hb'))⟩
  · by_cases hbb:b' = b
    · subst hbb
      simp only [World.cell?,hw]
      simp only [Option.isSome_none,Bool.false_eq_true,if_false,List.getElem?_toArray]
      rw [putL_get _ _ _ _ (by simpa using hfit)]
      simp only [Env.claim,true_and] at hz
      by_cases hin:off ≤ q ∧ q < off + news.length
      · rw [if_pos hin] at hz ⊢; exact hz
      · rw [if_neg hin] at hz ⊢
        have:=h.wok.holds b' q z hz
        simp only [World.cell?,hc] at this
        simpa using this
    · simp only [Env.claim,hbb,false_and,if_false] at hz
      rw [cell_of_heap (hx b' hbb)]
      exact h.wok.holds b' q z hz
  · by_cases hbb:b' = b
    · subst hbb
      exact (h.wok.free b' p m hp).cells hc hw (by simpa using hlen) ((h.wok.free b' p m hp).of hc).2
    · exact (h.wok.free b' p m hp).to (hx b' hbb)
  · obtain ⟨b',hb',c',ty',fz',k1,k2,k3,k4⟩:=h.hr.ob l i y hy
    have hne:=hob l i b' hb'
    refine ⟨b',hb',c',ty',fz',by rw [hx b' hne]; exact k1,k2,fun o=>?_,?_⟩
    · simp only [Env.claim,hne,false_and,if_false]; exact k3 o
    · cases y with
      | abs _ _=>exact k4
      | map _=>trivial
      | cells cs=>exact ⟨k4.1,fun o av u g1 g2=>hvd (by simp) (by simp) (k4.2 o av u g1 g2)⟩
theorem exec_append {c:Call} {x y:Operand} {t u:TypeId} {v:Value} {w':World} (ho:o.op = .call c) (hc:c.callee = .builtin .append) (h1:c.args.toList = [x,y]) (h2:c.argTypes.toList = [t,u]) (hr:(Builtin.append_ #[t,u] o.type #[a.eval x,a.eval y]).run P w = .ok v w'):(execOp a.eval o).run P w = .ok (.value v) w':=by
  refine exec_builtin (S:=Builtin.append_ #[t,u] o.type #[a.eval x,a.eval y]) ho hc (fun cs=>?_) hr
  rw [toList2 h1,toList2 h2]; simp [builtin]
theorem get_append {α:Type} {xs ys:List α} {i:Nat} {x:α} (h:(xs ++ ys)[i]? = some x):xs[i]? = some x ∨ xs.length ≤ i ∧ ys[i - xs.length]? = some x:=by
  rcases Nat.lt_or_ge i xs.length with hi | hi
  · left; rwa [List.getElem?_append_left hi] at h
  · right; rw [List.getElem?_append_right hi] at h; exact ⟨hi,h⟩
theorem lvApp_or {α:Type} (mn:Bool) (lv:Lv) (ys:List α):lvApp mn lv ys = .own ∨ lvApp mn lv ys = .mine:=by
  unfold lvApp
  cases mn <;> cases lv <;> cases ys <;> simp
theorem lvApp_nil {α:Type} (mn:Bool) {lv:Lv} {ys:List α} (h:ys = []) (hl:lv ≠ .mine):lvApp mn lv ys = .own:=by
  subst h
  unfold lvApp
  cases mn <;> cases lv <;> simp at hl ⊢
theorem lvApp_own {α:Type} {mn:Bool} {lv:Lv} {ys:List α} (h:lv = .own):lvApp mn lv ys = .own:=by
  subst h
  unfold lvApp
  cases mn <;> rfl
theorem LvR.owned {e:Env} {p:Option Pl} {k:Nat} {v:Value} {lv:Lv} (hl:lv = .own ∨ lv = .mine) (h:LvR e p k v .mine):LvR e p k v lv:=by
  rcases hl with rfl | rfl
  · obtain ⟨b,l2,c2,n2,pl,m1,m2,m3,m4,m5⟩:=h
    exact .inr ⟨b,0,l2,c2,n2,pl,m1,m2,m3,by omega,fun o ho=>m5 o (by omega)⟩
  · exact h
theorem append_coreG {α:Type} {R:Env → α → List Value → Prop} {k:Nat} {V:AV} {f:Pl → Pl} {o:Oper} {c:Call} {x y:Operand} {t u el:TypeId} {xs ys:List α} {lv lvr:Lv} {s1:RS} {news:List Value} {du:TypeDesc} {zs:List AV} (hmono:∀ {e e':Env} {x:α} {es:List Value},RhoLe e e' → ClLe e.cl e'.cl → R e x es → R e' x es) (hR:∀ {e:Env} {x:α} {es:List Value},R e x es → es.length = k ∧ ∀ u ∈ es,u.oneCell' = true) (hk0:0 < k)
    (hV:∀ {e':Env} {v:Value},SRof (R e') k e'.cl (xs ++ ys) v → LvR e' (some (.io 0 0)) k v lvr → VR e' (some (.io 0 0)) (some fun j=>.io 0 (j + 1)) V v) (ho:o.op = .call c) (hc:c.callee = .builtin .append) (ha1:c.args.toList = [x,y]) (ha2:c.argTypes.toList = [t,u])
    (h:RR n A (e.ren f) s1 a w) (hf:Fix f) (hSR:SRof (R (e.ren f)) k (e.ren f).cl xs (a.eval x)) (hLv:LvR (e.ren f) (some (.io 0 0)) k (a.eval x) lv) (hlv:lv ≠ .view ∧ lv ≠ .nn ∧ lv ≠ .nilv)
    (ht:P.underlying t = some (.slice el)) (hu:P.underlying u = some du) (hn:(∃ e',du = .slice e') ∨ du = .string) (hsz:k = sizeB P el) (hel:okT P el = true) (hb1:1 ≤ bytesB P el) (hz:zeros P el = some zs) (hzl:zs.length = k)
    (hN:NewsG P (R (e.ren f)) k w ys (a.eval y) news) (hroom:(xs.length + ys.length) * bytesB P el ≤ room) (hlvr:lvr = .own ∨ lvr = .mine) (hnil:ys = [] → lv ≠ .mine → lvr = .own) (hown:lv = .own → lvr = .own) :
    Done P n A o e a w s1 V none:=by
  obtain ⟨i,z,g1,g2,g3⟩:=zeros_info hz
  have hisz:i.size = k:=by rw [hsz,sizeB,g1]
  have hby:bytesB P el = i.bytes:=by simp [bytesB,g1]
  rw [hby] at hroom hb1
  have hzc:z.cells.size = k:=by rw [← hzl,constCells_length g3]; simp
  simp only [room] at hroom
  have hsmall:xs.length + ys.length ≤ 140737488355328:=Nat.le_trans (Nat.le_mul_of_pos_right _ hb1) hroom
  obtain ⟨olds,hO⟩:=SRof.news (P:=P) h.wok hk0 hR hSR
  obtain ⟨ad,len,cap,k1,k2,k3,k4,k5,k6⟩:=hSR
  have hSR':SRof (R (e.ren f)) k (e.ren f).cl xs (.slice ad len cap):=⟨ad,len,cap,rfl,k2,k3,k4,k5,k6⟩
  rw [k1] at hLv hO
  -- two kinds of rights
  have hkind:(len = cap ∧ lv ≠ .mine) ∨ ∃ b off m,ad = some ⟨b,off,none⟩ ∧ (e.ren f).own b = some (.io 0 0,m) ∧ off + cap * k ≤ m ∧ (∀ o,off + len * k ≤ o → (e.ren f).cl b o = none) ∧ (off = 0 ∨ lv = .own):=by
    cases lv with
    | view=>exact absurd rfl hlv.1
    | nn=>exact absurd rfl hlv.2.1
    | nilv=>exact absurd rfl hlv.2.2
    | full=>obtain ⟨a',m,e1⟩:=hLv; cases e1; exact .inl ⟨rfl,by simp⟩
    | own =>
      rcases hLv with ⟨a',m,e1⟩ | ⟨b,off,len',cap',m,pl,e1,e2,e3,e4,e5⟩
      · cases e1; exact .inl ⟨rfl,by simp⟩
      · cases e1; cases e2
        exact .inr ⟨b,off,m,rfl,e3,e4,e5,.inr rfl⟩
    | mine =>
      obtain ⟨b,len',cap',m,pl,e1,e2,e3,e4,e5⟩:=hLv
      cases e1; cases e2
      exact .inr ⟨b,0,m,rfl,e3,by omega,fun o ho=>e5 o (by omega),.inl rfl⟩
  have hlen:(xs ++ ys).length = len + ys.length:=by simp [k2]
  by_cases hcap:len + ys.length ≤ cap
  · have hrun:=run_app_stay (P:=P) (ty:=o.type) (base:=ad) (sLen:=len) (sCap:=cap) w ht hu hn g1 (hN.lenOf w) (by rw [hisz]; exact hN.cells w rfl) hcap
    rcases hkind with ⟨hfull,hnm⟩ | ⟨b,off,m,rfl,q2,q3,q4,q5⟩
    · -- nothing is appended
      have hm0:ys.length = 0:=by omega
      have hys:ys = []:=List.eq_nil_of_length_eq_zero hm0
      subst hys
      have hnews:news = []:=List.eq_nil_of_length_eq_zero (by rw [hN.len]; simp)
      subst hnews
      have hr:(Builtin.append_ #[t,u] o.type #[a.eval x,a.eval y]).run P w = .ok (.slice ad len cap) w:=by
        rw [k1,hrun]
        cases ad with
        | none=>simp
        | some b=>simp [storeCells]
      refine ⟨e.ren f,w,_,.inl (exec_append ho hc ha1 ha2 hr),h,?_,by simp,Grow.ren hf.hid _ _ _,fun _ _ _ h=>h⟩
      refine hV (by simpa using hSR') ?_
      rw [hnil rfl hnm]
      exact .inl ⟨ad,cap,by rw [hfull]⟩
    · obtain ⟨cs,ty,lo,hi,m1,m2,m3⟩:=(h.wok.free b _ _ q2).row rfl
      have hbound:off + len * k + news.length ≤ cs.size:=by
        have:=Nat.mul_le_mul_right k hcap
        rw [Nat.add_mul] at this
        rw [hN.len,m2]
        omega
      obtain ⟨w',r1,r2,r3,r4,r5,r6,r7⟩:=storeCells_run (P:=P) (b:=b) (o0:=off + len * k) news 0 cs w m1 (by omega) (fun k hk hh=>by rcases m3 with m3 | m3 <;> omega) hN.one
      rw [Nat.add_zero] at r2
      have hr:(Builtin.append_ #[t,u] o.type #[a.eval x,a.eval y]).run P w = .ok (.slice (some ⟨b,off,none⟩) (len + ys.length) cap) w':=by
        rw [k1,hrun]
        simp only [Addr.add_eq,hisz,r1,Result.andThen_ok]
      have hR:=h.claim (news:=news) q2 q4 m1 hbound r2 r3
      have hle:=Env.claim_le (e:=e.ren f) (news:=news) q4
      have hrl:RhoLe (e.ren f) ((e.ren f).claim b (off + len * k) news):=fun _ _ _ h=>h
      refine ⟨(e.ren f).claim b (off + len * k) news,w',_,.inl (exec_append ho hc ha1 ha2 hr),hR,?_,by simp,?_,fun _ _ _ h=>h⟩
      · refine hV ⟨_,_,_,rfl,hlen,hcap,k4,by simp,fun j v hj=>?_⟩ ?_
        · rcases get_append hj with hj | ⟨hj1,hj⟩
          · obtain ⟨b',off',es,e1,e2,e3⟩:=k6 j v hj
            cases e1
            exact ⟨b,off,es,rfl,hmono hrl hle e2,fun q u hu=>hle _ _ _ (e3 q u hu)⟩
          · obtain ⟨es,e1,e2⟩:=hN.el _ _ hj
            refine ⟨b,off,es,rfl,hmono hrl hle e1,fun q u hu=>?_⟩
            have hnq:=e2 q u hu
            have hlt:(j - xs.length) * k + q < news.length:=by
              rcases Nat.lt_or_ge ((j - xs.length) * k + q) news.length with h' | h'
              · exact h'
              · rw [List.getElem?_eq_none h'] at hnq; cases hnq
            have hsplit:j * k = len * k + (j - xs.length) * k:=by
              rw [← k2,← Nat.add_mul]; congr 1; omega
            simp only [Env.claim,true_and]
            rw [if_pos (by omega)]
            rw [show off + (j * k + q) - (off + len * k) = (j - xs.length) * k + q by omega]
            exact hnq
        · have hfree:∀ o,off + (len + ys.length) * k ≤ o → ((e.ren f).claim b (off + len * k) news).cl b o = none:=fun o ho=>by
            simp only [Env.claim,true_and]
            rw [Nat.add_mul] at ho
            rw [if_neg (by rw [hN.len]; omega)]
            exact q4 o (by omega)
          rcases q5 with rfl | q5
          · exact LvR.owned hlvr ⟨b,_,cap,m,.io 0 0,rfl,rfl,q2,by omega,fun o ho=>hfree o (by omega)⟩
          · rw [hown q5]
            exact .inr ⟨b,off,_,cap,m,.io 0 0,rfl,rfl,q2,q3,hfree⟩
      · have hG:Grow (e.ren f) w ((e.ren f).claim b (off + len * k) news) w' s1.wr:=by
          refine ⟨r5,r6,r7,by rw [r4]; exact Nat.le_refl _,hle,fun b' hb' hn'=>?_,fun _ _ _ h=>h,fun l i b' hb' _=>r3 b' fun hbb=>?_⟩
          · have hne:b' ≠ b:=by
              intro hbb; subst hbb
              rw [q2] at hn'
              rcases hn' with hn' | ⟨p,k,hn'⟩
              · cases hn'
              · simp at hn'
            refine ⟨r3 b' hne,rfl,fun o=>?_⟩
            simp only [Env.claim,hne,false_and,if_false]
          · subst hbb
            obtain ⟨m',hm'⟩:=h.hr.noown hb'
            rw [q2] at hm'
            simp at hm'
        exact (Grow.ren hf.hid e w s1.wr).trans hG (fun _ _ _ h=>h) (fun _ _ h=>h)
  · have hge:=grownCap_ge w (len + ys.length) cap el
    have hle:grownCap w (len + ys.length) cap el ≤ maxInt:=grownCap_le_maxLen w (len + ys.length) cap el (by simp only [maxLen]; omega)
    have hrun:=run_app_grow (P:=P) (ty:=o.type) (base:=ad) (sLen:=len) (sCap:=cap) (olds:=olds) w ht hu hn g1 g2 hN.lenOf (by rw [hisz]; exact hN.cells _ rfl) (by rw [hisz]; have:=hO.cells w.drew rfl; rwa [k2] at this) (by omega) (by omega) (growslice_fits (by omega) (by rw [← k2]; exact hroom))
    have hrun':(execOp a.eval o).run P w = .ok (.value (.slice (some ⟨w.heap.size,0,none⟩) (len + ys.length) (grownCap w (len + ys.length) cap el))) (w.drew.alloc (.cells (olds.toArray ++ news.toArray ++ Builtin.zeroCells z.cells (grownCap w (len + ys.length) cap el - (len + ys.length))) el)) :=
      exec_append ho hc ha1 ha2 (by rw [k1]; exact hrun)
    have hOl:olds.length = len * k:=by rw [hO.len,k2]
    have hD:=newRow_doneG (R:=R) (V:=V) (k:=k) hmono (fun h=>(hR h).1) hV (o:=o) (xs:=xs ++ ys) (cap:=grownCap w (len + ys.length) cap el) (len:=len + ys.length) (el:=el) (arr:=olds.toArray ++ news.toArray ++ Builtin.zeroCells z.cells (grownCap w (len + ys.length) cap el - (len + ys.length))) (m:=(len + ys.length) * k) (lv:=lvr) (p:=some (.io 0 0)) h
      (w.drew.alloc (.cells (olds.toArray ++ news.toArray ++ Builtin.zeroCells z.cells (grownCap w (len + ys.length) cap el - (len + ys.length))) el)) rfl rfl rfl (by simp [World.alloc,-World.alloc_eq,World.drew,-World.drew_eq]) (fun b hb=>by rw [alloc_old _ _ _ (by simpa using hb)]; rfl) (by have:=alloc_new w.drew (.cells (olds.toArray ++ news.toArray ++ Builtin.zeroCells z.cells (grownCap w (len + ys.length) cap el - (len + ys.length))) el); simpa using this) hrun' hlen hge hle rfl
      (by
        simp only [Array.size_append,List.size_toArray,size_zeroCells,hzc,hOl,hN.len,← Nat.add_mul]
        congr 1; omega)
      (fun j v hj=>by
        rcases get_append hj with hj | ⟨hj1,hj⟩
        · obtain ⟨es,e1,e2⟩:=hO.el _ _ hj
          refine ⟨es,e1,fun q u hu=>?_⟩
          have hnq:=e2 q u hu
          have hlt:j * k + q < olds.length:=by
            rcases Nat.lt_or_ge (j * k + q) olds.length with h' | h'
            · exact h'
            · rw [List.getElem?_eq_none h'] at hnq; cases hnq
          rw [Array.getElem?_append_left (by simp; omega),Array.getElem?_append_left (by simpa using hlt)]
          simpa using hnq
        · obtain ⟨es,e1,e2⟩:=hN.el _ _ hj
          refine ⟨es,e1,fun q u hu=>?_⟩
          have hnq:=e2 q u hu
          have hlt:(j - xs.length) * k + q < news.length:=by
            rcases Nat.lt_or_ge ((j - xs.length) * k + q) news.length with h' | h'
            · exact h'
            · rw [List.getElem?_eq_none h'] at hnq; cases hnq
          have hsplit:j * k = olds.length + (j - xs.length) * k:=by
            rw [hOl,← k2,← Nat.add_mul]; congr 1; omega
          rw [Array.getElem?_append_left (by simp; omega),Array.getElem?_append_right (by simp; omega)]
          rw [show j * k + q - olds.toArray.size = (j - xs.length) * k + q by simp; omega]
          simpa using hnq)
      (.inr rfl) (by rcases hlvr with h | h <;> simp [h]) (by rcases hlvr with h | h <;> simp [h])
    obtain ⟨e',w',u',d1,d2,d3,d4,d5,d6⟩:=hD
    exact ⟨e',w',u',d1,d2,d3,d4,(Grow.ren hf.hid e w s1.wr).trans d5 (fun _ _ _ h=>h) (fun _ _ h=>h),d6⟩
theorem append_core {f:Pl → Pl} {o:Oper} {c:Call} {x y:Operand} {t u el:TypeId} {T:Ty} {xs ys:List T.interp} {lv lvr:Lv} {s1:RS} {news:List Value} {du:TypeDesc} {zs:List AV} (ho:o.op = .call c) (hc:c.callee = .builtin .append) (ha1:c.args.toList = [x,y]) (ha2:c.argTypes.toList = [t,u])
    (h:RR n A (e.ren f) s1 a w) (hf:Fix f) (hv:VR (e.ren f) (some (.io 0 0)) (some fun j=>.io 0 (j + 1)) (.slice T xs lv) (a.eval x)) (hlv:lv ≠ .view ∧ lv ≠ .nn ∧ lv ≠ .nilv)
    (ht:P.underlying t = some (.slice el)) (hu:P.underlying u = some du) (hn:(∃ e',du = .slice e') ∨ du = .string) (hsz:T.size = sizeB P el) (hel:okT P el = true) (hb1:1 ≤ bytesB P el) (hz:zeros P el = some zs) (hzl:zs.length = T.size)
    (hN:News P (e.ren f) w T ys (a.eval y) news) (hroom:(xs.length + ys.length) * bytesB P el ≤ room) (hlvr:lvr = .own ∨ lvr = .mine) (hnil:ys = [] → lv ≠ .mine → lvr = .own) (hown:lv = .own → lvr = .own) :
    Done P n A o e a w s1 (.slice T (xs ++ ys) lvr) none:=by
  simp only [VR] at hv
  exact append_coreG (R:=fun e=>DR e.cl T) (fun _ hc h=>DR.mono hc _ _ _ h) (fun h=>⟨DR.len _ _ _ h,DR.one _ _ _ h⟩) (buildSlice_sim.Ty.size_pos T) (fun h1 h2=>by simp only [VR]; exact ⟨h1,h2⟩) ho hc ha1 ha2 h hf hv.1 hv.2 hlv ht hu hn hsz hel hb1 hz hzl hN hroom hlvr hnil hown
theorem ptrs_get:∀ {cs:List AV} {j:Nat} {v:AV},ptrsB cs = true → cs[j]? = some v → (∃ l i o,v = .ptr l i o) ∨ v = .nilp
  | [],j,v,_,h=>by simp at h
  | c :: cs,0,v,hs,h=>by
    simp at h; subst h
    cases c <;> simp [ptrsB] at hs ⊢
  | c :: cs,j + 1,v,hs,h=>by
    refine ptrs_get (cs:=cs) ?_ (by simpa using h)
    cases c <;> simp [ptrsB] at hs ⊢ <;> exact hs
def ptrRw (e:Env) (a:AV) (es:List Value):Prop:=((∃ l i o,a = .ptr l i o) ∨ a = .nilp) ∧ ∃ u,es = [u] ∧ VR e none none a u
theorem ptrRw_mono {e e':Env} {x:AV} {es:List Value} (hr:RhoLe e e') (hc:ClLe e.cl e'.cl) (h:ptrRw e x es):ptrRw e' x es:=by
  obtain ⟨h1,u,h2,h3⟩:=h
  exact ⟨h1,u,h2,VR.mono hr hc x none none none none u (by simp) (by simp) h3⟩
theorem ptrRw_len {e:Env} {x:AV} {es:List Value} (h:ptrRw e x es):es.length = 1 ∧ ∀ u ∈ es,u.oneCell' = true:=by
  obtain ⟨h1,u,rfl,h3⟩:=h
  refine ⟨rfl,fun u' hu=>?_⟩
  simp only [List.mem_singleton] at hu
  subst hu
  rcases h1 with ⟨l,i,o,rfl⟩ | rfl
  · simp only [VR] at h3
    obtain ⟨b,_,rfl⟩:=h3
    exact (pval_one b o).1
  · simp only [VR] at h3
    subst h3; rfl
theorem ptrRw_of {e:Env} {cs:List AV} {v:Value} (hp:ptrsB cs = true) (h:∃ a len cap,v = .slice a len cap ∧ cs.length = len ∧ len ≤ cap ∧ cap ≤ maxInt ∧ (a = none → cap = 0) ∧ (cs = [] ∨ ∃ b off,a = some ⟨b,off,none⟩ ∧ CRs e b off cs)):SRof (ptrRw e) 1 e.cl cs v:=by
  obtain ⟨a,len,cap,h1,h2,h3,h4,h5,h6⟩:=h
  refine ⟨a,len,cap,h1,h2,h3,h4,h5,fun i x hx=>?_⟩
  rcases h6 with rfl | ⟨b,off,g1,g2⟩
  · simp at hx
  · obtain ⟨u,k1,k2⟩:=g2.get i x hx
    refine ⟨b,off,[u],g1,⟨ptrs_get hp hx,u,rfl,k2⟩,fun j u' hu=>?_⟩
    cases j with
    | zero=>simp at hu; subst hu; rwa [Nat.mul_one,Nat.add_zero]
    | succ j=>simp at hu
theorem of_ptrRw {e:Env} {cs:List AV} {v:Value} (h:SRof (ptrRw e) 1 e.cl cs v):∃ a len cap,v = .slice a len cap ∧ cs.length = len ∧ len ≤ cap ∧ cap ≤ maxInt ∧ (a = none → cap = 0) ∧ (cs = [] ∨ ∃ b off,a = some ⟨b,off,none⟩ ∧ CRs e b off cs):=by
  obtain ⟨a,len,cap,h1,h2,h3,h4,h5,h6⟩:=h
  refine ⟨a,len,cap,h1,h2,h3,h4,h5,?_⟩
  cases cs with
  | nil=>exact .inl rfl
  | cons c r =>
    right
    obtain ⟨b,off,es,e1,e2,e3⟩:=h6 0 c (by simp)
    refine ⟨b,off,e1,CRs.of fun i x hx=>?_⟩
    obtain ⟨b',off',es',f1,f2,f3⟩:=h6 i x hx
    rw [e1] at f1; cases f1
    obtain ⟨_,u,rfl,g⟩:=f2
    exact ⟨u,by have:=f3 0 u (by simp); rwa [Nat.mul_one,Nat.add_zero] at this,g⟩
theorem append_sim (h:RR n A e s a w) {c:Call} {x y:Operand} {t u:TypeId} (ho:o.op = .call c) (hc:c.callee = .builtin .append) (ha1:c.args.toList = [x,y]) (ha2:c.argTypes.toList = [t,u]) (hx:okOp n x) (hy:okOp n y) {mn:Bool} {b:Bool} {s':RS} {v:AV} {l:Option Src} (hr:appendA P mn t u x y s = .yes b s' v l) (hb:b = true):Done P n A o e a w s' v l:=by
  subst hb
  unfold appendA at hr
  split at hr
  · rename_i el T xs lv ht htk
    obtain ⟨f,hf,hio,h1,h2,h3,h4⟩:=tk_sim (P:=P) h 0 t hx
    rw [htk] at h2
    split at hr
    · rename_i hl hcond
      simp only [Bool.and_eq_true,beq_iff,ble_iff] at hcond
      obtain ⟨⟨⟨⟨c1,c2⟩,c3⟩,c4⟩,c5⟩:=hcond
      have hlv:lv ≠ .view ∧ lv ≠ .nn ∧ lv ≠ .nilv:=⟨by intro hh; subst hh; (cases hl),by intro hh; subst hh; (cases hl),by intro hh; subst hh; (cases hl)⟩
      cases hz:zeros P el with
      | none=>rw [hz] at c5; cases c5
      | some zs =>
        rw [hz] at c5
        have hzl:zs.length = T.size:=by rw [← lenN_eq]; exact (beq_iff _ _).1 c5
        obtain ⟨p,q,hvy⟩:=ev_sim (P:=P) h1 u hy
        split at hr
        · rename_i e' T' ys lv' hu ey
          rw [ey] at hvy
          simp only [VR] at hvy
          split at hr
          · rename_i hT _
            subst hT
            simp only [Plan.yes.injEq,decide_eq_true_eq] at hr
            obtain ⟨hroom,rfl,rfl,rfl⟩:=hr
            obtain ⟨news,hN⟩:=SR.news (P:=P) h1.wok hvy.1
            exact append_core ho hc ha1 ha2 h1 hf h2 hlv ht hu (.inl ⟨e',rfl⟩) c1 c2 c4 hz hzl hN hroom (lvApp_or _ _ _) (fun h1 h2=>lvApp_nil _ h1 h2) lvApp_own
          · cases hr
        · rename_i ys hu ey
          rw [ey] at hvy
          simp only [VR] at hvy
          obtain ⟨zz,z1,z2,z3⟩:=hvy
          split at hr
          · rename_i hT _
            subst hT
            simp only [Plan.yes.injEq,decide_eq_true_eq] at hr
            obtain ⟨hroom,rfl,rfl,rfl⟩:=hr
            obtain ⟨news,hN⟩:=str_news (P:=P) (e:=e.ren f) (w:=w) zz
            rw [z2,← z1] at hN
            exact append_core ho hc ha1 ha2 h1 hf h2 hlv ht hu (.inr rfl) c1 c2 c4 hz hzl hN hroom (lvApp_or _ _ _) (fun h1 h2=>lvApp_nil _ h1 h2) lvApp_own
          · cases hr
        · cases hr
    · cases hr
  · rename_i el cs lv ht htk
    obtain ⟨f,hf,hio,h1,h2,h3,h4⟩:=tk_sim (P:=P) h 0 t hx
    rw [htk] at h2
    split at hr
    · rename_i hl hcond
      simp only [Bool.and_eq_true,beq_iff,ble_iff] at hcond
      obtain ⟨⟨c1,c2⟩,c4,cp,c5⟩:=hcond
      have hlv:lv ≠ .view ∧ lv ≠ .nn ∧ lv ≠ .nilv:=⟨by intro hh; subst hh; (cases hl),by intro hh; subst hh; (cases hl),by intro hh; subst hh; (cases hl)⟩
      cases hz:zeros P el with
      | none=>rw [hz] at c5; cases c5
      | some zs =>
        rw [hz] at c5
        have hzl:zs.length = 1:=by rw [← lenN_eq]; exact (beq_iff _ _).1 c5
        obtain ⟨p,q,hvy⟩:=ev_sim (P:=P) h1 u hy
        split at hr
        · rename_i e' ds lv' hu ey
          rw [ey] at hvy
          simp only [Plan.yes.injEq,Bool.and_eq_true,decide_eq_true_eq] at hr
          obtain ⟨⟨hp,hroom⟩,rfl,rfl,rfl⟩:=hr
          simp only [VR] at h2 hvy
          obtain ⟨news,hN⟩:=SRof.news (P:=P) (R:=ptrRw (e.ren f)) h1.wok (by decide:0 < 1) ptrRw_len (ptrRw_of hp hvy.1)
          exact append_coreG (R:=ptrRw) (k:=1) ptrRw_mono ptrRw_len (by decide) (V:=.row (cs ++ ds) .own) (fun h1 h2=>by simp only [VR]; exact ⟨of_ptrRw h1,h2⟩) ho hc ha1 ha2 h1 hf (ptrRw_of cp h2.1) h2.2 hlv ht hu (.inl ⟨e',rfl⟩) c1 c2 c4 hz hzl hN hroom (.inl rfl) (fun _ _=>rfl) (fun _=>rfl)
        · cases hr
    · cases hr
  · cases hr
end Go.Vm
namespace Go.Vm
variable {P:Program} {n:Nat} {A:AbsR} {e:Env} {s:RS} {a:Act} {w:World} {o:Oper}
theorem MapOK.nil:MapOK #[] []:=⟨rfl,by simp,by simp⟩
theorem WOK.newMap {w':World} {g:Nat} {p:Pl} {es:Array MapEntry} {clk:Nat} (hw:WOK e w) (hp:p.isOb = true) (hg:g = w.heap.size) (h5:∀ b,b < w.heap.size → w'.heap[b]? = w.heap[b]?) (hb:w'.heap[g]? = some (.map es clk)):WOK (e.newRow g #[] 0 (some p)) w' where
  holds:=fun b o v hv=>by
    simp only [Env.newRow] at hv
    by_cases hbg:b = g
    · subst hbg; simp at hv
    · rw [if_neg hbg] at hv
      rw [cell_of_heap (h5 b (hw.cl_lt hv))]
      exact hw.holds b o v hv
  free:=fun b q m' hv=>by
    simp only [Env.newRow] at hv
    by_cases hbg:b = g
    · subst hbg
      simp at hv
      obtain ⟨rfl,rfl⟩:=hv
      exact ⟨#[],0,0,0,.inr ⟨hp,rfl,es,clk,hb⟩,rfl,.inl rfl⟩
    · rw [if_neg hbg] at hv
      exact (hw.free b q m' hv).to (h5 b (hw.own_lt hv))
theorem makeMap_sim (h:RR n A e s a w) {t:TypeId} {l:List Ob} {S:Stack} (ho:o.op = .makeMap t none) (hH:s.H = l :: S):Done P n A o e a w { s with H:=app l [.map []] :: S } (.ptr 0 (lenN l) mapO) none:=by
  have hrun:(execOp a.eval o).run P w = .ok (.value (.map (some w.heap.size))) (w.alloc (.map #[] 0)):=by
    refine exec_v (S:=Instr.makeMap t none) (by unfold execOp; rw [ho]; rfl) rfl
  have hext:=Ext.newRow (e:=e) (w:=w) (w':=w.alloc (.map #[] 0)) (g:=w.heap.size) (c:=#[]) (m:=0) (p:=some (.ob 0 (lenN l))) rfl rfl rfl rfl (by simp [World.alloc,-World.alloc_eq]) (fun b hb=>alloc_old w _ b hb)
  have hwok:=WOK.newMap (p:=.ob 0 (lenN l)) h.wok rfl rfl (fun b hb=>alloc_old w (.map #[] 0) b hb) (alloc_new w _)
  have h1:=h.ext hext hwok
  have h2:=RR.push (g:=w.heap.size) (c:=#[]) (ty:=0) (fz:=(0,0)) (y:=.map []) h1 hH (by simp [Env.newRow]) (fun o=>by simp [Env.newRow]) ⟨rfl,_,_,alloc_new w _,MapOK.nil⟩ trivial
  have hpar:Par e.rho (l :: S):=by have:=h.hr.par; rw [hH] at this; exact this
  refine ⟨_,_,_,.inl hrun,h2,?_,by simp,?_,?_⟩
  · simp only [VR]; exact ⟨w.heap.size,pushRho_new _ hpar,(pval_map _).symm⟩
  · have g2:=hext.grow h.wok h.hr s.wr
    exact g2.trans (Grow.push (e.newRow w.heap.size #[] 0 (some (.ob 0 (lenN l)))) (w.alloc (.map #[] 0)) w.heap.size s.wr) (hext.rhoLe) (fun _ _ h=>h)
  · intro l' i' b hb
    exact Env.push_le _ _ _ _ _ hb
theorem mapAt_some {t:TypeId} {x:Operand} {l i:Nat} {ks:List Int} (h:mapAt P s t x = some (l,i,ks)):ev P s t x = .ptr l i mapO ∧ getH s.H l i = some (.map ks):=by
  unfold mapAt at h
  split at h
  · rename_i l' i' o' ex
    obtain ⟨h1,h2⟩:=cond_none h
    rw [beq_iff] at h1
    subst h1
    split at h2
    · rename_i ks' hg
      simp only [Option.some.injEq,Prod.mk.injEq] at h2
      obtain ⟨rfl,rfl,rfl⟩:=h2
      exact ⟨ex,hg⟩
    · cases h2
  · cases h
theorem HR.getMap {H:Stack} (hr:HR A e H w) {l i:Nat} {ks:List Int} (hg:getH H l i = some (.map ks)) :
    ∃ b es clk,rhoAt e.rho l i = some b ∧ w.heap[b]? = some (.map es clk) ∧ MapOK es ks ∧ e.own b = some (.ob l i,0) ∧ (∀ o,e.cl b o = none):=by
  obtain ⟨b,hb,c,ty,fz,⟨h1,es,clk,h5,h6⟩,h2,h3,h4⟩:=hr.ob l i _ hg
  subst h1
  exact ⟨b,es,clk,hb,h5,h6,h2,h3⟩
theorem mapTy_some {t:TypeId} (h:mapTy P t = true):∃ k el i,P.underlying t = some (.map k el) ∧ P.underlying k = some (.int .i64) ∧ P.info? el = some i ∧ i.zero = some (.bool false):=by
  unfold mapTy at h
  split at h
  · rename_i k el ht
    split at h
    · rename_i i hk hi
      split at h
      · rename_i hz; exact ⟨k,el,i,ht,hk,hi,hz⟩
      · cases h
    · cases h
  · cases h
theorem memI_iff (n:Int):∀ ks:List Int,memI n ks = true ↔ n ∈ ks
  | []=>by simp [memI]
  | a :: r=>by
    simp only [memI,Bool.or_eq_true,beq_iff_eq,memI_iff n r,List.mem_cons]
    exact ⟨fun h=>h.imp Eq.symm id,fun h=>h.imp Eq.symm id⟩
theorem MapOK.isKey {es:Array MapEntry} {ks:List Int} (h:MapOK es ks):∀ x ∈ es.toList,MapKept.IsKey (.int .i64) x.key:=by
  intro x hx
  have:x.key ∈ es.toList.map (·.key):=List.mem_map.2 ⟨x,hx,rfl⟩
  rw [h.keys] at this
  obtain ⟨k,_,hk⟩:=List.mem_map.1 this
  rw [← hk]; rfl
theorem MapOK.find {es:Array MapEntry} {ks:List Int} (h:MapOK es ks) (n:Int) :
    (memI n ks = false ∧ Instr.findNow (.int .i64) (.int .i64 n) es.toList 0 = some none ∧ ∀ x ∈ es.toList,x.key ≠ .int .i64 n) ∨ (memI n ks = true ∧ ∃ j x,Instr.findNow (.int .i64) (.int .i64 n) es.toList 0 = some (some (j,.bool true)) ∧ es[j]? = some x ∧ x.key = .int .i64 n ∧ x.val = .bool true):=by
  have hk:MapKept.IsKey (.int .i64) (.int .i64 n):=rfl
  rcases MapKept.findNow_spec hk es.toList 0 h.isKey with ⟨h1,h2⟩ | ⟨j,x,h1,h2,h3⟩
  · left
    refine ⟨?_,h1,h2⟩
    cases hm:memI n ks with
    | false=>rfl
    | true =>
      have hin:(Value.int .i64 n) ∈ ks.map (Value.int .i64 ·):=List.mem_map.2 ⟨n,(memI_iff n ks).1 hm,rfl⟩
      rw [← h.keys] at hin
      obtain ⟨x,hx,hxk⟩:=List.mem_map.1 hin
      exact absurd hxk (h2 x hx)
  · right
    have hx:x ∈ es.toList:=List.mem_of_getElem? h2
    have hv:=h.vals x hx
    refine ⟨?_,j,x,by rw [h1,hv,Nat.zero_add],by simpa using h2,h3,hv⟩
    have hin:x.key ∈ es.toList.map (·.key):=List.mem_map.2 ⟨x,hx,rfl⟩
    rw [h.keys,h3] at hin
    obtain ⟨k,hk1,hk2⟩:=List.mem_map.1 hin
    cases hk2
    exact (memI_iff n ks).2 hk1
theorem lookup_sim (h:RR n A e s a w) {t:TypeId} {x i:Operand} {l j:Nat} {ks:List Int} {m:Int} (ho:o.op = .lookup t x i false) (hx:okOp n x) (hi:okOp n i) (hm:mapAt P s t x = some (l,j,ks)) (ei:ev P s 3 i = .int .i64 m) (ht:mapTy P t = true) :
    Done P n A o e a w s (.bool (memI m ks)) none:=by
  obtain ⟨ex,hg⟩:=mapAt_some hm
  obtain ⟨p,q,hvx⟩:=ev_sim (P:=P) h t hx
  obtain ⟨p2,q2,hvi⟩:=ev_sim (P:=P) h 3 hi
  rw [ex] at hvx
  rw [ei] at hvi
  simp only [VR] at hvx hvi
  obtain ⟨b,hb,hb2⟩:=hvx
  rw [pval_map] at hb2
  obtain ⟨b',es,clk,hb',h1,h2,h3,h4⟩:=h.hr.getMap hg
  rw [hb] at hb'; cases hb'
  obtain ⟨kt,el,inf,t1,t2,t3,t4⟩:=mapTy_some ht
  have hk:MapKept.IsKey (.int .i64) (.int .i64 m):=rfl
  refine Done.pure h (u:=.bool (memI m ks)) (exec_v (S:=Instr.lookup t (a.eval x) (a.eval i) false) (by unfold execOp; rw [ho]) ?_) (by simp only [VR]) (by simp)
  rw [hb2,hvi.1]
  rcases h2.find m with ⟨g1,g2,_⟩ | ⟨g1,_,_,g2,_⟩
  · simp [Instr.lookup,run_underlying t1,MapKept.run_getObj_map h1,MapKept.run_checkKey t2 hk,MapKept.run_findKey t2 g2,zero_run w t3 t4,Result.andThen,g1]
  · simp [Instr.lookup,run_underlying t1,MapKept.run_getObj_map h1,MapKept.run_checkKey t2 hk,MapKept.run_findKey t2 g2,Result.andThen,g1]
theorem Env.ren_id (e:Env):e.ren id = e:=by
  obtain ⟨rho,own,cl⟩:=e
  simp only [Env.ren,Env.mk.injEq,true_and,and_true]
  funext b
  cases own b <;> rfl
theorem RR.setMap {l i b clk:Nat} {ks ks':List Int} {es:Array MapEntry} {w':World} (h:RR n A e s a w) (hb:rhoAt e.rho l i = some b) (hg:getH s.H l i = some (.map ks)) (hw:w'.heap[b]? = some (.map es clk)) (hm:MapOK es ks') (hx:∀ k,k ≠ b → w'.heap[k]? = w.heap[k]?) :
    RR n A e { s with H:=setH s.H l i (.map ks'),wr:=(l,i) :: s.wr,als:=killOb l i s.als } a w':=by
  obtain ⟨b',es0,clk0,hb',h1,h2,h3,h4⟩:=h.hr.getMap hg
  rw [hb] at hb'; cases hb'
  refine ⟨⟨fun b' q z hz=>?_,fun b' p m hp=>?_⟩,⟨h.hr.par.setH _ _ _,fun l' i' x hgx=>?_⟩,h.fr,fun t src ht hsrc=>?_⟩
  · have hne:b' ≠ b:=by
      intro he; subst he
      rw [h4 q] at hz; cases hz
    rw [cell_of_heap (hx b' hne)]
    exact h.wok.holds b' q z hz
  · by_cases he:b' = b
    · subst he
      rw [h3] at hp
      simp only [Option.some.injEq,Prod.mk.injEq] at hp
      obtain ⟨rfl,rfl⟩:=hp
      exact ⟨#[],0,0,0,.inr ⟨rfl,rfl,_,_,hw⟩,rfl,.inl rfl⟩
    · exact (h.wok.free b' p m hp).to (hx b' he)
  · by_cases hli:l' = l ∧ i' = i
    · obtain ⟨rfl,rfl⟩:=hli
      rw [getH_setH_same _ _ _ _ _ hg] at hgx
      cases hgx
      exact ⟨b,hb,#[],0,(0,0),⟨rfl,_,_,hw,hm⟩,h3,h4,trivial⟩
    · have hne:l' ≠ l ∨ i' ≠ i:=by
        by_cases hl:l' = l
        · exact .inr fun hi=>hli ⟨hl,hi⟩
        · exact .inl hl
      rw [getH_setH_ne _ _ _ _ _ _ hne] at hgx
      obtain ⟨b2,hb2,c2,ty2,fz2,g1,g2,g3,g4⟩:=h.hr.ob l' i' x hgx
      have hbb:=h.hr.sep hb hb2 hli
      exact ⟨b2,hb2,c2,ty2,fz2,by rw [hx b2 hbb]; exact g1,g2,g3,g4⟩
  · obtain ⟨g1,g2⟩:=killOb_some hsrc
    refine (h.als t src ht g1).env (fun _ _ _ h=>h) fun l' i' q hq b2 hb2=>?_
    subst hq
    refine cell_of_heap (hx b2 (h.hr.sep hb hb2 fun hh=>?_))
    obtain ⟨rfl,rfl⟩:=hh
    simp only [Src.inOb] at g2
    rw [(beq_iff l' l').2 rfl,(beq_iff i' i').2 rfl] at g2
    cases g2
theorem MapOK.add {es:Array MapEntry} {ks:List Int} (h:MapOK es ks) {m:Int} {clk:Nat} (hm:IntKind.i64.has m):MapOK (es.push { key:=.int .i64 m,val:=.bool true,born:=clk }) (ks ++ [m]) where
  keys:=by simp [h.keys]
  vals:=fun x hx=>by
    simp only [Array.toList_push,List.mem_append,List.mem_singleton] at hx
    rcases hx with hx | rfl
    · exact h.vals x hx
    · rfl
  ok:=fun k hk=>by
    simp only [List.mem_append,List.mem_singleton] at hk
    rcases hk with hk | rfl
    · exact h.ok k hk
    · exact hm
theorem MapOK.same {es:Array MapEntry} {ks:List Int} (h:MapOK es ks) {m:Int} {j:Nat} {x:MapEntry} (hj:es[j]? = some x) (hk:x.key = .int .i64 m):MapOK (es.modify j fun e=>{ e with key:=.int .i64 m,val:=.bool true }) ks where
  keys:=by
    rw [MapKept.modify_keys j _ (fun e he=>by rw [hj] at he; cases he; exact hk.symm)]
    exact h.keys
  vals:=fun y hy=>by
    obtain ⟨k,hk'⟩:=List.getElem?_of_mem hy
    simp only [Array.getElem?_toList,Array.getElem?_modify] at hk'
    split at hk'
    · rename_i e
      subst e
      rw [hj] at hk'
      simp only [Option.map_some,Option.some.injEq] at hk'
      rw [← hk']
    · exact h.vals y (by simpa using Array.mem_of_getElem? hk')
  ok:=h.ok
theorem mapUpd_sim (h:RR n A e s a w) {t:TypeId} {x k y:Operand} {l j:Nat} {ks:List Int} {m:Int} (ho:o.op = .mapUpdate t x k y) (hx:okOp n x) (hk:okOp n k) (hy:okOp n y) (hm:mapAt P s t x = some (l,j,ks)) (ek:ev P s 3 k = .int .i64 m) (ey:ev P s 4 y = .bool true) (ht:mapTy P t = true) :
    Done P n A o e a w { s with H:=setH s.H l j (.map (addI m ks)),wr:=(l,j) :: s.wr,als:=killOb l j s.als } (.tuple []) none:=by
  obtain ⟨ex,hg⟩:=mapAt_some hm
  obtain ⟨p,q,hvx⟩:=ev_sim (P:=P) h t hx
  obtain ⟨p2,q2,hvk⟩:=ev_sim (P:=P) h 3 hk
  obtain ⟨p3,q3,hvy⟩:=ev_sim (P:=P) h 4 hy
  rw [ex] at hvx
  rw [ek] at hvk
  rw [ey] at hvy
  simp only [VR] at hvx hvk hvy
  obtain ⟨b,hb,hb2⟩:=hvx
  rw [pval_map] at hb2
  obtain ⟨b',es,clk,hb',h1,h2,h3,h4⟩:=h.hr.getMap hg
  rw [hb] at hb'; cases hb'
  obtain ⟨kt,el,inf,t1,t2,t3,t4⟩:=mapTy_some ht
  have hkey:MapKept.IsKey (.int .i64) (.int .i64 m):=rfl
  have main:∀ (es':Array MapEntry) (clk':Nat),MapOK es' (addI m ks) → (Instr.mapUpdate t (.map (some b)) (.int .i64 m) (.bool true)).run P w = .ok () { w with heap:=w.heap.setIfInBounds b (.map es' clk') } →
      Done P n A o e a w { s with H:=setH s.H l j (.map (addI m ks)),wr:=(l,j) :: s.wr,als:=killOb l j s.als } (.tuple []) none:=by
    intro es' clk' hok hr
    have hrun:(execOp a.eval o).run P w = .ok .skip { w with heap:=w.heap.setIfInBounds b (.map es' clk') }:=by
      refine exec_u (S:=Instr.mapUpdate t (a.eval x) (a.eval k) (a.eval y)) (by unfold execOp; rw [ho]) ?_
      rw [hb2,hvk.1,hvy]; exact hr
    obtain ⟨w1,w2⟩:=MapKept.heap_set (o':=.map es' clk') h1
    have hR:=RR.setMap (w':={ w with heap:=w.heap.setIfInBounds b (.map es' clk') }) h hb hg w1 hok w2
    refine ⟨e,_,.tuple #[],.inr ⟨hrun,rfl⟩,hR,by simp only [VR]; exact ⟨#[],rfl,by simp [VRs]⟩,by simp,?_,fun _ _ _ h=>h⟩
    have hgw:=Grow.write (f:=id) (w':={ w with heap:=w.heap.setIfInBounds b (.map es' clk') }) (wr:=s.wr) h.hr (fun _=>rfl) hb w2 rfl rfl rfl (by simp)
    rwa [Env.ren_id] at hgw
  rcases h2.find m with ⟨g1,g2,g3⟩ | ⟨g1,i,y',g2,g3,g4,g5⟩
  · refine main (es.push { key:=.int .i64 m,val:=.bool true,born:=clk }) (clk + 1) ?_ ?_
    · have:=h2.add (clk:=clk) hvk.2
      rwa [addI,g1,cond_false,app_eq]
    · simp [Instr.mapUpdate,run_underlying t1,MapKept.run_getObj_map h1,MapKept.run_checkKey t2 hkey,MapKept.run_findKey t2 g2,MapKept.run_setObj_map _ h1,Result.andThen]
  · refine main (es.modify i fun e=>{ e with key:=.int .i64 m,val:=.bool true }) clk ?_ ?_
    · have:=h2.same g3 g4
      rwa [addI,g1,cond_true]
    · simp [Instr.mapUpdate,run_underlying t1,MapKept.run_getObj_map h1,MapKept.run_checkKey t2 hkey,MapKept.run_findKey t2 g2,g3,g4,MapKept.run_keyThatStays hkey,MapKept.run_setObj_map _ h1,Result.andThen]
theorem isMapT_some {t:TypeId} (h:isMapT P t = true):∃ k el,P.underlying t = some (.map k el):=by
  unfold isMapT at h
  split at h
  · exact ⟨_,_,‹_›⟩
  · cases h
theorem MapOK.size {es:Array MapEntry} {ks:List Int} (h:MapOK es ks):es.size = ks.length:=by
  have:=congrArg List.length h.keys
  simpa using this
theorem mapLen_sim (h:RR n A e s a w) {c:Call} {x:Operand} {t:TypeId} (ho:o.op = .call c) (hc:c.callee = .builtin .len) (h1:c.args.toList = [x]) (h2:c.argTypes.toList = [t]) (ht:isMapT P t = true) (hx:okOp n x) {b:Bool} {s':RS} {v:AV} {l:Option Src} (hr:mapLenA P t x s = .yes b s' v l) (hb:b = true):Done P n A o e a w s' v l:=by
  subst hb
  obtain ⟨kt,el,t1⟩:=isMapT_some ht
  unfold mapLenA at hr
  split at hr
  · rename_i l' j ks hm
    simp only [Plan.yes.injEq] at hr
    obtain ⟨hle,rfl,rfl,rfl⟩:=hr
    obtain ⟨ex,hg⟩:=mapAt_some hm
    obtain ⟨p,q,hvx⟩:=ev_sim (P:=P) h t hx
    rw [ex] at hvx
    simp only [VR] at hvx
    obtain ⟨b,hb,hb2⟩:=hvx
    rw [pval_map] at hb2
    obtain ⟨b',es,clk,hb',k1,k2,k3,k4⟩:=h.hr.getMap hg
    rw [hb] at hb'; cases hb'
    rw [lenN_eq,ble_iff] at hle
    refine Done.pure h (u:=goInt es.size) (len_run ho hc h1 h2 ?_) ?_ (by simp)
    · rw [hb2]
      simp [Builtin.len_,run_underlying t1,MapKept.run_getObj_map k1]
    · rw [k2.size,lenN_eq]; exact VR.mkInt (nat_has hle)
  · cases hr
theorem clear_sim (h:RR n A e s a w) {c:Call} {x:Operand} {t:TypeId} (ho:o.op = .call c) (hc:clearOf P c = some (x,t)) (hx:∀ y ∈ c.args.toList,okOp n y) {b:Bool} {s':RS} {v:AV} {l:Option Src} (hr:clearA P t x s = .yes b s' v l) (hb:b = true):Done P n A o e a w s' v l:=by
  subst hb
  unfold clearOf at hc
  split at hc
  · rename_i x' t' hc0 h1 h2
    obtain ⟨ht,hc⟩:=cond_none hc
    simp only [Option.some.injEq,Prod.mk.injEq] at hc
    obtain ⟨rfl,rfl⟩:=hc
    obtain ⟨kt,el,t1⟩:=isMapT_some ht
    unfold clearA at hr
    split at hr
    · rename_i l' j ks hm
      cases hmt:mapTy P t' with
      | false=>rw [hmt] at hr; cases hr
      | true =>
        rw [hmt] at hr
        simp only [cond_true,Plan.yes.injEq] at hr
        obtain ⟨_,rfl,rfl,rfl⟩:=hr
        obtain ⟨ex,hg⟩:=mapAt_some hm
        obtain ⟨p,q,hvx⟩:=ev_sim (P:=P) h t' (hx x' (by simp [h1]))
        rw [ex] at hvx
        simp only [VR] at hvx
        obtain ⟨b,hb,hb2⟩:=hvx
        rw [pval_map] at hb2
        obtain ⟨b',es,clk,hb',k1,k2,k3,k4⟩:=h.hr.getMap hg
        rw [hb] at hb'; cases hb'
        have hrun:(execOp a.eval o).run P w = .ok (.value (.tuple #[])) { w with heap:=w.heap.setIfInBounds b (.map #[] clk) }:=by
          refine exec_builtin (S:=Builtin.clear_ #[t'] o.type #[a.eval x']) ho hc0 (fun cs=>?_) ?_
          · rw [toList1 h1,toList1 h2]; simp [builtin]
          · rw [hb2]
            simp [Builtin.clear_,run_underlying t1,MapKept.run_getObj_map k1,MapKept.run_setObj_map _ k1,Result.andThen]
        obtain ⟨w1,w2⟩:=MapKept.heap_set (o':=.map #[] clk) k1
        have hR:=RR.setMap (w':={ w with heap:=w.heap.setIfInBounds b (.map #[] clk) }) h hb hg w1 MapOK.nil w2
        refine ⟨e,_,.tuple #[],.inl hrun,hR,by simp only [VR]; exact ⟨#[],rfl,by simp [VRs]⟩,by simp,?_,fun _ _ _ h=>h⟩
        have hgw:=Grow.write (f:=id) (w':={ w with heap:=w.heap.setIfInBounds b (.map #[] clk) }) (wr:=s.wr) h.hr (fun _=>rfl) hb w2 rfl rfl rfl (by simp)
        rwa [Env.ren_id] at hgw
    · cases hr
  · cases hc
end Go.Vm
namespace Go.Vm
variable {P:Program} {n:Nat} {A:AbsR} {e:Env} {s:RS} {a:Act} {w:World} {o:Oper}
theorem newObV_done {o:Oper} {l:List Ob} {S:Stack} {f:Pl → Pl} {cs:List AV} {arr:Array Value} {V:Value} {off:Nat} {ty:TypeId} (h:RR n A (e.ren f) s a w) (hf:∀ p,f (.hid p) = .hid p) (hH:s.H = l :: S)
    (hrun:(execOp a.eval o).run P w = .ok (.value V) (w.alloc (.cells arr ty))) (hV:V = pval w.heap.size off)
    (hc:CellsR (e.ren f) 0 (lenN l) cs arr.toList) (hlow:arr.size < mapO) :
    Done P n A o e a w { s with H:=app l [.cells cs] :: S } (.ptr 0 (lenN l) off) none:=by
  have hext:=Ext.newRow (e:=e.ren f) (w:=w) (w':=w.alloc (.cells arr ty)) (g:=w.heap.size) (c:=arr) (m:=0) (p:=some (.ob 0 (lenN l))) rfl rfl rfl rfl (by simp [World.alloc,-World.alloc_eq]) (fun b hb=>alloc_old w _ b hb)
  have hwok:=WOK.newRow (c:=arr) (m:=0) (p:=some (.ob 0 (lenN l))) h.wok rfl (fun b hb=>alloc_old w (.cells arr ty) b hb) (alloc_new w _) (.inl rfl) (fun _ _ _=>hlow)
  have h1:=h.ext hext hwok
  have h2:=RR.push (g:=w.heap.size) (c:=arr) (y:=.cells cs) h1 hH (by simp [Env.newRow]) (fun o=>by simp [Env.newRow]) (ty:=ty) (fz:=(0,0)) (alloc_new w _) ⟨hc.1,fun o av u' g1 g2=>VR.ext (hext.dr 0) (h.wok.dr 0) (hc.2 o av u' g1 g2)⟩
  have hpar:Par e.rho (l :: S):=by have:=h.hr.par; rw [hH] at this; exact this
  refine ⟨_,_,_,.inl hrun,h2,?_,by simp,?_,?_⟩
  · simp only [VR]; exact ⟨w.heap.size,pushRho_new _ hpar,hV⟩
  · have g1:=Grow.ren (f:=f) hf e w s.wr
    have g2:=hext.grow h.wok h.hr s.wr
    have g3:=Grow.push ((e.ren f).newRow w.heap.size arr 0 (some (.ob 0 (lenN l)))) (w.alloc (.cells arr ty)) w.heap.size s.wr
    exact (g1.trans g2 (fun _ _ _ h=>h) (fun _ _ h=>h)).trans g3 (hext.rhoLe) (fun _ _ h=>h)
  · intro l' i' b hb
    exact Env.push_le _ _ _ _ _ hb
theorem rowAt_some {t:TypeId} {x:Operand} {l j m:Nat} (h:rowAt P s t x = some (l,j,m)):∃ el off,P.underlying t = some (.slice el) ∧ ev P s t x = .ptr l j off ∧ (∀ b,pval b off = .slice (some ⟨b,0,none⟩) m m) ∧ m < mapO ∧ sizeB P el = 1 ∧ okT P el = true:=by
  unfold rowAt at h
  split at h
  · rename_i el l' j' off ht ex
    obtain ⟨hc,h⟩:=cond_none h
    simp only [Option.some.injEq,Prod.mk.injEq] at h
    obtain ⟨rfl,rfl,rfl⟩:=h
    simp only [Bool.and_eq_true,beq_iff] at hc
    refine ⟨el,off,ht,ex,fun b=>?_,Nat.le_of_ble_eq_true hc.2.1,hc.2.2.1,hc.2.2.2⟩
    rw [pval_row hc.1]
  · cases h
theorem rowIdx_sim (h:RR n A e s a w) {q:Nat × Nat × Nat} {t:TypeId} {x i:Operand} (ho:o.op = .indexAddr t x i) (hx:okOp n x) (hi:okOp n i) {b:Bool} {s':RS} {v:AV} {l:Option Src} (hq:rowAt P s t x = some q) (hr:rowIdxA P t x i s = .yes b s' v l) (hb:b = true):Done P n A o e a w s' v l:=by
  subst hb
  unfold rowIdxA at hr
  split at hr
  · rename_i l' j m hrow
    split at hr
    case h_2=>cases hr
    rename_i ki z ei
    simp only [Plan.yes.injEq,Bool.and_eq_true,decide_eq_true_eq] at hr
    obtain ⟨⟨z0,z1⟩,rfl,rfl,rfl⟩:=hr
    obtain ⟨el,off,ht,ex,hpv,hlow,hsz,hel⟩:=rowAt_some hrow
    obtain ⟨p,q,hvx⟩:=ev_sim (P:=P) h t hx
    obtain ⟨p2,q2,hvi⟩:=ev_sim (P:=P) h 3 hi
    rw [ex] at hvx
    rw [ei] at hvi
    simp only [VR] at hvx hvi
    obtain ⟨bb,hb1,hb2⟩:=hvx
    rw [hpv] at hb2
    obtain ⟨d,hd⟩:=okT_iff hel
    refine Done.pure h (u:=.pointer (some ⟨bb,0 + z.toNat * 1,none⟩)) (exec_v (S:=Instr.indexAt t (a.eval x) (a.eval i)) (by unfold execOp; rw [ho]) ?_) ?_ (by simp)
    · rw [hb2,hvi.1,run_indexAt_slice w t _ _ _ _ _ (by rw [elem_of ht]; exact ht),elem_of ht,if_pos ⟨z0,z1⟩,sizeOf_run w hd,hsz]
      simp only [Result.andThen_ok,Addr.add_eq]
    · simp only [VR]
      refine ⟨bb,hb1,?_⟩
      rw [Nat.zero_add,Nat.mul_one,pval_low (by omega)]
  · rename_i hno; rw [hq] at hno; cases hno
theorem rowLen_sim (h:RR n A e s a w) {c:Call} {x:Operand} {t:TypeId} (ho:o.op = .call c) (hc:rowLen P c = some (x,t)) (hx:∀ y ∈ c.args.toList,okOp n y) {b:Bool} {s':RS} {v:AV} {l:Option Src} (hr:rowLenA P t x s = .yes b s' v l) (hb:b = true):Done P n A o e a w s' v l:=by
  subst hb
  unfold rowLen at hc
  split at hc
  · rename_i x' t' hc0 h1 h2
    obtain ⟨_,hc⟩:=cond_none hc
    simp only [Option.some.injEq,Prod.mk.injEq] at hc
    obtain ⟨rfl,rfl⟩:=hc
    unfold rowLenA at hr
    split at hr
    · rename_i l' j m hrow
      simp only [Plan.yes.injEq] at hr
      obtain ⟨hm,rfl,rfl,rfl⟩:=hr
      obtain ⟨el,off,ht,ex,hpv,hlow,hsz,hel⟩:=rowAt_some hrow
      obtain ⟨p,q,hvx⟩:=ev_sim (P:=P) h t' (hx x' (by simp [h1]))
      rw [ex] at hvx
      simp only [VR] at hvx
      obtain ⟨bb,hb1,hb2⟩:=hvx
      rw [hpv] at hb2
      rw [ble_iff] at hm
      refine Done.pure h (u:=goInt m) (len_run ho hc0 h1 h2 ?_) (VR.mkInt (nat_has (by simp only [maxInt]; omega))) (by simp)
      rw [hb2,run_len_slice (P:=P) w _ _ _ _ _ (by rw [elem_of ht]; exact ht)]
    · split at hr
      · rename_i el cs lv ht ex
        simp only [Plan.yes.injEq] at hr
        obtain ⟨_,rfl,rfl,rfl⟩:=hr
        obtain ⟨p,q,hvx⟩:=ev_sim (P:=P) h t' (hx x' (by simp [h1]))
        rw [ex] at hvx
        simp only [VR] at hvx
        obtain ⟨⟨ad,len,cap,g1,g2,g3,g4,_⟩,_⟩:=hvx
        refine Done.pure h (u:=goInt len) (len_run ho hc0 h1 h2 ?_) (by rw [g2]; exact VR.mkInt (nat_has (by omega))) (by simp)
        rw [g1,run_len_slice (P:=P) w _ _ _ _ _ (by rw [elem_of ht]; exact ht)]
      · cases hr
  · cases hc
set_option maxHeartbeats 1000000 in
theorem buildRow_core (h:RR n A e s a w) {t el:TypeId} {len:Nat} {parts:Array (Nat × Operand)} {zs cs:List AV} (ho:o.op = .buildSlice t len parts) (hx:∀ p ∈ parts.toList,okOp n p.2) (ht:P.underlying t = some (.slice el)) (hz:zeros P el = some zs)
    (hfill:fillParts (fun i=>some (i * 1,1)) (repApp len zs) (zipParts (mapN (·.1) parts.toList) (mapN (fun p=>strip (ev P s el p.2)) parts.toList)) = some cs) (hs:solids (mapN (fun p=>strip (ev P s el p.2)) parts.toList) = true) (c1:lenN zs = 1) (c2:sizeB P el = 1) (c3:okT P el = true) (c4:len ≤ 4096) :
    ∃ arr,(Instr.buildSlice t len (parts.map fun (i,x)=>(i,a.eval x))).run P w = .ok (.slice (some ⟨w.heap.size,0,none⟩) len len) (w.alloc (.cells arr el)) ∧ VRs e (some fun j=>.io 0 (j + 1)) 0 cs arr.toList ∧ cs.length = len ∧ arr.size = len:=by
  rw [lenN_eq] at c1
  obtain ⟨i,z,g1,g2,g3⟩:=zeros_info hz
  obtain ⟨d,hd⟩:=okT_iff c3
  have hzl:zs.length = z.cells.size:=by have:=constCells_length g3; simpa using this
  have hzero:VRs e (some fun j=>.io 0 (j + 1)) 0 (repApp len zs) ((Array.range (len * 1)).map (((if len * 1 = 0 then #[] else z.cells):Array Value)[· % ((if len * 1 = 0 then #[] else z.cells):Array Value).size]!)).toList:=by
    rw [repApp_eq]
    refine VRs.of (by simp [c1]) fun i x v hx hv=>?_
    have hi:i < len * 1:=by
      rcases Nat.lt_or_ge i (len * 1) with h' | h'
      · exact h'
      · rw [List.getElem?_eq_none (by simp [c1]; omega)] at hx; cases hx
    have hne:¬ (len * 1 = 0):=by omega
    rw [rep_get _ _ _ (by rw [c1]; exact hi)] at hx
    simp only [if_neg hne,Array.toList_map,List.getElem?_map,Array.toList_range,List.getElem?_range hi,Option.map_some,Option.some.injEq] at hv
    have hk:i % zs.length < z.cells.size:=by
      rw [← hzl]; refine Nat.mod_lt _ ?_
      omega
    obtain ⟨u,k1,k2⟩:=(constCells_sim (e:=e) _ _ _ 0 g3).get _ x hx
    have:v = u:=by
      rw [← hv]
      have:z.cells[i % zs.length]? = some u:=by simpa using k1
      rw [hzl] at this hk
      rw [getElem!_pos z.cells _ hk]
      rw [Array.getElem?_eq_getElem hk] at this
      exact Option.some.inj this
    subst this
    exact (show VR e none none x v by simpa using k2).weak
  have hrel:∀ (j q q':Nat) y u off m,(zipParts (mapN (·.1) parts.toList) (mapN (fun p=>strip (ev P s el p.2)) parts.toList))[j]? = some (q,y) → (parts.map fun p=>(p.1,a.eval p.2)).toList[j]? = some (q',u) → some (q * 1,1) = some (off,m) → q' = q ∧ some (q * 1,1) = some (off,m) ∧ PartR e off y u:=by
    intro j q q' y u off m hy hu hoff
    obtain ⟨e1,e2⟩:=zipParts_get _ _ _ _ _ hy
    have hsol:=solids_get _ _ _ hs e2
    rw [mapN_eq,List.getElem?_map] at e1 e2
    simp only [Array.toList_map,List.getElem?_map] at hu
    cases hp:parts.toList[j]? with
    | none=>rw [hp] at hu; cases hu
    | some p =>
      rw [hp] at e1 e2 hu
      simp only [Option.map_some,Option.some.injEq,Prod.mk.injEq] at e1 e2 hu
      obtain ⟨rfl,rfl⟩:=hu
      subst e1
      refine ⟨rfl,hoff,?_⟩
      have hv:=ev_strip (P:=P) h el (hx p (List.mem_of_getElem? hp))
      rw [e2] at hv
      have hv':VR e (some (.io 0 0)) (some fun j=>.io 0 (j + 1)) y (a.eval p.2):=hv.weak
      obtain ⟨k1,k2,k3⟩:=solid_cells hsol hv'
      have hv0:∀ (m:Nat) (y':AV) (z:Value),(cellsOf y)[m]? = some y' → (a.eval p.2).cells.toList[m]? = some z → VR e none none y' z:=by
        intro m y' z hy' hz'
        by_cases hag:∃ cs,y = .agg cs
        · obtain ⟨cs,rfl⟩:=hag
          simp only [VR] at hv
          obtain ⟨arr,e3,e4⟩:=hv
          rw [e3] at hz'
          obtain ⟨u',e5,e6⟩:=e4.get m y' hy'
          have hz'':arr.toList[m]? = some z:=by simpa only [Value.cells] using hz'
          rw [hz''] at e5; cases e5
          simpa using e6
        · have hl:leafy y = true:=by cases y <;> first | exact hsol | exact absurd ⟨_,rfl⟩ hag
          have hcy:cellsOf y = [y]:=by cases y <;> first | rfl | exact absurd ⟨_,rfl⟩ hag
          obtain ⟨_,q2⟩:=leafy_one hl hv
          rw [hcy] at hy'
          rw [q2] at hz'
          cases m with
          | zero=>simp at hy' hz'; subst hy'; subst hz'; exact hv
          | succ m=>simp at hy'
      exact ⟨k1,fun m y' z hy' hz'=>(hv0 m y' z hy' hz').weak⟩
  obtain ⟨arr,k1,k2⟩:=fill_sim (offs:=fun i=>some (i * 1,1)) (place:=fun i=>some (i * 1,1)) (zipParts (mapN (·.1) parts.toList) (mapN (fun p=>strip (ev P s el p.2)) parts.toList)) (parts.map fun p=>(p.1,a.eval p.2)).toList (repApp len zs) _ cs hfill
    (by rw [zipParts_length _ _ (by simp [mapN_eq])]; simp [mapN_eq]) hrel hzero
  have hcsl:cs.length = len:=by
    have:∀ (ps:List (Nat × AV)) (c r:List AV),fillParts (fun i=>some (i * 1,1)) c ps = some r → r.length = c.length:=by
      intro ps
      induction ps with
      | nil=>intro c r hcr; simp only [fillParts,Option.some.injEq] at hcr; rw [hcr]
      | cons p ps ih =>
        intro c r hcr
        obtain ⟨i,y⟩:=p
        simp only [fillParts] at hcr
        obtain ⟨_,hcr⟩:=cond_none hcr
        rw [ih _ _ hcr,putCells_length]
    rw [this _ _ _ hfill,repApp_eq,rep_length,c1,Nat.mul_one]
  have harr:arr.size = len:=by have:=k2.len; rw [hcsl] at this; simpa using this.symm
  have hsize:=sizeOf_run (P:=P) w hd
  rw [c2] at hsize
  have hbig:¬ (len * 1 > 2 ^ 24):=by omega
  have hrun:(Instr.buildSlice t len (parts.map fun (i,x)=>(i,a.eval x))).run P w = .ok (.slice (some ⟨w.heap.size,0,none⟩) len len) (w.alloc (.cells arr el)):=by
    unfold Instr.buildSlice
    have hp:(parts.map fun (i,x)=>(i,a.eval x)).toList = (parts.map fun p=>(p.1,a.eval p.2)).toList:=rfl
    by_cases h0:len * 1 = 0
    · simp only [if_pos h0] at k1
      simp only [Sem.run_bind,run_underlying ht,Result.andThen_ok,hsize,if_neg hbig,if_pos h0,Sem.run_pure]
      rw [hp,k1]
      simp [newRow]
    · simp only [if_neg h0] at k1
      simp only [Sem.run_bind,run_underlying ht,Result.andThen_ok,hsize,if_neg hbig,if_neg h0,Sem.run_pure,zero_run w g1 g2]
      rw [hp,k1]
      simp [newRow]
  exact ⟨arr,hrun,k2,hcsl,harr⟩
set_option maxHeartbeats 1000000 in
theorem buildRow_sim (h:RR n A e s a w) {t:TypeId} {len:Nat} {parts:Array (Nat × Operand)} (ho:o.op = .buildSlice t len parts) (hx:∀ p ∈ parts.toList,okOp n p.2) {b:Bool} {s':RS} {v:AV} {l:Option Src} (hr:buildRowA P t len parts.toList s = .yes b s' v l) (hb:b = true):Done P n A o e a w s' v l:=by
  subst hb
  unfold buildRowA at hr
  split at hr
  · rename_i el ht
    split at hr
    · rename_i l S zs hH hz
      split at hr
      · rename_i cs hfill
        simp only [Plan.yes.injEq,Bool.and_eq_true,beq_iff,ble_iff] at hr
        obtain ⟨⟨hs,hp,c1,c2,c3,c4⟩,rfl,rfl,rfl⟩:=hr
        obtain ⟨arr,hrun,k2,hcsl,harr⟩:=buildRow_core (P:=P) h ho hx ht hz hfill hs c1 c2 c3 c4
        refine newObV_done (f:=id) (off:=rowO + len) (by rw [Env.ren_id]; exact h) (fun _=>rfl) hH (exec_v (S:=Instr.buildSlice t len (parts.map fun (i,x)=>(i,a.eval x))) (by unfold execOp; rw [ho]) hrun) ?_ ?_ (by rw [harr]; simp only [mapO]; omega)
        · rw [pval_row (by rw [ble_iff]; omega),Nat.add_sub_cancel_left]
        · rw [Env.ren_id]
          refine ⟨by rw [hcsl]; simpa using harr.symm,fun o av u m1 m2=>?_⟩
          obtain ⟨u',q1,q2⟩:=k2.get o av m1
          rw [m2] at q1; cases q1
          have hdr:e.dr 0 = e:=by simp [Env.dr]
          rw [hdr]
          rcases ptrs_get hp m1 with ⟨l',i',o',rfl⟩ | rfl
          · simpa only [VR] using q2
          · simpa only [VR] using q2
      · cases hr
    · cases hr
  · cases hr
set_option maxHeartbeats 1000000 in
theorem buildRowD_sim (h:RR n A e s a w) {t:TypeId} {len:Nat} {parts:Array (Nat × Operand)} (ho:o.op = .buildSlice t len parts) (hx:∀ p ∈ parts.toList,okOp n p.2) {b:Bool} {s':RS} {v:AV} {l:Option Src} (hr:buildRowD P t len parts.toList s = .yes b s' v l) (hb:b = true):Done P n A o e a w s' v l:=by
  subst hb
  unfold buildRowD at hr
  split at hr
  · rename_i el ht
    split at hr
    · rename_i zs hz
      split at hr
      · rename_i cs hfill
        simp only [Plan.yes.injEq,Bool.and_eq_true,beq_iff,ble_iff] at hr
        obtain ⟨⟨hs,hp,c1,c2,c3,c4⟩,rfl,rfl,rfl⟩:=hr
        obtain ⟨arr,hrun,k2,hcsl,harr⟩:=buildRow_core (P:=P) h ho hx ht hz hfill hs c1 c2 c3 c4
        refine newRow_doneG (R:=ptrRw) (k:=1) (xs:=cs) (V:=.row cs .full) (p:=none) (m:=len * 1) (el:=el) (arr:=arr) ptrRw_mono (fun h=>(ptrRw_len h).1) (fun h1 h2=>by simp only [VR]; exact ⟨of_ptrRw h1,h2⟩) h (w.alloc (.cells arr el)) rfl rfl rfl (by simp [World.alloc,-World.alloc_eq]) (fun b hb=>alloc_old w _ b hb) (alloc_new w _) (exec_v (S:=Instr.buildSlice t len (parts.map fun (i,x)=>(i,a.eval x))) (by unfold execOp; rw [ho]) hrun) hcsl (Nat.le_refl _) (by simp only [maxInt]; omega) rfl (by rw [harr,Nat.mul_one]) (fun i x hi=>?_) (.inl (.inr rfl)) (fun _=>rfl)
        obtain ⟨u,q1,q2⟩:=k2.get i x hi
        refine ⟨[u],⟨ptrs_get hp hi,u,rfl,?_⟩,fun j u' hu=>?_⟩
        · rcases ptrs_get hp hi with ⟨l',i',o',rfl⟩ | rfl
          · simpa only [VR] using q2
          · simpa only [VR] using q2
        · cases j with
          | zero=>simp at hu; subst hu; rw [Nat.mul_one,Nat.add_zero]; simpa using q1
          | succ j=>simp at hu
      · cases hr
    · cases hr
  · cases hr
end Go.Vm
namespace Go.Vm
variable {P:Program} {n:Nat} {A:AbsR} {e:Env} {s:RS} {a:Act} {w:World} {o:Oper} {cf:CallK} {cfg:Cfg}
def opdB (n:Nat):Operand → Bool
  | .tmp t=>Nat.blt t n
  | _=>true
def opdsB (n:Nat):List Operand → Bool
  | []=>true
  | x :: r=>opdB n x && opdsB n r
def opdoB (n:Nat):Option Operand → Bool
  | none=>true
  | some x=>opdB n x
def opB (n:Nat):Op → Bool
  | .move x | .assign x | .box _ x | .load _ x | .nilCheck x | .unOp _ _ x | .convert _ _ x | .fieldAddr _ x _ | .field _ x _ | .extract x _=>opdB n x
  | .store _ x y | .binOp _ _ x y _ | .makeSlice _ x y | .indexAddr _ x y | .index _ x y | .lookup _ x y _=>opdB n x && opdB n y
  | .mapUpdate _ m k x=>opdB n m && (opdB n k && opdB n x)
  | .pick c x y=>opdB n c && (opdB n x && opdB n y)
  | .build _ ps=>opdsB n (mapN (·.2) ps.toList)
  | .buildSlice _ _ ps=>opdsB n (mapN (·.2) ps.toList)
  | .makeFunc _ f c=>opdsB n f.toList && opdsB n c.toList
  | .slice _ x lo hi mx=>opdB n x && (opdoB n lo && (opdoB n hi && opdoB n mx))
  | .call c=>opdsB n c.args.toList && (match c.callee with | .value x=>opdB n x | _=>true)
  | _=>true
theorem opdB_ok {x:Operand} (h:opdB n x = true):okOp n x:=by
  cases x with
  | tmp t=>exact (blt_iff _ _).1 h
  | _=>trivial
theorem opdsB_ok:∀ {xs:List Operand},opdsB n xs = true → ∀ x ∈ xs,okOp n x
  | [],_,x,hx=>by cases hx
  | y :: ys,h,x,hx=>by
    simp only [opdsB,Bool.and_eq_true] at h
    rcases List.mem_cons.1 hx with rfl | hx
    · exact opdB_ok h.1
    · exact opdsB_ok h.2 x hx
theorem opdoB_ok {x:Option Operand} (h:opdoB n x = true):okOpo n x:=by
  cases x with
  | none=>trivial
  | some y=>exact opdB_ok h
theorem partsB_ok {ps:List (Nat × Operand)} (h:opdsB n (mapN (·.2) ps) = true):∀ p ∈ ps,okOp n p.2:=fun p hp=>opdsB_ok h _ (by rw [mapN_eq]; exact List.mem_map.2 ⟨p,hp,rfl⟩)
def After (P:Program) (n:Nat) (A:AbsR) (o:Oper) (e:Env) (a:Act) (w:World) (s':RS) (v:AV) (l:Option Src):Prop :=
  ∀ (next:Act → World → Prop) (Q:Exit → Act → World → Prop),(∀ e' w' u,RR n A e' s' a w' → VR e' (some (.io 0 0)) (some fun j=>.io 0 (j + 1)) v u → (∀ src,l = some src → AlV n e' w' a u src) → Grow e w e' w' s'.wr → RhoLe e e' → next (a.put o.dst u) w') → o.wp P a w next Q
theorem Done.after {v:AV} {l:Option Src} {s':RS} (h:Done P n A o e a w s' v l):After P n A o e a w s' v l:=by
  intro next Q hk
  obtain ⟨e',w',u,h1,h2,h3,h4,h5,h6⟩:=h
  unfold Oper.wp
  rcases h1 with h1 | ⟨h1,rfl⟩
  · rw [h1]; exact hk e' w' u h2 h3 h4 h5 h6
  · rw [h1]; exact hk e' w' undef h2 h3 h4 h5 h6
theorem selR_from {β:Type} {n:Int} {k:AV → Option β}:∀ (vs:List AV) (j:Nat),selR n j vs k = match (if (j:Int) ≤ n then vs[(n - j).toNat]? else none) with | some v=>k v | none=>none
  | [],j=>by simp [selR]
  | v :: r,j=>by
    unfold selR
    by_cases h:n = (j:Int)
    · subst h
      simp
    · rw [decide_eq_false h,cond_false,selR_from r (j + 1)]
      by_cases h2:(j:Int) ≤ n
      · rw [if_pos h2,if_pos (show ((j + 1:Nat):Int) ≤ n by omega),show (n - (j:Int)).toNat = (n - ((j + 1:Nat):Int)).toNat + 1 by omega]
        rfl
      · rw [if_neg h2,if_neg (show ¬ ((j + 1:Nat):Int) ≤ n by omega)]
theorem selR_at {β:Type} {n:Int} {vs:List AV} {k:AV → Option β}:selR n 0 vs k = match at? vs n with | some v=>k v | none=>none:=by
  rw [selR_from]
  unfold at?
  by_cases h:(0:Int) ≤ n
  · rw [if_pos (by simpa using h),if_pos h]; simp
  · rw [if_neg (by simpa using h),if_neg h]
def run1 (cf:CallK) (cfg:Cfg) (dr:Bool):Plan → Option (RS × AV × Option Src)
  | .no=>none
  | .yes c s v l=>bif c then some (s,v,l) else none
  | .two c s a b=>some (s,(bif c then a else b),none)
  | .elt _ o s f=>match o with | some x=>some (s,f x,none) | none=>none
  | .sel n s vs=>match at? vs n with | some v=>some (s,v,none) | none=>none
  | .call g args s=>match cf g args s.H some with
    | some (v,w,H')=>bif barred cfg.nl dr w H' s then none else some ({ s with H:=H',wr:=app w s.wr,als:=killWr w s.als },(bif cfg.ownRes g then v else strip v),none)
    | none=>none
def kindOf:Plan → Nat
  | .no=>0
  | .yes ..=>1
  | .two ..=>2
  | .elt ..=>3
  | .sel ..=>5
  | .call ..=>4
def calleeOf (s:RS):Operand → Option (Nat × List AV × List AV)
  | .func g=>some (g,[],[])
  | .tmp t=>match s.fr t with | .func g a c=>some (g,a,c) | _=>none
  | _=>none
def PlanOK (P:Program) (cfg:Cfg) (n:Nat) (A:AbsR) (o:Oper) (e:Env) (a:Act) (w:World) (s:RS):Plan → Prop
  | .no=>True
  | .yes c s' v l=>c = true → Done P n A o e a w s' v l
  | .two c s' va vb=>Done P n A o e a w s' (if c = true then va else vb) none
  | .elt _ ot s' f=>∀ x,ot = some x → Done P n A o e a w s' (f x) none
  | .sel m s' vs=>∀ x,at? vs m = some x → Done P n A o e a w s' x none
  | .call g args s'=>∃ c f first cap vs,o.op = .call c ∧ c.callee = .value f ∧ calleeOf s f = some (g,first,cap) ∧ takeArgs P (bif Nat.beq (lenN first) 0 then cfg.ownArgs g else []) s c.argTypes.toList 0 c.args.toList = (vs,s') ∧ args = app first (app vs cap)
theorem PlanOK.yes {c:Bool} {s':RS} {v:AV} {l:Option Src} (h:c = true → Done P n A o e a w s' v l):PlanOK P cfg n A o e a w s (.yes c s' v l):=h
theorem binop_ok (h:RR n A e s a w) {op:BinOp} {t ty tx tY:TypeId} {x y:Operand} (ho:o.op = .binOp op t x y ty) (hx:okOp n x) (hy:okOp n y) (htx:tx = t) (hty:(op = .shl ∨ op = .shr) ∧ tY = ty ∨ (op ≠ .shl ∧ op ≠ .shr) ∧ tY = t):PlanOK P cfg n A o e a w s (binop P op t (ev P s tx x) (ev P s tY y) s):=by
  subst htx
  obtain ⟨p1,q1,hvx⟩:=ev_sim (P:=P) h tx hx
  obtain ⟨p2,q2,hvy⟩:=ev_sim (P:=P) h tY hy
  unfold binop
  split
  · rename_i ki u kj v eu ev'
    rw [eu] at hvx; rw [ev'] at hvy
    simp only [VR] at hvx hvy
    split
    · intro hc
      exact (shift_sim h ho hvx.1 hvy.1 hvx.2 hc).1 rfl
    · intro hc
      exact (shift_sim h ho hvx.1 hvy.1 hvx.2 hc).2 rfl
    · rename_i h1 h2
      have hop:op ≠ .shl ∧ op ≠ .shr:=⟨fun h=>h1 h,fun h=>h2 h⟩
      split
      · trivial
      · rename_i hk _
        obtain rfl:=hk.down
        have key:∀ c s' v' l,intop op ki u v s = .yes c s' v' l → PlanOK P cfg n A o e a w s (.yes c s' v' l):=fun c s' v' l hpl hc=>intop_sim h ho hop hvx.1 hvy.1 hvx.2 hvy.2 hpl hc
        cases hpl:intop op ki u v s with
        | yes c s' v' l=>exact key c s' v' l hpl
        | no=>trivial
        | two c s' va vb=>cases op <;> simp [intop] at hpl
        | elt T ot s' f=>cases op <;> simp [intop] at hpl
        | sel m s' vs=>cases op <;> simp [intop] at hpl
        | call g as s'=>cases op <;> simp [intop] at hpl
  · rename_i u v eu ev'
    rw [eu] at hvx; rw [ev'] at hvy
    simp only [VR] at hvx hvy
    obtain ⟨z1,hz1,hz2,hz3⟩:=hvx
    obtain ⟨z2,hy1,hy2,hy3⟩:=hvy
    have hs:=strop_sim (P:=P) (op:=op) h ho hz1 hy1
    rw [hz2,hy2] at hs
    split
    · intro hc; exact hs.1 rfl (by simp only [decide_eq_true_eq] at hc; rw [← hz2,← hy2,bytesOf_length,bytesOf_length] at hc; exact hc)
    · intro _; exact hs.2.1 rfl
    · intro _; exact hs.2.2 rfl
    · trivial
  · rename_i u v eu ev'
    rw [eu] at hvx; rw [ev'] at hvy
    simp only [VR] at hvx hvy
    split
    · rename_i ht; intro _; exact (boolop_sim h ho hvx hvy ht).1 rfl
    · rename_i ht; intro _; exact (boolop_sim h ho hvx hvy ht).2 rfl
    · trivial
  · rename_i u v eu ev'
    have hst:∀ r,(flatStruct P tx && (plainInts u v && kindsB P (fieldsL P tx) u) && Nat.beq (lenN u) (numFields P tx)) = true → cellsEq u v = some r → tY = tx → (op = .eql → Done P n A o e a w s (.bool r) none) ∧ (op = .neq → Done P n A o e a w s (.bool (!r)) none):=by
      intro r hc hr ht
      subst ht
      simp only [Bool.and_eq_true,beq_iff] at hc
      exact structeq_sim h ho hx hy eu ev' hc.1.1 hc.1.2.1 hc.1.2.2 hc.2 hr
    split
    · rename_i hc hr
      intro _
      exact (hst _ hc hr (by rcases hty with ⟨h1,_⟩ | ⟨_,h1⟩; rcases h1 with h1 | h1 <;> cases h1; exact h1)).1 rfl
    · rename_i hc hr
      intro _
      exact (hst _ hc hr (by rcases hty with ⟨h1,_⟩ | ⟨_,h1⟩; rcases h1 with h1 | h1 <;> cases h1; exact h1)).2 rfl
    · trivial
  · rename_i eu ev'
    rw [eu] at hvx; rw [ev'] at hvy
    simp only [VR] at hvx hvy
    unfold nilEq
    split
    · rename_i ht; intro _; exact (nilop_sim h ho hvx hvy ht (.inl rfl)).1 rfl
    · rename_i ht; intro _; exact (nilop_sim h ho hvx hvy ht (.inl rfl)).2 rfl
    · trivial
  · rename_i l i off eu ev'
    rw [eu] at hvx; rw [ev'] at hvy
    simp only [VR] at hvx hvy
    obtain ⟨b,_,hb⟩:=hvx
    cases hlo:Nat.blt off mapO with
    | false=>trivial
    | true =>
    rw [pval_lt hlo] at hb
    simp only [cond_true]
    unfold nilEq
    split
    · rename_i ht; intro _; exact (nilop_sim h ho hb hvy ht (.inr rfl)).1 rfl
    · rename_i ht; intro _; exact (nilop_sim h ho hb hvy ht (.inr rfl)).2 rfl
    · trivial
  · rename_i l i off eu ev'
    rw [eu] at hvx; rw [ev'] at hvy
    simp only [VR] at hvx hvy
    obtain ⟨b,_,hb⟩:=hvy
    cases hlo:Nat.blt off mapO with
    | false=>trivial
    | true =>
    rw [pval_lt hlo] at hb
    simp only [cond_true]
    unfold nilEq
    split
    · rename_i ht; intro _; exact (nilop_sim h ho hvx hb ht (.inl rfl)).1 rfl
    · rename_i ht; intro _; exact (nilop_sim h ho hvx hb ht (.inl rfl)).2 rfl
    · trivial
  · rename_i eu ev'
    rw [eu] at hvx; rw [ev'] at hvy
    simp only [VR] at hvx hvy
    have h1:a.eval x = .slice none 0 0:=hvx.2
    have h2:a.eval y = .slice none 0 0:=hvy.2
    unfold nilEqS
    split
    · rename_i ht; intro _; exact (nilopS_sim h ho h1 h2 ht).1 rfl
    · rename_i ht; intro _; exact (nilopS_sim h ho h1 h2 ht).2 rfl
    · trivial
  · rename_i eu ev'
    rw [eu] at hvx; rw [ev'] at hvy
    simp only [VR] at hvx hvy
    obtain ⟨q,l,c,h1⟩:=hvx.2
    have h2:a.eval y = .slice none 0 0:=hvy.2
    unfold nilEqS
    split
    · rename_i ht; intro _; exact (nilopS_sim h ho h1 h2 ht).1 rfl
    · rename_i ht; intro _; exact (nilopS_sim h ho h1 h2 ht).2 rfl
    · trivial
  · trivial
theorem yes_of {pl:Plan} (hk:∀ b s' v l,pl = .yes b s' v l → b = true → Done P n A o e a w s' v l) (h2:kindOf pl ≤ 1):PlanOK P cfg n A o e a w s pl:=by
  cases pl with
  | no=>trivial
  | yes c s' v l=>exact hk c s' v l rfl
  | two c s' va vb=>simp [kindOf] at h2
  | elt T ot s' f=>simp [kindOf] at h2
  | sel m s' vs=>simp [kindOf] at h2
  | call g as s'=>simp [kindOf] at h2
theorem bif_kind {b:Bool} {x:Plan} (hx:kindOf x ≤ 1):kindOf (bif b then x else .no) ≤ 1:=by
  cases b
  · simp [kindOf]
  · exact hx
theorem convert_ok (h:RR n A e s a w) {src dst:TypeId} {x:Operand} (ho:o.op = .convert src dst x) (hx:okOp n x):PlanOK P cfg n A o e a w s (convertA P src dst x s):=by
  obtain ⟨p1,q1,hvx⟩:=ev_sim (P:=P) h src hx
  unfold convertA
  split
  · rename_i ks kd k m hs hd ex
    rw [ex] at hvx
    simp only [VR] at hvx
    intro _
    have hik:P.intKind dst = kd:=by simp [Program.intKind,hd]
    refine Done.pure h (u:=.int kd (kd.wrap m)) (exec_convert ho ?_) (VR.mkInt (wrap_has _ _)) (by simp)
    rw [hvx.1,run_convert_int (P:=P) w src dst k m (by rw [hs]; rfl) (by rw [hik]; exact hd),hik]
  · rename_i z hs hd ex
    rw [ex] at hvx
    simp only [VR] at hvx
    obtain ⟨y,h1,h2⟩:=hvx
    intro _
    refine Done.pure h (u:=.string y) (exec_convert ho ?_) (by simp only [VR]; exact ⟨y,rfl,h2⟩) (by simp)
    rw [h1]
    simp [convert,run_underlying hs,run_underlying hd]
  · rename_i el xs lv hs hd ex
    split
    · rename_i he; intro _; exact convert_bytes_string h ho hx hs he hd ex
    · trivial
  · rename_i el xs hs hd ex
    split
    · rename_i he; intro _; exact convert_string_bytes h ho hx hs he hd ex
    · trivial
  · rename_i e1 el T xs lv hs hd ex
    split
    · rename_i T' xs' hsd he htk
      intro _
      exact convert_same h ho hx ((beq_iff _ _).1 hsd) he hd (Prod.ext htk rfl)
    · trivial
  · trivial
theorem call_ok (h:RR n A e s a w) {c:Call} (ho:o.op = .call c) (hb:opdsB n c.args.toList = true):PlanOK P cfg n A o e a w s (callA P cfg c s):=by
  unfold callA
  split
  · rename_i hc
    split
    · rename_i x t ha ht
      cases hmt:isMapT P t with
      | true =>
        simp only
        refine yes_of (fun b s' v l hr hb'=>mapLen_sim h ho hc ha ht hmt (opdsB_ok hb x (by simp [ha])) hr hb') ?_
        unfold mapLenA; repeat' split
        all_goals simp [kindOf]
      | false =>
        simp only
        refine yes_of (fun b s' v l hr hb'=>len_sim (r:=.no) h ho hc ha ht (opdsB_ok hb x (by simp [ha])) hr hb') ?_
        unfold lenA; repeat' split
        all_goals simp [kindOf]
    · trivial
  · rename_i hc
    split
    · rename_i x y t t' ha ht
      refine yes_of (fun b s' v l hr hb'=>minMax_sim (mx:=false) h ho hc ha ht (opdsB_ok hb x (by simp [ha])) (opdsB_ok hb y (by simp [ha])) hr hb') ?_
      unfold minMaxA; repeat' split
      all_goals simp [kindOf]
    · trivial
  · rename_i hc
    split
    · rename_i x y t t' ha ht
      refine yes_of (fun b s' v l hr hb'=>minMax_sim (mx:=true) h ho hc ha ht (opdsB_ok hb x (by simp [ha])) (opdsB_ok hb y (by simp [ha])) hr hb') ?_
      unfold minMaxA; repeat' split
      all_goals simp [kindOf]
    · trivial
  · rename_i hc
    split
    · rename_i x y t u ha ht
      refine yes_of (fun b s' v l hr hb'=>append_sim h ho hc ha ht (opdsB_ok hb x (by simp [ha])) (opdsB_ok hb y (by simp [ha])) hr hb') ?_
      unfold appendA; repeat' split
      all_goals simp [kindOf]
    · trivial
  · rename_i f hf
    split
    · rename_i g' first cap hcal
      split
      rename_i vs s2 htk
      refine ⟨c,f,first,cap,vs,ho,hf,?_,htk,rfl⟩
      cases f <;> first | exact hcal | (simp only at hcal; exact hcal)
    · trivial
  · trivial
theorem Done.unlink {s':RS} {v:AV} {l:Option Src} (h:Done P n A o e a w s' v l):Done P n A o e a w s' v none:=by
  obtain ⟨e',w',u,h1,h2,h3,h4,h5,h6⟩:=h
  exact ⟨e',w',u,h1,h2,h3,fun src hs=>(nomatch hs),h5,h6⟩
theorem intAt_some {k:IntKind} {cs:List AV} {off:Nat} {m:Int} (h:intAt k cs off = some m):nth cs off = some (.int k m):=by
  unfold intAt at h
  split at h
  · rename_i j z hz
    cases hj:kindEq j k with
    | none=>rw [hj] at h; cases h
    | some q =>
      rw [hj] at h
      obtain ⟨q⟩:=q
      subst q
      cases h
      exact hz
  · cases h
theorem loadI_ok (h:RR n A e s a w) {t:TypeId} {x:Operand} {k:IntKind} (ho:o.op = .load t x) (hx:okOp n x) (hk:P.underlying t = some (.int k)):PlanOK P cfg n A o e a w s (loadI P k x s):=by
  have hok:okT P t = true:=by unfold okT; rw [hk]
  have hag:isAggB P t = false:=by unfold isAggB; rw [hk]
  have hpart:∀ cs off m,intAt k cs off = some m → partAV P t cs off = some (.int k m):=fun cs off m hm=>by
    unfold partAV
    rw [hag,cond_false]
    exact intAt_some hm
  unfold loadI
  split
  · rename_i l i off ex
    split
    · rename_i cs hg
      intro m hm
      have:=load_ptr_sim (dr:=false) h ho hx hok ex hg (hpart cs off m hm)
      have hv:copyv (shiftV l (.int k m)) = .int k m:=by cases l <;> simp [shiftV,shift,copyv]
      rw [hv] at this
      exact this.unlink
    · trivial
  · rename_i cs off ex
    intro m hm
    have:=load_cptr_sim h ho hx hok ex (hpart cs off m hm)
    exact this.unlink
  · trivial
theorem plan_ok {dr:Bool} (h:RR n A e s a w) (hb:opB n o.op = true):PlanOK P cfg n A o e a w s (plan P cfg dr o s):=by
  unfold plan
  split
  · rename_i x ho; rw [ho] at hb; intro _; exact move_sim h ho (opdB_ok hb)
  · rename_i x ho; rw [ho] at hb; intro _; exact assign_sim h ho (opdB_ok hb)
  · rename_i c x y ho
    rw [ho] at hb
    simp only [opB,Bool.and_eq_true] at hb
    split
    · rename_i t ht; exact pick_sim h ho (opdB_ok hb.1) (opdB_ok hb.2.1) (opdB_ok hb.2.2) ht
    · trivial
  · rename_i el ho
    split
    · rename_i l S cs hH hz
      cases hlow:Nat.blt (lenN cs) mapO with
      | false=>trivial
      | true=>intro _; exact alloc_sim h ho hH hz hlow
    · trivial
  · rename_i el x ho
    rw [ho] at hb
    split
    rename_i v s1 htk
    split
    · rename_i l S hH
      cases hlow:Nat.blt (lenN (cellsOf v)) mapO with
      | false=>trivial
      | true=>intro hc; exact box_sim h ho (opdB_ok hb) htk hH hc hlow
    · trivial
  · rename_i t ps ho
    rw [ho] at hb
    cases dr
    · simp only [cond_false]
      refine yes_of (fun b s' v l hr hb'=>build_sim h ho (partsB_ok hb) hr hb') ?_
      unfold buildA; repeat' split
      all_goals first | exact bif_kind (by simp [kindOf]) | simp [kindOf]
    · simp only [cond_true]
      refine yes_of (fun b s' v l hr hb'=>buildD_sim h ho (partsB_ok hb) hr hb') ?_
      unfold buildD; repeat' split
      all_goals first | exact bif_kind (by simp [kindOf]) | simp [kindOf]
  · rename_i t len ps ho
    rw [ho] at hb
    have hA:∀ dr',PlanOK P cfg n A o e a w s (buildSliceA P dr' t len ps.toList s):=fun dr'=>by
      refine yes_of (fun b s' v l hr hb'=>buildSlice_sim h ho (partsB_ok hb) hr hb') ?_
      unfold buildSliceA
      split
      · split
        · refine bif_kind ?_
          repeat' split
          all_goals simp [kindOf]
        · simp [kindOf]
      · simp [kindOf]
    cases dr with
    | true =>
      cases hrow:isRowT P t with
      | false=>exact hA true
      | true =>
        refine yes_of (fun b s' v l hr hb'=>buildRowD_sim h ho (partsB_ok hb) hr hb') ?_
        show kindOf (buildRowD P t len ps.toList s) ≤ 1
        unfold buildRowD
        repeat' split
        all_goals simp [kindOf]
    | false =>
      cases hrow:isRowT P t with
      | false=>exact hA false
      | true =>
        refine yes_of (fun b s' v l hr hb'=>buildRow_sim h ho (partsB_ok hb) hr hb') ?_
        show kindOf (buildRowA P t len ps.toList s) ≤ 1
        unfold buildRowA
        repeat' split
        all_goals simp [kindOf]
  · rename_i t x ho
    rw [ho] at hb
    have hA:PlanOK P cfg n A o e a w s (bif okT P t then loadA P dr t x s else .no):=by
      cases hok:okT P t with
      | false=>trivial
      | true =>
        simp only [cond_true]
        unfold loadA
        split
        · rename_i l i off ex
          split
          · rename_i cs hg
            split
            · rename_i v hv
              cases hd:(dr && memWr l i s.wr) with
              | true=>trivial
              | false=>intro _; exact load_ptr_sim h ho (opdB_ok hb) hok ex hg hv
            · trivial
          · trivial
        · rename_i cs off ex
          split
          · rename_i v hv; intro _; exact load_cptr_sim h ho (opdB_ok hb) hok ex hv
          · trivial
        · trivial
    cases dr with
    | true=>exact hA
    | false =>
      simp only [cond_false]
      split
      · rename_i k hk; exact loadI_ok h ho (opdB_ok hb) hk
      · exact hA
  · rename_i t x y ho
    rw [ho] at hb
    simp only [opB,Bool.and_eq_true] at hb
    cases hok2:okT P t && freeA P (dr && cfg.ls) x s with
    | false=>trivial
    | true =>
      have hok:okT P t = true:=by rw [Bool.and_eq_true] at hok2; exact hok2.1
      simp only [cond_true]
      unfold storeA
      split
      · rename_i l i off v s1 ex htk
        split
        · rename_i cs hg
          cases hc:(Nat.beq (lenN (cellsOf v)) (sizeB P t) && Nat.ble (off + lenN (cellsOf v)) (lenN cs) && (solid v && (Nat.beq l 0 || noPtr v))) with
          | false=>trivial
          | true =>
            intro _
            simp only [Bool.and_eq_true,beq_iff,ble_iff,lenN_eq] at hc
            exact store_sim h ho (opdB_ok hb.1) (opdB_ok hb.2) hok ex htk hg hc.1.1 hc.1.2 hc.2.1 hc.2.2
        · trivial
      · trivial
  · rename_i x ho
    rw [ho] at hb
    have hs:=nilCheck_sim (P:=P) h ho (opdB_ok hb)
    split
    · rename_i l i off ex; intro _; obtain ⟨ex,hlo⟩:=lowP_ptr ex; exact hs.1 l i off ex hlo
    · rename_i cs off ex; intro _; exact hs.2.1 cs off (lowP_cptr ex)
    · rename_i f b c ex; intro _; exact hs.2.2 f b c (lowP_func ex)
    · trivial
  · rename_i op t x y ty ho
    rw [ho] at hb
    simp only [opB,Bool.and_eq_true] at hb
    split
    · exact binop_ok h ho (opdB_ok hb.1) (opdB_ok hb.2) rfl (.inl ⟨.inl rfl,rfl⟩)
    · exact binop_ok h ho (opdB_ok hb.1) (opdB_ok hb.2) rfl (.inl ⟨.inr rfl,rfl⟩)
    · rename_i h1 h2
      exact binop_ok h ho (opdB_ok hb.1) (opdB_ok hb.2) rfl (.inr ⟨⟨fun h=>h1 h,fun h=>h2 h⟩,rfl⟩)
  · rename_i op t x ho
    rw [ho] at hb
    obtain ⟨p1,q1,hvx⟩:=ev_sim (P:=P) h t (opdB_ok hb)
    have hs:=unop_sim (P:=P) h (op:=op) (t:=t) (x:=x) ho
    split
    · rename_i b ex; rw [ex] at hvx; simp only [VR] at hvx; intro _; exact hs.1 b rfl hvx
    · rename_i k m ex; rw [ex] at hvx; simp only [VR] at hvx; intro _; exact hs.2.1 k m rfl hvx.1
    · rename_i k m ex; rw [ex] at hvx; simp only [VR] at hvx; intro _; exact hs.2.2 k m rfl hvx.1
    · trivial
  · rename_i src dst x ho
    rw [ho] at hb
    exact convert_ok h ho (opdB_ok hb)
  · rename_i fn xs ys ho
    rw [ho] at hb
    simp only [opB,Bool.and_eq_true] at hb
    split
    · intro _; exact makeFunc_sim h ho (opdsB_ok hb.1) (opdsB_ok hb.2)
    · trivial
  · rename_i t x y ho
    rw [ho] at hb
    simp only [opB,Bool.and_eq_true] at hb
    refine yes_of (fun b s' v l hr hb'=>makeSlice_sim h ho (opdB_ok hb.1) (opdB_ok hb.2) hr hb') ?_
    unfold makeSliceA; repeat' split
    all_goals simp [kindOf]
  · rename_i t x lo hi mx ho
    rw [ho] at hb
    simp only [opB,Bool.and_eq_true] at hb
    obtain ⟨b1,b2,b3,b4⟩:=hb
    unfold sliceA
    split
    · rename_i el T xs lv ht ex
      split
      · rename_i l r c hT hlh hmx
        simp only [Bool.and_eq_true,beq_iff] at hT
        intro hc
        exact (slice_sim h ho (opdB_ok b1) (opdoB_ok b2) (opdoB_ok b3) (opdoB_ok b4) ht ex hT.1 (okT_iff hT.2) hlh hc).1 (evo_none hmx)
      · rename_i l r c k1 m1 k2 m2 hT hlh hhi hmx
        simp only [Bool.and_eq_true,beq_iff] at hT
        intro hc
        simp only [Bool.and_eq_true,decide_eq_true_eq] at hc
        exact (slice_sim h ho (opdB_ok b1) (opdoB_ok b2) (opdoB_ok b3) (opdoB_ok b4) ht ex hT.1 (okT_iff hT.2) hlh hc.1).2 _ _ _ _ hhi hmx hc.2
      · trivial
    · rename_i xs ht ex
      split
      · rename_i l r c hlh
        intro hc
        exact slice_string_sim h ho (opdB_ok b1) (opdoB_ok b2) (opdoB_ok b3) ht ex hlh hc
      · trivial
    · trivial
  · rename_i t x f ho
    rw [ho] at hb
    split
    · rename_i off ft l i q hf ex
      cases hlo:Nat.blt (q + off) mapO with
      | false=>trivial
      | true=>intro hz; exact (fieldAddr_sim h ho (opdB_ok hb) hf hz).1 l i q ex hlo
    · rename_i off ft cs q hf ex
      intro hz; exact (fieldAddr_sim h ho (opdB_ok hb) hf hz).2 cs q ex
    · trivial
  · rename_i t x f ho
    rw [ho] at hb
    split
    · rename_i off ft cs hf ex
      split
      · rename_i v hv; intro _; exact field_sim h ho (opdB_ok hb) hf ex hv (fieldOff_ok hf)
      · trivial
    · trivial
  · rename_i t x i ho
    rw [ho] at hb
    simp only [opB,Bool.and_eq_true] at hb
    have hA:PlanOK P cfg n A o e a w s (indexAddrA P t x i s):=by
      unfold indexAddrA
      split
      · rename_i el T xs lv k m ht ex ei
        cases hc:(Nat.beq T.size (sizeB P el) && okT P el) with
        | false=>trivial
        | true =>
          simp only [Bool.and_eq_true,beq_iff] at hc
          intro y hy
          exact indexAddr_slice_sim h ho (opdB_ok hb.1) (opdB_ok hb.2) ht ex ei hc.1 (okT_iff hc.2) hy
      · rename_i el cs lv k m ht ex ei
        cases hc:(Nat.beq (sizeB P el) 1 && okT P el) with
        | false=>trivial
        | true =>
          simp only [Bool.and_eq_true,beq_iff] at hc
          intro y hy
          exact indexAddr_row_sim h ho (opdB_ok hb.1) (opdB_ok hb.2) ht ex ei hc.1 (okT_iff hc.2) hy
      · rename_i len el l j q k m ht ex ei
        cases hlo:Nat.blt (q + len * sizeB P el) mapO with
        | false=>trivial
        | true =>
        intro hc
        simp only [Bool.and_eq_true,decide_eq_true_eq] at hc
        exact indexAddr_array_sim h ho (opdB_ok hb.1) (opdB_ok hb.2) ht ex ei (okT_iff hc.1) hc.2 hlo
      · trivial
    cases dr with
    | true=>exact hA
    | false =>
      cases hrow:isRowT P t with
      | false=>exact hA
      | true =>
        show PlanOK P cfg n A o e a w s (rowIdxA P t x i s)
        cases hq:rowAt P s t x with
        | none =>
          have:rowIdxA P t x i s = indexAddrA P t x i s:=by unfold rowIdxA; rw [hq]
          rw [this]; exact hA
        | some q =>
          refine yes_of (fun b s' v l hr hb'=>rowIdx_sim h ho (opdB_ok hb.1) (opdB_ok hb.2) hq hr hb') ?_
          unfold rowIdxA
          rw [hq]
          simp only
          split <;> simp [kindOf]
  · rename_i t x i ho
    rw [ho] at hb
    simp only [opB,Bool.and_eq_true] at hb
    unfold indexA
    split
    · rename_i xs k m ht ex ei
      intro y hy
      exact index_string_sim h ho (opdB_ok hb.1) (opdB_ok hb.2) ht ex ei hy
    · rename_i len el cs k m ht ex ei
      split
      · rename_i v hv
        intro hc
        simp only [Bool.and_eq_true,decide_eq_true_eq] at hc
        exact index_array_sim h ho (opdB_ok hb.1) (opdB_ok hb.2) ht ex ei (okT_iff hc.1) hc.2 hv
      · trivial
    · trivial
  · rename_i x j ho
    rw [ho] at hb
    unfold extractA
    split
    · rename_i x'
      split
      · rename_i vs ex
        split
        · rename_i v hv; intro _; exact extract_sim h ho ((blt_iff _ _).1 hb) ex hv
        · trivial
      · trivial
    · trivial
  · rename_i c ho
    rw [ho] at hb
    simp only [opB,Bool.and_eq_true] at hb
    cases dr with
    | true=>exact call_ok h ho hb.1
    | false =>
      simp only
      cases hrow:rowLen P c with
      | none =>
        simp only
        cases hcl:clearOf P c with
        | none=>exact call_ok h ho hb.1
        | some xt =>
          obtain ⟨x,t⟩:=xt
          refine yes_of (fun b s' v l hr hb'=>clear_sim h ho hcl (opdsB_ok hb.1) hr hb') ?_
          show kindOf (clearA P t x s) ≤ 1
          unfold clearA
          split
          · cases mapTy P t <;> simp [kindOf]
          · simp [kindOf]
      | some xt =>
        obtain ⟨x,t⟩:=xt
        refine yes_of (fun b s' v l hr hb'=>rowLen_sim h ho hrow (opdsB_ok hb.1) hr hb') ?_
        show kindOf (rowLenA P t x s) ≤ 1
        unfold rowLenA
        repeat' split
        all_goals simp [kindOf]
  · rename_i t r ho
    split
    · unfold makeMapA
      split
      · rename_i l S k v hH _; intro _; exact makeMap_sim h ho hH
      · trivial
    · trivial
  · rename_i t x i ok ho
    rw [ho] at hb
    simp only [opB,Bool.and_eq_true] at hb
    split
    · unfold lookupA
      split
      · rename_i l j ks m hm ei
        cases ht:mapTy P t with
        | false=>trivial
        | true=>intro _; exact lookup_sim h ho (opdB_ok hb.1) (opdB_ok hb.2) hm ei ht
      · trivial
    · trivial
  · rename_i t m k x ho
    rw [ho] at hb
    simp only [opB,Bool.and_eq_true] at hb
    unfold mapUpdA
    split
    · rename_i l i ks q hm ek ey
      cases ht:mapTy P t with
      | false=>trivial
      | true=>intro _; exact mapUpd_sim h ho (opdB_ok hb.1) (opdB_ok hb.2.1) (opdB_ok hb.2.2) hm ek ey ht
    · trivial
  · trivial
end Go.Vm
