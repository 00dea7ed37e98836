/- Contracts of functions of this program. Conditions: none. -/
import Derived.Test.YtdnghpfmobnjlaaGreatWq
import Derived.Test.YtdnghpfmobnjlaaGreatVh
set_option linter.unusedVariables false
set_option linter.unusedSimpArgs false
set_option maxRecDepth 100000
namespace Go.Crc
open Go.Vm Go.Pack Go.Rec Go.RowKit
abbrev Ga:=Option (List Cf)
def E4:Hook Ga:=fun fr H wr γ k=>k .normal (hidL [5] fr) H wr (some [])
def hkOn:Nat → Option (Hook Ga):=fun p=>bif Nat.beq 30 p then some E4 else bif Nat.beq 256410 p then some E10 else bif Nat.beq 262568346 p then some E16 else bif Nat.beq 131284174 p then some E17 else none
abbrev StT:Ty:=.pair (.int .i64) (.pair (.int .i64) (.int .i64))
noncomputable def LG (gl:Nat → Option (GSum Ga)) (j p:Nat) (live outs:List Nat) (N:Nat) (vs:List AV) (H:Stack) (wr:Wr) (γ:Ga) (k:Ex → List AV → Stack → Wr → Ga → Option Res):Option Res :=
  loopG (fun fr H wr γ k=>codeG PR (cfE EOn) cfgPx lf0 (cfgPx.live n_law_PaxosOne) hkOn gl (lcode PR n_law_PaxosOne j) (2 * p) fr H wr γ k) live (headLen H) N vs H wr γ (fun ex fr H' wr' γ'=>k ex (pickAll fr outs) H' wr' γ')
abbrev cfOf (p:PrS):Cf:=(p.st,p.ss,p.sh)
def ch1 (p:PrS) (xs:List Cf):List Cf:=bif p.done then xs.take 1 ++ [cfOf p] else xs
abbrev rowP:AV:=.row [.ptr 0 6 0,.ptr 0 12 0,.ptr 0 18 0] .view
noncomputable abbrev LGi (gl:Nat → Option (GSum Ga)) (N:Nat):=LG gl 1 256414 [3,27,28,29,59,60,61] [2,3,27,28,29] N
noncomputable abbrev LGo (gl:Nat → Option (GSum Ga)) (N:Nat):=LG gl 0 250 [3,27,28,29] [2] N
abbrev vsI (sc:List (Int × Int × Int)) (m i q:Int):List AV:=[.ptr 0 0 0,.slice StT sc .view,.int .i64 m,.int .i64 i,rowP,.int .i64 3,.int .i64 q]
abbrev vsO (sc:List (Int × Int × Int)) (m i:Int):List AV:=[.ptr 0 0 0,.slice StT sc .view,.int .i64 m,.int .i64 i]
abbrev tO (y:Int × Int × Int):Ob:=.cells [.int .i64 y.1,.int .i64 y.2.1,.int .i64 y.2.2]
def ch1k (p:PrS) (xs:List Cf) (ret:Cf → List Cf → Option Res) (k:List Cf → Option Res):Option Res :=
  bif smC p.ss p.sh then bif p.done then bif ch2 (xs.take 1 ++ [(p.st,p.ss,p.sh)]) then ret (p.st,p.ss,p.sh) (xs.take 1 ++ [(p.st,p.ss,p.sh)]) else k (xs.take 1 ++ [(p.st,p.ss,p.sh)])
    else bif ch2 xs then ret (0,[],[]) xs else k xs else none
theorem in_round0 (gl:Nat → Option (GSum Ga)) (sc:List (Int × Int × Int)) (m i:Int) (w:List MsI) (z:WS) (y:Int × Int × Int) (wr:Wr) (xs:List Cf) (N:Nat) (k:Ex → List AV → Stack → Wr → Ga → Option Res) :
    LGi gl (N + 1) (vsI sc m i 0) [app (wObs w .own z) [tO y]] wr (some xs) k =
      ch1k z.p0 xs (fun c xs=>k .ret [.bool false,.ptr 0 0 0,.slice StT sc .view,.int .i64 m,.int .i64 i] [app (wObs w .own z) [tO y,coOb c.1 c.2.1 c.2.2]] ((0,20) :: wr) (some xs)) (fun xs=>LGi gl N (vsI sc m i 1) [app (wObs w .own z) [tO y]] ((0,20) :: wr) (some xs) k):=by kernel_rfl
theorem in_round1 (gl:Nat → Option (GSum Ga)) (sc:List (Int × Int × Int)) (m i:Int) (w:List MsI) (z:WS) (y:Int × Int × Int) (wr:Wr) (xs:List Cf) (N:Nat) (k:Ex → List AV → Stack → Wr → Ga → Option Res) :
    LGi gl (N + 1) (vsI sc m i 1) [app (wObs w .own z) [tO y]] wr (some xs) k =
      ch1k z.p1 xs (fun c xs=>k .ret [.bool false,.ptr 0 0 0,.slice StT sc .view,.int .i64 m,.int .i64 i] [app (wObs w .own z) [tO y,coOb c.1 c.2.1 c.2.2]] ((0,20) :: wr) (some xs)) (fun xs=>LGi gl N (vsI sc m i 2) [app (wObs w .own z) [tO y]] ((0,20) :: wr) (some xs) k):=by kernel_rfl
theorem in_round2 (gl:Nat → Option (GSum Ga)) (sc:List (Int × Int × Int)) (m i:Int) (w:List MsI) (z:WS) (y:Int × Int × Int) (wr:Wr) (xs:List Cf) (N:Nat) (k:Ex → List AV → Stack → Wr → Ga → Option Res) :
    LGi gl (N + 1) (vsI sc m i 2) [app (wObs w .own z) [tO y]] wr (some xs) k =
      ch1k z.p2 xs (fun c xs=>k .ret [.bool false,.ptr 0 0 0,.slice StT sc .view,.int .i64 m,.int .i64 i] [app (wObs w .own z) [tO y,coOb c.1 c.2.1 c.2.2]] ((0,20) :: wr) (some xs)) (fun xs=>LGi gl N (vsI sc m i 3) [app (wObs w .own z) [tO y]] ((0,20) :: wr) (some xs) k):=by kernel_rfl
theorem in_round3 (gl:Nat → Option (GSum Ga)) (sc:List (Int × Int × Int)) (m i:Int) (w:List MsI) (z:WS) (y:Int × Int × Int) (wr:Wr) (xs:List Cf) (N:Nat) (k:Ex → List AV → Stack → Wr → Ga → Option Res) :
    LGi gl (N + 1) (vsI sc m i 3) [app (wObs w .own z) [tO y]] wr (some xs) k = k (.exit 2) [.undef,.ptr 0 0 0,.slice StT sc .view,.int .i64 m,.int .i64 i] [app (wObs w .own z) [tO y]] wr (some xs):=by kernel_rfl
end Go.Crc
namespace Go.Crc
open Go.Vm Go.Pack Go.Rec Go.RowKit
theorem ch1k_ok {p:PrS} {xs:List Cf} (h1:smC p.ss p.sh = true) (h2:ch2 (ch1 p xs) = false) (ret:Cf → List Cf → Option Res) (k:List Cf → Option Res):ch1k p xs ret k = k (ch1 p xs):=by
  unfold ch1k
  unfold ch1 cfOf at *
  rw [h1]
  cases hd:p.done with
  | true=>rw [hd] at h2; simp only [cond_true] at h2 ⊢; rw [h2]; rfl
  | false=>rw [hd] at h2; simp only [cond_true,cond_false] at h2 ⊢; rw [h2]; rfl
def chS (z:WS) (xs:List Cf):List Cf:=ch1 z.p2 (ch1 z.p1 (ch1 z.p0 xs))
def inOk (z:WS) (xs:List Cf):Bool:=(smC z.p0.ss z.p0.sh && !ch2 (ch1 z.p0 xs)) && ((smC z.p1.ss z.p1.sh && !ch2 (ch1 z.p1 (ch1 z.p0 xs))) && (smC z.p2.ss z.p2.sh && !ch2 (chS z xs)))
theorem in_all (gl:Nat → Option (GSum Ga)) (sc:List (Int × Int × Int)) (m i:Int) (w:List MsI) {z:WS} (y:Int × Int × Int) (wr:Wr) {xs:List Cf} (h:inOk z xs = true) (k:Ex → List AV → Stack → Wr → Ga → Option Res) :
    LGi gl 4 (vsI sc m i 0) [app (wObs w .own z) [tO y]] wr (some xs) k = k (.exit 2) [.undef,.ptr 0 0 0,.slice StT sc .view,.int .i64 m,.int .i64 i] [app (wObs w .own z) [tO y]] (app [(0,20),(0,20),(0,20)] wr) (some (chS z xs)):=by
  unfold inOk at h
  obtain ⟨h0,h⟩:=Bool.and_eq_true_iff.1 h
  obtain ⟨h1,h2⟩:=Bool.and_eq_true_iff.1 h
  obtain ⟨a0,b0⟩:=Bool.and_eq_true_iff.1 h0
  obtain ⟨a1,b1⟩:=Bool.and_eq_true_iff.1 h1
  obtain ⟨a2,b2⟩:=Bool.and_eq_true_iff.1 h2
  refine (in_round0 gl sc m i w z y wr xs 3 k).trans ((ch1k_ok a0 (by simpa using b0) _ _).trans ?_)
  refine (in_round1 gl sc m i w z y _ _ 2 k).trans ((ch1k_ok a1 (by simpa using b1) _ _).trans ?_)
  refine (in_round2 gl sc m i w z y _ _ 1 k).trans ((ch1k_ok a2 (by simpa [chS] using b2) _ _).trans ?_)
  exact in_round3 gl sc m i w z y _ _ 0 k
def tOf:Ob → Option (Int × Int × Int)
  | .cells [.int .i64 a,.int .i64 b,.int .i64 c]=>some (a,b,c)
  | _=>none
theorem tOf_some {o:Ob} {y:Int × Int × Int} (h:tOf o = some y):o = tO y:=by
  unfold tOf at h
  split at h
  · cases h; rfl
  · cases h
def inF:List AV → Stack → Ga → Tr (Ex × List AV × Stack × Wr × Ga)
  | [.ptr 0 0 0,.slice (.pair (.int .i64) (.pair (.int .i64) (.int .i64))) sc .view,.int .i64 m,.int .i64 i,.row [.ptr 0 6 0,.ptr 0 12 0,.ptr 0 18 0] .view,.int .i64 three,.int .i64 q],[h],some xs=>match wOf1 h with
    | some (x,ok)=>match tOf x.2.2 with
      | some y=>.br (ok && (decide (three = 3) && (decide (q = 0) && inOk x.2.1 xs))) (.yes (.exit 2,[.undef,.ptr 0 0 0,.slice StT sc .view,.int .i64 m,.int .i64 i],[app (wObs x.1 .own x.2.1) [tO y]],[(0,20),(0,20),(0,20)],some (chS x.2.1 xs))) .no
      | none=>.no
    | none=>.no
  | _,_,_=>.no
def glI (r:Nat → Option (GSum Ga)):Nat → Option (GSum Ga):=fun p=>bif Nat.beq p 256414 then some (gsumT [3,27,28,29,59,60,61] [2,3,27,28,29] inF) else r p
def oNext (r:Nat → Option (GSum Ga)) (sc:List (Int × Int × Int)) (m i:Int) (z:WS) (xs:List Cf) (N:Nat) (k:Ex → List AV → Stack → Wr → Ga → Option Res) (X:Nat → List AV → Stack → Wr → Ga → Option Res) (w:List MsI) (wr:Wr):Option Res :=
  bif inOk z xs then X N (vsO sc m (IntKind.i64.wrap (i + 1))) [wObs w .own z] (app [(0,20),(0,20),(0,20)] wr) (some (chS z xs)) else none
theorem out_round (r:Nat → Option (GSum Ga)) (sc:List (Int × Int × Int)) (m i:Int) (w:List MsI) (z:WS) (wr:Wr) (xs:List Cf) (N:Nat) (k:Ex → List AV → Stack → Wr → Ga → Option Res) :
    LGo (glI r) (N + 1) (vsO sc m i) [wObs w .own z] wr (some xs) k =
      (bif decide (i < m) then (at? sc i).bind fun y=>bif stOk y.1 y.2.1 y.2.2 w z then
          bif decide (((stW y.1 y.2.1 y.2.2 w z).length:Int) > 300) then bif decide (300 < (stW y.1 y.2.1 y.2.2 w z).length) then
            oNext r sc m i (stZ2 y.1 y.2.1 y.2.2 w z) xs N k (fun N vs H wr γ=>LGo (glI r) N vs H wr γ k) ((stW y.1 y.2.1 y.2.2 w z).drop ((stW y.1 y.2.1 y.2.2 w z).length - 300)) ((0,0) :: app stWr ((0,19) :: wr)) else none
          else oNext r sc m i (stZ2 y.1 y.2.1 y.2.2 w z) xs N k (fun N vs H wr γ=>LGo (glI r) N vs H wr γ k) (stW y.1 y.2.1 y.2.2 w z) (app stWr ((0,19) :: wr))
        else none
      else k (.exit 0) [.undef] [wObs w .own z] wr (some xs)):=by kernel_rfl
end Go.Crc
namespace Go.Crc
open Go.Vm Go.Pack Go.Rec Go.RowKit
abbrev OS:=List MsI × WS × List Cf
def trimW (w:List MsI):List MsI:=bif decide ((w.length:Int) > 300) then w.drop (w.length - 300) else w
def oStep (y:Int × Int × Int) (o:OS):OS:=(trimW (stW y.1 y.2.1 y.2.2 o.1 o.2.1),stZ2 y.1 y.2.1 y.2.2 o.1 o.2.1,chS (stZ2 y.1 y.2.1 y.2.2 o.1 o.2.1) o.2.2)
def oOk1 (y:Int × Int × Int) (o:OS):Bool:=stOk y.1 y.2.1 y.2.2 o.1 o.2.1 && inOk (stZ2 y.1 y.2.1 y.2.2 o.1 o.2.1) o.2.2
def oWr1 (y:Int × Int × Int) (o:OS):Wr:=app [(0,20),(0,20),(0,20)] (app (bif decide (((stW y.1 y.2.1 y.2.2 o.1 o.2.1).length:Int) > 300) then [(0,0)] else []) (app stWr [(0,19)]))
def oneL:List (Int × Int × Int) → OS → OS
  | [],o=>o
  | y :: r,o=>oneL r (oStep y o)
def oneOk:List (Int × Int × Int) → OS → Bool
  | [],_=>true
  | y :: r,o=>oOk1 y o && oneOk r (oStep y o)
def oneW:List (Int × Int × Int) → OS → Wr
  | [],_=>[]
  | y :: r,o=>app (oneW r (oStep y o)) (oWr1 y o)
theorem app_as2 (a b c:Wr):app (app a b) c = app a (app b c):=by simp only [app_eq,List.append_assoc]
theorem one_fold (r:Nat → Option (GSum Ga)) (sc:List (Int × Int × Int)) (m:Int) (hm:m = (sc.length:Int)) (hl:sc.length ≤ maxInt) (k:Ex → List AV → Stack → Wr → Ga → Option Res) :
    ∀ (q j:Nat) (o:OS) (wr:Wr),j + q = sc.length → oneOk (sc.drop j) o = true →
      LGo (glI r) (q + 1) (vsO sc m (j:Int)) [wObs o.1 .own o.2.1] wr (some o.2.2) k = k (.exit 0) [.undef] [wObs (oneL (sc.drop j) o).1 .own (oneL (sc.drop j) o).2.1] (app (oneW (sc.drop j) o) wr) (some (oneL (sc.drop j) o).2.2):=by
  intro q
  induction q with
  | zero =>
    intro j o wr hj _
    have hd:sc.drop j = []:=List.drop_of_length_le (by omega)
    refine (out_round r sc m j o.1 o.2.1 wr o.2.2 0 k).trans ?_
    rw [cond_ne (decide_eq_false (by omega)),hd]
    rfl
  | succ q ih =>
    intro j o wr hj hz
    have hlt:j < sc.length:=by omega
    have hd:sc.drop j = sc[j] :: sc.drop (j + 1):=List.drop_eq_getElem_cons hlt
    have hx:sc[j]? = some sc[j]:=List.getElem?_eq_getElem hlt
    refine (out_round r sc m j o.1 o.2.1 wr o.2.2 (q + 1) k).trans ?_
    rw [cond_eq (decide_eq_true (by omega)),at_some hx,Option.bind_some]
    rw [hd] at hz ⊢
    generalize sc[j] = y at hx hz
    obtain ⟨h1,h2⟩:=Bool.and_eq_true_iff.1 (show (oOk1 y o && oneOk (sc.drop (j + 1)) (oStep y o)) = true from hz)
    obtain ⟨h3,h4⟩:=Bool.and_eq_true_iff.1 h1
    have hi:=ih (j + 1) (oStep y o) (app (oWr1 y o) wr) (by omega) h2
    have e2:oneW (y :: sc.drop (j + 1)) o = app (oneW (sc.drop (j + 1)) (oStep y o)) (oWr1 y o):=rfl
    have e1:oneL (y :: sc.drop (j + 1)) o = oneL (sc.drop (j + 1)) (oStep y o):=rfl
    rw [e1,e2,app_as2]
    refine Eq.trans ?_ hi
    rw [h3,cond_true]
    unfold oNext
    rw [h4]
    unfold oWr1
    have e3:(oStep y o).1 = trimW (stW y.1 y.2.1 y.2.2 o.1 o.2.1):=rfl
    rw [e3]
    unfold trimW
    rw [wrap_next hlt hl]
    cases hg:decide (((stW y.1 y.2.1 y.2.2 o.1 o.2.1).length:Int) > 300) with
    | true =>
      have hg2:=of_decide_eq_true hg
      rw [decide_eq_true (show 300 < (stW y.1 y.2.1 y.2.2 o.1 o.2.1).length by omega)]
      rfl
    | false=>rfl
theorem ch2_agree {G:Gh} {v:Int → AcV} {p:Int → PrS} (h:PxW G v p) {xs:List Cf} (hx:∀ x ∈ xs,Chosen G x):ch2 xs = false:=by
  match xs,hx with
  | [],_=>rfl
  | [_],_=>rfl
  | x0 :: x1 :: r,hx =>
    have e:=h.agree (hx x0 (by simp)) (hx x1 (by simp))
    subst e
    unfold ch2
    simp
theorem ch1_in {p:PrS} {xs:List Cf} {x:Cf} (h:x ∈ ch1 p xs):x ∈ xs ∨ (p.done = true ∧ x = cfP p):=by
  unfold ch1 at h
  cases hd:p.done with
  | false=>rw [hd] at h; exact .inl h
  | true =>
    rw [hd] at h
    rcases List.mem_append.1 h with h | h
    · exact .inl (List.mem_of_mem_take h)
    · exact .inr ⟨rfl,by rw [List.mem_singleton.1 h]; rfl⟩
theorem WInv.ch {G:Gh} {w:List MsI} {z:WS} (h:WInv G w z) {xs:List Cf} (hx:∀ x ∈ xs,Chosen G x):inOk z xs = true ∧ ∀ x ∈ chS z xs,Chosen G x:=by
  have hc:∀ j,In3 j → (getP j z).done = true → Chosen G (cfP (getP j z)):=fun j hj hd=>by
    have:=h.px.chosen (jn_of hj) (by rw [pOf_get z hj]; exact hd)
    rwa [pOf_get z hj] at this
  have c0:∀ x ∈ ch1 z.p0 xs,Chosen G x:=fun x hm=>by
    rcases ch1_in hm with h' | ⟨hd,rfl⟩
    · exact hx x h'
    · exact hc 0 (.inl rfl) hd
  have c1:∀ x ∈ ch1 z.p1 (ch1 z.p0 xs),Chosen G x:=fun x hm=>by
    rcases ch1_in hm with h' | ⟨hd,rfl⟩
    · exact c0 x h'
    · exact hc 1 (.inr (.inl rfl)) hd
  have c2:∀ x ∈ chS z xs,Chosen G x:=fun x hm=>by
    rcases ch1_in hm with h' | ⟨hd,rfl⟩
    · exact c1 x h'
    · exact hc 2 (.inr (.inr rfl)) hd
  refine ⟨?_,c2⟩
  unfold inOk
  rw [ch2_agree h.px c0,ch2_agree h.px c1,ch2_agree h.px c2,show smC z.p0.ss z.p0.sh = true from (h.sm 0 (.inl rfl)).2,show smC z.p1.ss z.p1.sh = true from (h.sm 1 (.inr (.inl rfl))).2,show smC z.p2.ss z.p2.sh = true from (h.sm 2 (.inr (.inr rfl))).2]
  rfl
theorem trim_sub {w:List MsI} {y:MsI} (h:y ∈ trimW w):y ∈ w:=by
  unfold trimW at h
  cases hd:decide ((w.length:Int) > 300) with
  | true=>rw [hd] at h; exact List.mem_of_mem_drop h
  | false=>rw [hd] at h; exact h
theorem trim_len (w:List MsI):(trimW w).length ≤ 300:=by
  unfold trimW
  cases hd:decide ((w.length:Int) > 300) with
  | true=>simp only [cond_true,List.length_drop]; omega
  | false=>have:=of_decide_eq_false hd; simp only [cond_false]; omega
theorem one_ok:∀ (sc:List (Int × Int × Int)) (o:OS) (G:Gh),WInv G o.1 o.2.1 → o.1.length ≤ 300 → (∀ x ∈ o.2.2,Chosen G x) → oneOk sc o = true
  | [],_,_,_,_,_=>rfl
  | y :: r,o,G,h,hl,hx=>by
    obtain ⟨k1,k2,G',k3,k4⟩:=h.step (by omega) y.1 y.2.1 y.2.2
    have k5:=k4.way (w':=trimW (stW y.1 y.2.1 y.2.2 o.1 o.2.1)) fun z hz=>k4.msg z (trim_sub hz)
    obtain ⟨c1,c2⟩:=k5.ch (xs:=o.2.2) fun x hm=>(hx x hm).le k3
    have:=one_ok r (oStep y o) G' k5 (trim_len _) c2
    show (oOk1 y o && oneOk r (oStep y o)) = true
    unfold oOk1
    rw [k1,c1,this]; rfl
def gh0:Gh:=⟨fun _ _ _ _=>False,fun _ _=>False,fun _ _=>False⟩
theorem ac0_syn (i:Int):PxSyn (ac0 i) []:=by
  have h:=PxInv.new nil_bytes i 2
  have e1:nwB [] = []:=nwB_nil
  rw [e1] at h
  exact ⟨h,rfl⟩
theorem ws0_inv:WInv gh0 [] ws0:=by
  have hv:∀ i,In3 i → vOf ws0 i = av0:=fun i hi=>by rcases hi with rfl | rfl | rfl <;> rfl
  have hp:∀ j,Jn3 j → pOf ws0 j = pr0 (j - 3):=fun j hj=>by rcases hj with rfl | rfl | rfl <;> rfl
  refine ⟨⟨fun i hi=>?_,fun _ _ h=>h.elim,fun i hi=>?_,fun _ _ _ _ h=>h.elim,fun _ _ h=>h.elim,fun _ _ h=>h.elim,fun _ _ h=>h.elim,fun _ _ _ h=>h.elim,fun j hj=>?_,fun j hj=>?_,fun j hj _=>?_,fun j hj h=>?_,fun j hj=>?_,fun j hj h=>?_⟩,fun i hi=>?_,fun i hi=>?_,fun j hj=>?_,fun y hy=>by cases hy⟩
  · rw [hv i hi]; exact Int.le_refl _
  · rw [hv i hi]; exact .inl rfl
  · rw [hp j hj]; exact ⟨by show 3 + (j - 3) = j; omega,rfl,Int.le_refl _,.inl rfl⟩
  · rw [hp j hj]; exact ⟨List.nodup_nil,fun i hi=>by cases hi⟩
  · rw [hp j hj]; exact ⟨fun i hi=>(by cases hi),.inl rfl⟩
  · rw [hp j hj] at h; cases h
  · rw [hp j hj]; exact ⟨List.nodup_nil,fun i hi=>by cases hi⟩
  · rw [hp j hj] at h; cases h
  · rcases hi with rfl | rfl | rfl <;> exact ⟨_,ac0_syn _⟩
  · rcases hi with rfl | rfl | rfl <;> rfl
  · rcases hj with rfl | rfl | rfl <;> exact ⟨rfl,rfl⟩
theorem one_start (sc:List (Int × Int × Int)):oneOk sc ([],ws0,[]) = true:=one_ok sc _ gh0 ws0_inv (Nat.zero_le _) (fun x hx=>by cases hx)
end Go.Crc
namespace Go.Crc
open Go.Vm Go.Pack Go.Rec Go.RowKit
def outF:List AV → Stack → Ga → Tr (Ex × List AV × Stack × Wr × Ga)
  | [.ptr 0 0 0,.slice (.pair (.int .i64) (.pair (.int .i64) (.int .i64))) sc .view,.int .i64 m,.int .i64 i],[h],some xs=>match wOf h with
    | some (x,ok)=>.br (ok && (decide (m = sc.length) && (decide (i = 0) && oneOk sc (x.1,x.2,xs)))) (.yes (.exit 0,[.undef],[wObs (oneL sc (x.1,x.2,xs)).1 .own (oneL sc (x.1,x.2,xs)).2.1],oneW sc (x.1,x.2,xs),some (oneL sc (x.1,x.2,xs)).2.2)) .no
    | none=>.no
  | _,_,_=>.no
def glOn:Nat → Option (GSum Ga):=glI fun p=>bif Nat.beq p 250 then some (gsumT [3,27,28,29] [2] outF) else none
theorem in_ok (gl:Nat → Option (GSum Ga)) {vs vs':List AV} {H H':Stack} {wr w:Wr} {γ γ':Ga} {ex:Ex} (hv:(inF vs H γ).val = some (ex,vs',H',w,γ')):∃ N,∀ k:Ex → List AV → Stack → Wr → Ga → Option Res,LGi gl N vs H wr γ k = k ex vs' H' (app w wr) γ':=by
  unfold inF at hv
  split at hv
  · rename_i sc m i three q h xs
    split at hv
    · rename_i x ok hx
      split at hv
      · rename_i y hy
        obtain ⟨hc,hv2⟩:=Tr.br_no hv
        clear hv
        obtain ⟨h0,c1⟩:=Bool.and_eq_true_iff.1 hc
        obtain ⟨h1,c2⟩:=Bool.and_eq_true_iff.1 c1
        obtain ⟨h2,h3⟩:=Bool.and_eq_true_iff.1 c2
        subst h0
        cases of_decide_eq_true h1
        cases of_decide_eq_true h2
        have e:=wOf1_some hx
        subst e
        have e2:=tOf_some hy
        cases hv2
        refine ⟨4,fun k=>?_⟩
        rw [e2]
        exact in_all gl sc m i x.1 y wr h3 k
      · cases hv
    · cases hv
  · cases hv
theorem out_ok (r:Nat → Option (GSum Ga)) {vs vs':List AV} {H H':Stack} {wr w:Wr} {γ γ':Ga} {ex:Ex} (hv:(outF vs H γ).val = some (ex,vs',H',w,γ')) (ha:okAVs vs):∃ N,∀ k:Ex → List AV → Stack → Wr → Ga → Option Res,LGo (glI r) N vs H wr γ k = k ex vs' H' (app w wr) γ':=by
  unfold outF at hv
  split at hv
  · rename_i sc m i h xs
    split at hv
    · rename_i x ok hx
      obtain ⟨hc,hv2⟩:=Tr.br_no hv
      clear hv
      obtain ⟨h0,c1⟩:=Bool.and_eq_true_iff.1 hc
      obtain ⟨h1,c2⟩:=Bool.and_eq_true_iff.1 c1
      obtain ⟨h2,h3⟩:=Bool.and_eq_true_iff.1 c2
      subst h0
      have hm:=of_decide_eq_true h1
      cases of_decide_eq_true h2
      have e:=wOf_some hx
      subst e
      simp only [okAVs,okAV] at ha
      have hl:sc.length ≤ maxInt:=by first | exact ha.2.1.1 | simp_all
      cases hv2
      refine ⟨sc.length + 1,fun k=>?_⟩
      have:=one_fold r sc m hm hl k sc.length 0 (x.1,x.2,xs) wr (by omega) (by rw [List.drop_zero]; exact h3)
      rw [List.drop_zero] at this
      exact this
    · cases hv
  · cases hv
theorem on_loops:∀ x ∈ funLoops PR n_law_PaxosOne,∀ L,glOn x.1 = some L → LoopG (ntm PR n_law_PaxosOne) (fun fr H wr γ k=>codeG PR (cfE EOn) cfgPx lf0 (cfgPx.live n_law_PaxosOne) hkOn glOn x.2 (2 * x.1) fr H wr γ k) L:=by
  intro x hx L hL
  have hp:lpos PR n_law_PaxosOne = [250,256414]:=by kernel_rfl
  obtain ⟨j,hj⟩:=List.getElem?_of_mem hx
  have hj1:([250,256414]:List Nat)[j]? = some x.1:=by
    rw [← hp]
    unfold lpos
    rw [mapN_eq,List.getElem?_map,hj]
    rfl
  have hj2:lcode PR n_law_PaxosOne j = x.2:=by unfold lcode; rw [nth_eq,hj]
  match j,hj1,hj2 with
  | 0,hj1,hj2 =>
    have e:x.1 = 250:=(Option.some.inj hj1).symm
    rw [e] at hL ⊢
    rw [← hj2]
    cases hL
    exact gsumT_ok (by rw [nt1]; decide) fun vs H wr γ ex vs' H' w γ' hv ha hh=>out_ok _ hv ha
  | 1,hj1,hj2 =>
    have e:x.1 = 256414:=(Option.some.inj hj1).symm
    rw [e] at hL ⊢
    rw [← hj2]
    cases hL
    exact gsumT_ok (by rw [nt1]; decide) fun vs H wr γ ex vs' H' w γ' hv ha hh=>in_ok glOn hv
  | j + 2,hj1,_=>simp at hj1
noncomputable def ops4:Array Oper:=regAtP PR n_law_PaxosOne 30
theorem sh4:ops4.map (fun o=>(o.op,o.type,o.dst,o.guard)) = #[(Op.assign (.const (.slice none 0 0)),59,some 5,none)]:=by kernel_rfl
theorem sz4:ops4.size = 1:=by
  have:=congrArg Array.size sh4
  simpa using this
theorem hook4 (e0:Env) (a0:Act) (w0:World) (id:Nat):BodyG (GRc w0.heap.size) PR (ntm PR n_law_PaxosOne) A e0 a0 w0 (.region id ops4 false) E4:=by
  intro fr H wr γ k r h
  refine ⟨.normal,hidL [5] fr,H,wr,some [],h,fun e a w hC hG hK hR=>wp_region ?_⟩
  have e4:ops4[0]? = some (ops4[0]'(by rw [sz4]; decide)):=Array.getElem?_eq_getElem (by rw [sz4]; decide)
  have hsh:=congrArg (fun z:Array (Op × TypeId × Option Tmp × Option (Nat × Bool))=>z[0]?) sh4
  simp only [Array.getElem?_map,e4,Option.map_some] at hsh
  generalize (ops4[0]'(by rw [sz4]; decide)) = q at e4 hsh
  have hr:List.range ops4.size = [0]:=by rw [sz4]; rfl
  rw [hr]
  cases q
  cases hsh
  simp only [wpOps,e4]
  rw [if_pos (by rfl)]
  left
  unfold Oper.wp
  have hrun:∀ (pos:String) (after:Array Edge),(execOp a.eval { dst:=some 5,op:=.assign (.const (.slice none 0 0)),type:=59,pos:=pos,after:=after,guard:=none }).run PR w = .ok (.value (.slice none 0 0)) w:=fun pos after=>rfl
  rw [hrun,Oper.upon_value]
  have hasz:a.tmps.size = 95:=hC.fr.size.trans nt1
  refine ⟨trivial,e,⟨hC.wok,hC.hr,⟨by rw [nt1]; simp [Act.put,hasz],fun z hz=>?_⟩⟩,hG,⟨fun _ hh=>hh.elim,hK.marks⟩,?_⟩
  · unfold hidL
    cases hm:memN z [5] with
    | true=>simp only [cond_true,VR]
    | false =>
      simp only [cond_false]
      have hz5:z ≠ 5:=fun e=>by subst e; cases hm
      show VR _ _ _ _ (Act.at (a.put (some 5) _) z)
      rw [at_put_other hz5]
      exact hC.fr.val z hz
  · refine .inl ⟨rfl,?_⟩
    exact at_put_same (by rw [hasz]; decide)
theorem on_regs:((funRegsG PR n_law_PaxosOne).filter fun x=>memN x.1 [30,256410,262568346,131284174]) = [(30,4,ops4,false),(256410,10,ops10,true),(262568346,16,ops16,true),(131284174,17,ops17,true)]:=by kernel_rfl
theorem on_ps:∀ p,memN p [30,256410,262568346,131284174] = (hkOn p).isSome:=by
  intro p
  unfold hkOn
  simp only [memN]
  cases Nat.beq 30 p <;> cases Nat.beq 256410 p <;> cases Nat.beq 262568346 p <;> cases Nat.beq 131284174 p <;> rfl
theorem on_hooks (e0:Env) (a0:Act) (w0:World):∀ x ∈ funRegsG PR n_law_PaxosOne,∀ E,hkOn x.1 = some E → BodyG (GRc w0.heap.size) PR (ntm PR n_law_PaxosOne) A e0 a0 w0 (.region x.2.1 x.2.2.1 x.2.2.2) E:=by
  intro x hx E hE
  have hm:memN x.1 [30,256410,262568346,131284174] = true:=by rw [on_ps,hE]; rfl
  have hin:x ∈ (funRegsG PR n_law_PaxosOne).filter fun x=>memN x.1 [30,256410,262568346,131284174]:=List.mem_filter.2 ⟨hx,hm⟩
  rw [on_regs] at hin
  simp only [List.mem_cons,List.not_mem_nil,or_false] at hin
  rcases hin with rfl | rfl | rfl | rfl
  · cases hE; exact hook4 e0 a0 w0 4
  · cases hE; exact hook10 e0 a0 w0 10
  · cases hE; exact hook16 e0 a0 w0 16
  · cases hE; exact hook17 e0 a0 w0 17
theorem on_funGB:funGB PR n_law_PaxosOne [30,256410,262568346,131284174] [5] = true:=by kernel_rfl
theorem on_eq (sc:List (Int × Int × Int)):bodyG PR (cfE EOn) cfgPx lf0 hkOn glOn n_law_PaxosOne [.slice StT sc .view] none =
    (bif decide ((sc.length:Int) > 250) then some (.bool true,[],[]) else bif decide ((sc.length:Int) = (sc.length:Int)) && (decide ((0:Int) = 0) && oneOk sc ([],ws0,[])) then some (.bool true,[],[]) else none):=by kernel_rfl
theorem pax_one (sc:List (Int × Int × Int)):bodyG PR (cfE EOn) cfgPx lf0 hkOn glOn n_law_PaxosOne [.slice StT sc .view] none = some (.bool true,[],[]):=by
  rw [on_eq,one_start,decide_eq_true rfl,decide_eq_true rfl]
  cases decide ((sc.length:Int) > 250) <;> rfl
theorem grc_stable2 (m0:Nat):Stable (fun t=>t ∈ [5]) (GRc m0):=fun γ e a w e' a' w' wr h g hs=>grc_stable m0 γ e a w e' a' w' wr h g fun t ht=>hs t (by rw [show t = 5 from ht]; simp)
end Go.Crc
