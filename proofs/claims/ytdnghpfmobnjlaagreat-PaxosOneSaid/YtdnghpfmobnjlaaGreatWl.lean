/- Contracts of functions of this program. Conditions: none. -/
import Derived.Test.YtdnghpfmobnjlaaGreatWk
set_option linter.unusedVariables false
set_option linter.unusedSimpArgs false
set_option maxRecDepth 100000
namespace Go.Crc
open Go.Vm Go.Pack Go.Rec Go.RowKit
theorem smC_of {t:Int} {s:List Int} {sh:List (List Int)} (h:termR t s sh = true):smC s sh = true:=by
  obtain ⟨_,⟨_,h2⟩,⟨_,h4⟩,h5⟩:=termR_iff.1 h
  unfold smC
  simp only [Bool.and_eq_true,decide_eq_true_eq,List.all_eq_true]
  refine ⟨by omega,by omega,fun l hl=>?_⟩
  have:=(badRow_iff.1 (h5.2 l hl)).2.1
  omega
abbrev prCj (j1 j2:Nat) (p:PrS):List AV:=[.int .i64 p.id,.int .i64 p.sl,.int .i64 p.ba,.slice (.int .i64) p.nodes .view,.int .i64 p.ct,.slice (.int .i64) p.cs .view,.slice RowT p.ch .view,.int .i64 p.st,.slice (.int .i64) p.ss .view,.slice RowT p.sh .view,.int .i64 p.old,.ptr 0 j1 mapO,.ptr 0 j2 mapO,.bool p.asked,.bool p.done]
abbrev coOb (t:Int) (s:List Int) (sh:List (List Int)):Ob:=.cells [.int .i64 t,.slice (.int .i64) s .view,.slice RowT sh .view]
abbrev npObs (j:Nat) (i s:Int) (nodes:List Int) (ct:Int) (cs:List Int) (ch:List (List Int)):List Ob:=[coOb ct cs ch,.map [],.map [],.cells (prCj (j + 1) (j + 2) (newP i s nodes ct cs ch))]
abbrev npOw (j:Nat) (i s:Int) (nodes:List Int) (ct:Int) (cs:List Int) (ch:List (List Int)):List AV:=[.int .i64 i,.int .i64 s,.int .i64 0,.slice (.int .i64) nodes .view,.int .i64 ct,.slice (.int .i64) cs .view,.slice RowT ch .view,.int .i64 0,.slice (.int .i64) [] .own,.slice RowT [] .own,.int .i64 0,.ptr 0 (j + 1) mapO,.ptr 0 (j + 2) mapO,.bool false,.bool false]
theorem set_last:∀ (l:List Ob) (a b c d x:Ob),setAt (app l [a,b,c,d]) (lenN l + 3) x = app l [a,b,c,x]
  | [],a,b,c,d,x=>rfl
  | y :: l,a,b,c,d,x=>by
    have:=set_last l a b c d x
    simp only [app,lenN,Nat.add_right_comm _ 1 3,setAt]
    rw [this]
theorem nth_last:∀ (l:List Ob) (a b c d:Ob),nth (app l [a,b,c,d]) (lenN l + 3) = some d
  | [],a,b,c,d=>rfl
  | y :: l,a,b,c,d=>by
    have:=nth_last l a b c d
    simp only [app,lenN,Nat.add_right_comm _ 1 3,nth]
    exact this
def npF:List AV → Stack → Tr Res
  | [.int .i64 i,.int .i64 s,.slice (.int .i64) nodes .view,.agg [.int .i64 ct,.slice (.int .i64) cs .view,.slice (.slice (.int .i64)) ch .view]],l :: S =>
    .br (newPB i s nodes ct cs ch) (.yes (.tuple [.ptr 0 (lenN l + 3) 0,.int .i64 0],[],app l (npObs (lenN l) i s nodes ct cs ch) :: S)) (.yes (.tuple [.nilp,.int .i64 1],[],l :: S))
  | _,_=>.no
noncomputable abbrev ENp:List (Ent PR A):=[pcdE,trE,pxuE,cliE,copE]
theorem np_ok:Con PR A n_paxos_NewProposer (shapeC npF):=by
  refine shapeC_ok fun args S res hv=>?_
  unfold npF at hv
  split at hv
  · rename_i i s nodes ct cs ch l S
    have h:body PR (cfE ENp) cfgPx lf0 n_paxos_NewProposer [.int .i64 i,.int .i64 s,.slice (.int .i64) nodes .view,conA ct cs ch] (l :: S) some =
      (bif !plOK i s then some (.tuple [.nilp,.int .i64 1],[],l :: S) else bif !termR ct cs ch then some (.tuple [.nilp,.int .i64 1],[],l :: S)
      else bif ct != s then some (.tuple [.nilp,.int .i64 1],[],l :: S) else bif !pxUn nodes then some (.tuple [.nilp,.int .i64 1],[],l :: S)
      else bif decide (nodes.length * 8 ≤ 140737488355328) then bif smC cs ch then some (.tuple [.ptr 0 (lenN l + 3) 0,.int .i64 0],[],app l [coOb ct cs ch,.map [],.map [],.cells (npOw (lenN l) i s nodes ct cs ch)] :: S) else none else none):=by kernel_rfl
    have hpl:plOK i s = placedB i s:=by unfold plOK placedB; rfl
    unfold newPB at hv
    rw [hpl] at h
    rcases Tr.br_or hv with ⟨he,h4⟩ | ⟨he,h4⟩
    · cases h4
      simp only [Bool.and_eq_true] at he
      obtain ⟨e1,e2,e3,e4⟩:=he
      have hn:nodes.length ≤ 7:=by
        unfold pxUn at e4
        simp only [Bool.and_eq_true,Bool.not_eq_true',decide_eq_false_iff_not] at e4
        omega
      rw [e1,e2,e4,bne,e3,smC_of e2,decide_eq_true (show nodes.length * 8 ≤ 140737488355328 by omega)] at h
      refine ⟨fun _ _=>?_,app_keeps l (npObs (lenN l) i s nodes ct cs ch) S⟩
      have hc:=fun_call (P:=PR) (A:=A) (g:=n_paxos_NewProposer) _ mixed (by kernel_rfl) (by kernel_rfl) (no_loops (by kernel_rfl)) h
      have hw:=SimCall.weak (l:=0) (i:=lenN l + 3) (cs:=npOw (lenN l) i s nodes ct cs ch) (cs':=prCj (lenN l + 1) (lenN l + 2) (newP i s nodes ct cs ch)) hc (nth_last _ _ _ _ _) ⟨.refl _,.refl _,.refl _,.refl _,.refl _,.refl _,.refl _,.refl _,.sl _ _ _ _ rfl,.sl _ _ _ _ rfl,.refl _,.refl _,.refl _,.refl _,.refl _,trivial⟩
      have e:setH (app l [coOb ct cs ch,.map [],.map [],.cells (npOw (lenN l) i s nodes ct cs ch)] :: S) 0 (lenN l + 3) (.cells (prCj (lenN l + 1) (lenN l + 2) (newP i s nodes ct cs ch))) = app l (npObs (lenN l) i s nodes ct cs ch) :: S:=by
        show setAt _ _ _ :: S = _
        rw [set_last]
      rw [e] at hw
      exact hw
    · cases h4
      refine ⟨fun _ _=>fun_call _ mixed (by kernel_rfl) (by kernel_rfl) (no_loops (by kernel_rfl)) (h.trans ?_),fun l i _=>.inl (copyvs_refl_ObE _)⟩
      rw [bne]
      revert he
      cases placedB i s <;> cases termR ct cs ch <;> cases ct == s <;> cases pxUn nodes <;> first | (intro _; rfl) | (intro he; cases he)
  · cases hv
def npE:Ent PR A:=⟨n_paxos_NewProposer,_,np_ok⟩
def prN (f:List AV → PrS → Tr (AV × Bool × PrS)):FN:=fun rest xs=>match xs with
  | [.cells cs,.map a,.map b]=>match prOf cs with
    | some p=>mapT (fun y=>(y.1,y.2.1,prO { y.2.2 with id:=p.id,sl:=p.sl,nodes:=p.nodes,ct:=p.ct,cs:=p.cs,ch:=p.ch })) (f rest { p with pm:=a,am:=b })
    | none=>.no
  | _=>.no
abbrev prW:Wr:=[(1,0),(1,1),(1,2)]
theorem prN_many {g:Nat} {f:List AV → PrS → Tr (AV × Bool × PrS)}
    (h:∀ rest p v w p',(f rest p).val = some (v,w,p') → noPtr.noPtrs rest = true ∧ noPtr v = true ∧ (p'.id = p.id ∧ p'.sl = p.sl ∧ p'.nodes = p.nodes ∧ p'.ct = p.ct ∧ p'.cs = p.cs ∧ p'.ch = p.ch) ∧ (w = false → p' = p) ∧
      (okAVs rest → okH (prH p) → SimCall PR A g (.ptr 1 0 0 :: rest) (prH p) (v,bif w then prW else [],prH p'))):Many PR A g (prN f):=by
  intro rest xs v w xs' hv
  unfold prN at hv
  split at hv
  · rename_i cs a b
    split at hv
    · rename_i p hp
      have:=prOf_some hp
      subst this
      obtain ⟨⟨v1,w1,p'⟩,h1,h2⟩:=mapT_val _ hv
      cases h2
      obtain ⟨g1,g2,⟨z1,z2,z3,z4,z5,z6⟩,g3,g4⟩:=h _ _ _ _ _ h1
      have hp':({ p' with id:=p.id,sl:=p.sl,nodes:=p.nodes,ct:=p.ct,cs:=p.cs,ch:=p.ch }:PrS) = p':=by
        obtain ⟨i,s,b,n,ct,cs,ch,st,ss,sh,ol,pm,am,x,y⟩:=p'
        simp only at z1 z2 z3 z4 z5 z6
        subst z1 z2 z3 z4 z5 z6
        rfl
      simp only [hp']
      refine ⟨g1,rfl,ptrsIn_noPtr _ _ g2,rfl,fun hw=>?_,g4⟩
      rw [g3 hw]
    · cases hv
  · cases hv
def choF:List AV → PrS → Tr (AV × Bool × PrS)
  | [],p=>.br (smC p.ss p.sh) (.br p.done (.yes (.tuple [conA p.st p.ss p.sh,.bool true],false,p)) (.yes (.tuple [conA 0 [] [],.bool false],false,p))) .no
  | _,_=>.no
theorem cho_ok:Con PR A n_paxos_Proposer_Chosen (objNC (prN choF)):=by
  refine objNC_ok (prN_many fun rest p v w p' hv=>?_)
  unfold choF at hv
  split at hv
  · obtain ⟨hc,hv2⟩:=Tr.br_no hv
    have h:body PR (cfE (P:=PR) (A:=A) [copE]) cfgPx lf0 n_paxos_Proposer_Chosen [.ptr 1 0 0] (prH p) some =
      (bif !p.done then some (.tuple [conA 0 [] [],.bool false],[],prH p) else bif smC p.ss p.sh then some (.tuple [conA p.st p.ss p.sh,.bool true],[],prH p) else none):=by kernel_rfl
    rw [hc] at h
    rcases Tr.br_or hv2 with ⟨he,h4⟩ | ⟨he,h4⟩
    · cases h4
      rw [he] at h
      exact ⟨rfl,rfl,⟨rfl,rfl,rfl,rfl,rfl,rfl⟩,fun _=>rfl,fun _ _=>fun_call _ mixed (by kernel_rfl) (by kernel_rfl) (no_loops (by kernel_rfl)) h⟩
    · cases h4
      rw [he] at h
      exact ⟨rfl,rfl,⟨rfl,rfl,rfl,rfl,rfl,rfl⟩,fun _=>rfl,fun _ _=>fun_call _ mixed (by kernel_rfl) (by kernel_rfl) (no_loops (by kernel_rfl)) h⟩
  · cases hv
def choE:Ent PR A:=⟨n_paxos_Proposer_Chosen,_,cho_ok⟩
def staF:List AV → PrS → Tr (AV × Bool × PrS)
  | [.int .i64 r],p=>.br (decide (p.nodes.length ≤ 100000)) (.yes (.tuple [.slice MsT (ofMs (stL p r)) .view,.int .i64 (stE p r)],true,stZ p r)) .no
  | _,_=>.no
theorem sta_ok:Con PR A n_paxos_Proposer_Start (objNC (prN staF)):=by
  refine objNC_ok (prN_many fun rest p v w p' hv=>?_)
  unfold staF at hv
  split at hv
  · rename_i r
    obtain ⟨hc,hv2⟩:=Tr.br_no hv
    cases hv2
    refine ⟨rfl,rfl,by unfold stZ; cases stOK p r <;> exact ⟨rfl,rfl,rfl,rfl,rfl,rfl⟩,(fun h=>nomatch h),fun _ _=>?_⟩
    have h:∃ wr,subW wr prW = true ∧ body PR (cfE (P:=PR) (A:=A) [palE]) cfgPx lf0 n_paxos_Proposer_Start [.ptr 1 0 0,.int .i64 r] (prH p) some =
      (bif decide (r < 0) then some (.tuple [.slice MsT [] .view,.int .i64 1],[],prH p) else bif decide (r > 1073741824) then some (.tuple [.slice MsT [] .view,.int .i64 1],[],prH p)
      else bif decide (stB p r ≤ p.ba) then some (.tuple [.slice MsT [] .view,.int .i64 1],[],prH p)
      else bif decide (p.nodes.length ≤ 100000) && smC [] [] then some (.tuple [.slice MsT (ofMs (allM { p with ba:=stB p r,st:=p.ct,ss:=p.cs,sh:=p.ch,old:=0,pm:=[],am:=[],asked:=false,done:=false } prepM)) .view,.int .i64 0],wr,prH { p with ba:=stB p r,st:=p.ct,ss:=p.cs,sh:=p.ch,old:=0,pm:=[],am:=[],asked:=false,done:=false }) else none) :=
      ⟨[(1,2),(1,1),(1,0),(1,0),(1,0),(1,0),(1,0)],rfl,by kernel_rfl⟩
    obtain ⟨wr,hw,h⟩:=h
    rw [hc] at h
    have hs:smC [] [] = true:=rfl
    rw [hs] at h
    have key:∀ wr',subW wr' prW = true → body PR (cfE (P:=PR) (A:=A) [palE]) cfgPx lf0 n_paxos_Proposer_Start [.ptr 1 0 0,.int .i64 r] (prH p) some = some (.tuple [.slice MsT (ofMs (stL p r)) .view,.int .i64 (stE p r)],wr',prH (stZ p r)) → SimCall PR A n_paxos_Proposer_Start [.ptr 1 0 0,.int .i64 r] (prH p) (.tuple [.slice MsT (ofMs (stL p r)) .view,.int .i64 (stE p r)],prW,prH (stZ p r)) :=
      fun wr' h1 h2=>SimCall.wr (fun_call _ mixed (by kernel_rfl) (by kernel_rfl) (no_loops (by kernel_rfl)) h2) (subW_le h1)
    unfold stL stE stZ stOK at key ⊢
    cases h1:decide (r < 0) with
    | true=>rw [h1] at h key; exact key [] rfl h
    | false =>
    cases h2:decide (r > 1073741824) with
    | true=>rw [h1,h2] at h key; exact key [] rfl h
    | false =>
    cases h3:decide (stB p r ≤ p.ba) with
    | true=>rw [h1,h2,h3] at h key; exact key [] rfl h
    | false=>rw [h1,h2,h3] at h key; exact key wr hw h
  · cases hv
def staE:Ent PR A:=⟨n_paxos_Proposer_Start,_,sta_ok⟩
end Go.Crc
namespace Go.Crc
open Go.Vm Go.Pack Go.Rec Go.RowKit
theorem smM {m:Msg} (h:rightM m = true):smC m.cs m.ch = true:=by
  rcases right_con (right_p h) with ⟨_,h1,h2⟩ | h
  · rw [h1,h2]; rfl
  · unfold confM at h
    rw [Bool.and_eq_true] at h
    exact smC_of h.1
noncomputable abbrev EHe:List (Ent PR A):=[mrightE,conE,copE,penE,palE]
def heNo (p:PrS) (wr:Wr):Option Res:=some (.slice MsT [] .view,wr,prH p)
def heEn (p:PrS) (wr:Wr):Option Res :=
  bif Nat.ble (lenN p.pm) maxInt then bif decide (IntKind.i64.wrap (2 * (lenN p.pm:Nat)) > (p.nodes.length:Int)) then
    bif decide (p.nodes.length ≤ 100000) && smC p.ss p.sh then some (.slice MsT (ofMs (allM { p with asked:=true } { msg0 with k:=9,ct:=p.st,cs:=p.ss,ch:=p.sh })) .view,(1,0) :: wr,prH { p with asked:=true }) else none
  else heNo p wr else none
def heAc (p:PrS) (m:Msg):Option Res :=
  bif m.k == 10 then bif p.asked then bif m.is then bif p.done then heNo { p with am:=addI m.f p.am,done:=true } [(1,0),(1,2)]
    else bif Nat.ble (lenN (addI m.f p.am)) maxInt then heNo { p with am:=addI m.f p.am,done:=decide (IntKind.i64.wrap (2 * (lenN (addI m.f p.am):Nat)) > (p.nodes.length:Int)) } [(1,0),(1,2)] else none
  else heNo p [] else heNo p [] else heNo p []
theorem he_eq (p:PrS) (m:Msg):body PR (cfE EHe) cfgPx lf0 n_paxos_Proposer_Heard [.ptr 1 0 0,msgA m] (prH p) some =
    (bif !rightM m then heNo p [] else bif m.t != p.id then heNo p [] else bif m.te != p.sl then heNo p [] else bif m.ba != p.ba then heNo p [] else bif !(p.nodes.any fun y=>m.f == y) then heNo p []
    else bif m.k == 8 then bif !p.asked then
        bif decide (m.ol > p.old) then bif smC m.cs m.ch then heEn { p with pm:=addI m.f p.pm,old:=m.ol,st:=m.ct,ss:=m.cs,sh:=m.ch } [(1,0),(1,0),(1,1)] else none
        else heEn { p with pm:=addI m.f p.pm } [(1,1)]
      else heAc p m
    else heAc p m):=by kernel_rfl
def heF:List AV → PrS → Tr (AV × Bool × PrS)
  | [.agg mc],p=>match msgOf mc with
    | some m=>.br (decide (p.nodes.length ≤ 100000) && (smC p.ss p.sh && (decide (p.pm.length ≤ 1000000) && decide (p.am.length ≤ 1000000)))) (.yes (.slice MsT (ofMs (heL p m)) .view,true,heZ p m)) .no
    | none=>.no
  | _,_=>.no
theorem addI_len (n:Int) (l:List Int):(addI n l).length ≤ l.length + 1:=by
  unfold addI
  cases memI n l <;> simp [app_eq]
theorem heEn_ok {p q:PrS} {m:Msg} {wr:Wr} (hw:subW wr prW = true) (hn:p.nodes.length ≤ 100000) (hs:smC p.ss p.sh = true) (hp:p.pm.length ≤ 2000000) :
    ∃ wr',subW wr' prW = true ∧ heEn p wr = some (.slice MsT (ofMs (bif enoughB p.pm.length p.nodes.length then allM { p with asked:=true } (accM { p with asked:=true }) else [])) .view,wr',prH (bif enoughB p.pm.length p.nodes.length then { p with asked:=true } else p)):=by
  unfold heEn enoughB
  rw [lenN_eq,hs,decide_eq_true hn,show Nat.ble p.pm.length maxInt = true from (ble_iff _ _).2 (by simp only [maxInt]; omega)]
  cases decide (IntKind.i64.wrap (2 * (p.pm.length:Int)) > (p.nodes.length:Int)) with
  | true=>exact ⟨(1,0) :: wr,by simp only [subW,hw]; rfl,rfl⟩
  | false=>exact ⟨wr,hw,rfl⟩
theorem he_res {p:PrS} (m:Msg) (hn:p.nodes.length ≤ 100000) (hs:smC p.ss p.sh = true) (hp:p.pm.length ≤ 1000000) (ha:p.am.length ≤ 1000000) :
    ∃ wr,subW wr prW = true ∧ body PR (cfE EHe) cfgPx lf0 n_paxos_Proposer_Heard [.ptr 1 0 0,msgA m] (prH p) some = some (.slice MsT (ofMs (heL p m)) .view,wr,prH (heZ p m)):=by
  rw [he_eq]
  unfold heL heZ heMine
  cases hr:rightM m with
  | false=>exact ⟨[],rfl,rfl⟩
  | true =>
  rw [bne,bne,bne]
  cases m.t == p.id with
  | false=>exact ⟨[],rfl,rfl⟩
  | true =>
  cases m.te == p.sl with
  | false=>exact ⟨[],rfl,rfl⟩
  | true =>
  cases m.ba == p.ba with
  | false=>exact ⟨[],rfl,rfl⟩
  | true =>
  cases p.nodes.any fun y=>m.f == y with
  | false=>exact ⟨[],rfl,rfl⟩
  | true =>
  simp only [Bool.not_true,Bool.not_false,cond_false,cond_true,Bool.true_and,Bool.and_true]
  have hAc:∀ (h8:heIsP p m = false),∃ wr,subW wr prW = true ∧ heAc p m = some (.slice MsT (ofMs (bif heIsP p m && enoughB (heP2 (heP1 p m) m).pm.length p.nodes.length then allM (heP p m) (accM (heP p m)) else [])) .view,wr,prH (bif heIsP p m then heP p m else bif heIsA p m then heA p m else p)):=by
    intro h8
    rw [h8]
    unfold heAc heIsA heA heA1 enoughB
    cases m.k == 10 with
    | false=>exact ⟨[],rfl,rfl⟩
    | true =>
    cases hask:p.asked with
    | false=>exact ⟨[],rfl,rfl⟩
    | true =>
    cases m.is with
    | false=>exact ⟨[],rfl,rfl⟩
    | true =>
    have hl:=addI_len m.f p.am
    rw [lenN_eq,show Nat.ble (addI m.f p.am).length maxInt = true from (ble_iff _ _).2 (by simp only [maxInt]; omega)]
    cases p.done with
    | true=>exact ⟨_,rfl,rfl⟩
    | false=>exact ⟨_,rfl,rfl⟩
  cases h8:m.k == 8 with
  | false=>exact hAc (by unfold heIsP; rw [h8]; rfl)
  | true =>
  cases hask:p.asked with
  | true=>exact hAc (by unfold heIsP; rw [h8,hask]; rfl)
  | false =>
  have hP:heIsP p m = true:=by unfold heIsP; rw [h8,hask]; rfl
  rw [hP]
  have hl:=addI_len m.f p.pm
  simp only [Bool.not_false,cond_true,Bool.true_and]
  have key:∀ (q:PrS) (wr:Wr),heP2 (heP1 p m) m = q → subW wr prW = true → q.nodes = p.nodes → smC q.ss q.sh = true → q.pm.length ≤ 2000000 → ∃ wr',subW wr' prW = true ∧ heEn q wr =
      some (.slice MsT (ofMs (bif enoughB (heP2 (heP1 p m) m).pm.length p.nodes.length then allM (heP p m) (accM (heP p m)) else [])) .view,wr',prH (heP p m)):=by
    intro q wr hq hw hqn hqs hqp
    obtain ⟨wr',h1,h2⟩:=heEn_ok (p:=q) (m:=m) (q:=p) hw (by rw [hqn]; exact hn) hqs hqp
    refine ⟨wr',h1,h2.trans ?_⟩
    unfold heP
    rw [hq,← hqn]
    cases enoughB q.pm.length q.nodes.length <;> rfl
  cases hd:decide (m.ol > p.old) with
  | true =>
    rw [smM hr]
    simp only [cond_true]
    refine key _ [(1,0),(1,0),(1,1)] ?_ rfl rfl (smM hr) (by show (addI m.f p.pm).length ≤ _; omega)
    unfold heP2
    have e:decide (m.ol > (heP1 p m).old) = true:=hd
    rw [e]
    simp only [cond_true,heP1,hask]
  | false =>
    simp only [cond_false]
    refine key _ [(1,1)] ?_ rfl rfl hs (by show (addI m.f p.pm).length ≤ _; omega)
    unfold heP2
    have e:decide (m.ol > (heP1 p m).old) = false:=hd
    rw [e]
    simp only [cond_false,heP1,hask]
theorem heZ_ids (p:PrS) (m:Msg):(heZ p m).id = p.id ∧ (heZ p m).sl = p.sl ∧ (heZ p m).nodes = p.nodes ∧ (heZ p m).ct = p.ct ∧ (heZ p m).cs = p.cs ∧ (heZ p m).ch = p.ch:=by
  unfold heZ
  cases heMine p m with
  | false=>exact ⟨rfl,rfl,rfl,rfl,rfl,rfl⟩
  | true =>
    cases heIsP p m with
    | true =>
      simp only [cond_true]
      unfold heP
      cases enoughB (heP2 (heP1 p m) m).pm.length p.nodes.length <;> (unfold heP2; cases decide (m.ol > (heP1 p m).old) <;> exact ⟨rfl,rfl,rfl,rfl,rfl,rfl⟩)
    | false=>cases heIsA p m <;> exact ⟨rfl,rfl,rfl,rfl,rfl,rfl⟩
theorem he_ok:Con PR A n_paxos_Proposer_Heard (objNC (prN heF)):=by
  refine objNC_ok (prN_many fun rest p v w p' hv=>?_)
  unfold heF at hv
  split at hv
  · rename_i mc
    split at hv
    · rename_i m hm
      have:=msgOf_some hm
      subst this
      obtain ⟨hc,hv2⟩:=Tr.br_no hv
      cases hv2
      simp only [Bool.and_eq_true,decide_eq_true_eq] at hc
      obtain ⟨c1,c2,c3,c4⟩:=hc
      refine ⟨rfl,rfl,heZ_ids p m,(fun h=>nomatch h),fun _ _=>?_⟩
      obtain ⟨wr,h1,h2⟩:=he_res m c1 c2 c3 c4
      exact SimCall.wr (fun_call _ mixed (by kernel_rfl) (by kernel_rfl) (no_loops (by kernel_rfl)) h2) (subW_le h1)
    · cases hv
  · cases hv
def heE:Ent PR A:=⟨n_paxos_Proposer_Heard,_,he_ok⟩
end Go.Crc
namespace Go.Crc
open Go.Vm Go.Pack Go.Rec Go.RowKit
def wrE (z:AcS) (x:AcV):Int:=bif appOK z.b (acB x) z.o then 0 else (bif z.o then 81 else 80)
def wrZ (z:AcS) (x:AcV):AcS:=bif appOK z.b (acB x) z.o then { z with v:=x,b:=z.b ++ frB (acB x) } else z
def syA (z:AcS):AcS:={ z with n:=bif z.o then z.n else z.b.length }
def tkMine (z:AcS) (m:Msg):Bool:=(m.k == 7 || m.k == 9) && (rightM m && (m.t == z.id && m.te == z.sl))
def tkX (z:AcS) (m:Msg):AcV:=bif m.k == 9 then ⟨m.ba,m.ba,m.ct,m.cs,m.ch⟩ else ⟨m.ba,z.v.ac,z.v.ct,z.v.cs,z.v.ch⟩
def tkOut (z:AcS) (m:Msg):Msg:=bif m.k == 9 then { msg0 with k:=10,f:=z.id,t:=m.f,te:=z.sl,ba:=m.ba,is:=true } else { msg0 with k:=8,f:=z.id,t:=m.f,te:=z.sl,ba:=m.ba,ol:=z.v.ac,ct:=z.v.ct,cs:=z.v.cs,ch:=z.v.ch }
def tkNew (z:AcS) (m:Msg):Bool:=(tkX z m).pr != z.v.pr || ((tkX z m).ac != z.v.ac || !((tkX z m).ct == z.v.ct && ((tkX z m).cs == z.v.cs && (tkX z m).ch == z.v.ch)))
def tkE0 (z:AcS) (m:Msg):Int:=bif tkNew z m then wrE z (tkX z m) else 0
def tkZ0 (z:AcS) (m:Msg):AcS:=bif tkNew z m then wrZ z (tkX z m) else z
def ptkE (z:AcS) (m:Msg):Int:=bif tkMine z m then (bif decide (m.ba < z.v.pr) then 130 else tkE0 z m) else 1
def ptkZ (z:AcS) (m:Msg):AcS:=bif tkMine z m then (bif decide (m.ba < z.v.pr) then z else bif tkE0 z m == 0 then syA (tkZ0 z m) else z) else z
def ptkM (z:AcS) (m:Msg):Msg:=bif ptkE z m == 0 then tkOut z m else msg0
def rrZ (z:AcS):AcS:={ z with v:=fvR z.sl (scanL z.b) av0 }
def pcrZ (z:AcS) (k:Int):AcS:=rrZ { z with b:=crB z.b z.n k,n:=scanN (crT z.b z.n k),o:=false }
abbrev acCl (z:AcS):List AV:=[.int .i64 z.id,.int .i64 z.sl,.ptr 0 1 0,.int .i64 z.v.pr,.int .i64 z.v.ac,.int .i64 z.v.ct,.slice (.int .i64) z.v.cs .view,.slice RowT z.v.ch .view]
abbrev astC (b:List Int) (n:Int) (o:Bool):List AV:=[.slice (.int .u8) b .own,.int .i64 n,.bool o]
abbrev acH (z:AcS):Stack:=[[],[.cells (acCl z),.cells (astC z.b z.n z.o)]]
def acF (w0 w1:Bool) (f:List AV → AcS → Tr (AV × AcS)):F2:=fun rest cs ds=>match cs,ds with
  | [.int .i64 i,.int .i64 s,.ptr 0 1 0,.int .i64 pr,.int .i64 ac,.int .i64 ct,.slice (.int .i64) c .view,.slice (.slice (.int .i64)) ch .view],[.slice (.int .u8) b .own,.int .i64 n,.bool o] =>
    mapT (fun y=>(y.1,w0,w1,acCl { y.2 with id:=i,sl:=s },astC y.2.b y.2.n y.2.o)) (f rest ⟨i,s,⟨pr,ac,ct,c,ch⟩,b,n,o⟩)
  | _,_=>.no
theorem ac_two {g:Nat} {hd:Nat → Nat → Nat → Nat → AV} {w0 w1:Bool} {f:List AV → AcS → Tr (AV × AcS)}
    (h:∀ rest z v z',(f rest z).val = some (v,z') → noPtr.noPtrs rest = true ∧ ptrsIn (pV 2) v = true ∧ (z'.id = z.id ∧ z'.sl = z.sl) ∧ (w0 = false → z'.v = z.v) ∧ (w1 = false → z'.b = z.b ∧ z'.n = z.n ∧ z'.o = z.o) ∧
      (okAVs rest → okH (acH z) → SimCall PR A g (hd 1 0 1 1 :: rest) (acH z) (v,wr2 1 0 1 1 w0 w1,acH z'))):Two PR A g hd (acF w0 w1 f):=by
  intro rest cs ds v w0' w1' cs' ds' hv
  unfold acF at hv
  split at hv
  · obtain ⟨⟨v1,z'⟩,h1,h2⟩:=mapT_val _ hv
    cases h2
    obtain ⟨g1,g2,⟨q1,q2⟩,g3,g4,g5⟩:=h _ _ _ _ h1
    obtain ⟨i',s',v',b',n',o'⟩:=z'
    simp only at q1 q2 g3 g4
    subst q1 q2
    refine ⟨g1,rfl,g2,rfl,rfl,fun hw=>?_,fun hw=>?_,g5⟩
    · have:=g3 hw
      subst this
      rfl
    · obtain ⟨r1,r2,r3⟩:=g4 hw
      subst r1 r2 r3
      rfl
  · cases hv
abbrev avA (v:AcV):AV:=.agg [.int .i64 v.pr,.int .i64 v.ac,.int .i64 v.ct,.slice (.int .i64) v.cs .view,.slice RowT v.ch .view]
def ardF:F2:=fun rest cs ds=>match rest,cs,ds with
  | [.slice (.int .u8) f .view],[.int .i64 i,.int .i64 s,.ptr 0 1 0,.int .i64 pr,.int .i64 ac,.int .i64 ct,.slice (.int .i64) c l1,.slice (.slice (.int .i64)) ch l2],[.slice (.int .u8) b .own,.int .i64 n,.bool o] =>
    .br (decide (f.length ≤ 1000000)) (.yes (.tuple [avA (fvV f),.bool (fvB f s)],false,false,[.int .i64 i,.int .i64 s,.ptr 0 1 0,.int .i64 pr,.int .i64 ac,.int .i64 ct,.slice (.int .i64) c l1,.slice (.slice (.int .i64)) ch l2],astC b n o)) .no
  | _,_,_=>.no
abbrev acLs (i s pr ac ct:Int) (c:List Int) (l1:Lv) (ch:List (List Int)) (l2:Lv) (b:List Int) (n:Int) (o:Bool):Stack:=[[],[.cells [.int .i64 i,.int .i64 s,.ptr 0 1 0,.int .i64 pr,.int .i64 ac,.int .i64 ct,.slice (.int .i64) c l1,.slice (.slice (.int .i64)) ch l2],.cells (astC b n o)]]
def rdNo (S:Stack):Option Res:=some (.tuple [avA av0,.bool false],[],S)
theorem ard_eq (i s pr ac ct:Int) (c:List Int) (l1:Lv) (ch:List (List Int)) (l2:Lv) (b:List Int) (n:Int) (o:Bool) (f:List Int):body PR (cfE (P:=PR) (A:=A) [newReaderE,numE,textE,endE,tdE']) cfgPx lf0 n_paxos_Acceptor_read [.ptr 1 0 0,.slice (.int .u8) f .view] (acLs i s pr ac ct c l1 ch l2 b n o) some =
    (bif decide (f.length ≤ 140737488355328) then bif endR (ra3 f).1 != 0 then rdNo (acLs i s pr ac ct c l1 ch l2 b n o) else bif !(((ra3 f).2 == []) == ((ra2 f).2 == 0)) then rdNo (acLs i s pr ac ct c l1 ch l2 b n o) else bif decide ((ra2 f).2 > (ra1 f).2) then rdNo (acLs i s pr ac ct c l1 ch l2 b n o)
    else bif (ra3 f).2 == [] then some (.tuple [avA ⟨(ra1 f).2,(ra2 f).2,0,[],[]⟩,.bool true],[],acLs i s pr ac ct c l1 ch l2 b n o)
    else bif decide ((ra3 f).2.length ≤ 140737488355328) then bif tdE (ra3 f).2 == 0 then some (.tuple [avA ⟨(ra1 f).2,(ra2 f).2,tdT (ra3 f).2,tdS (ra3 f).2,tdH (ra3 f).2⟩,.bool (tdT (ra3 f).2 == s)],[],acLs i s pr ac ct c l1 ch l2 b n o) else some (.tuple [avA ⟨(ra1 f).2,(ra2 f).2,tdT (ra3 f).2,tdS (ra3 f).2,tdH (ra3 f).2⟩,.bool false],[],acLs i s pr ac ct c l1 ch l2 b n o) else none
    else none):=by kernel_rfl
theorem ard_ok:Con PR A n_paxos_Acceptor_read (obj2C ardF):=by
  refine obj2C_ok fun rest cs ds v w0 w1 cs' ds' hv=>?_
  unfold ardF at hv
  split at hv
  · rename_i f i s pr ac ct c l1 ch l2 b n o
    obtain ⟨hc,hv2⟩:=Tr.br_no hv
    cases hv2
    simp only [decide_eq_true_eq] at hc
    refine ⟨rfl,rfl,rfl,rfl,rfl,fun _=>rfl,fun _=>rfl,fun ha hh=>?_⟩
    refine fun_call _ mixed (by kernel_rfl) (by kernel_rfl) (no_loops (by kernel_rfl)) ((ard_eq i s pr ac ct c l1 ch l2 b n o f).trans ?_)
    rw [decide_eq_true (show f.length ≤ 140737488355328 by omega),decide_eq_true (show (ra3 f).2.length ≤ 140737488355328 by have:=ra3_len f; omega)]
    unfold rdNo fvV fvB fvBad
    rw [← bne]
    cases endR (ra3 f).1 != 0 with
    | true=>rfl
    | false =>
    cases ((ra3 f).2 == []) != ((ra2 f).2 == 0) with
    | true=>rfl
    | false =>
    cases decide ((ra2 f).2 > (ra1 f).2) with
    | true=>rfl
    | false =>
    cases (ra3 f).2 == [] with
    | true=>rfl
    | false=>cases tdE (ra3 f).2 == 0 <;> rfl
  · cases hv
def ardE:Ent PR A:=⟨n_paxos_Acceptor_read,_,ard_ok⟩
abbrev acO (i s:Int) (v:AcV) (lv:Lv):Ob:=.cells [.int .i64 i,.int .i64 s,.ptr 0 1 0,.int .i64 v.pr,.int .i64 v.ac,.int .i64 v.ct,.slice (.int .i64) v.cs lv,.slice RowT v.ch lv]
def arStep (sl:Int) (i:Int) (f:List Int) (s:AcV × Lv × Wr) (k:AcV × Lv × Wr → Option Res):Option Res :=
  bif decide (f.length ≤ 1000000) then bif fvB f sl then k (fvV f,.view,app [(2,0),(0,0)] s.2.2) else k (s.1,s.2.1,app [(0,0)] s.2.2) else none
theorem ar_fold (sl:Int) (E:AcV × Lv × Wr → Option Res):∀ (l:List (List Int)) (j:Nat) (v:AcV) (lv:Lv) (wr:Wr),(∀ f ∈ l,f.length ≤ 1000000) → foldK (arStep sl) E j l (v,lv,wr) = E (fvR sl l v,fvL sl l lv,app (fvW sl l) wr)
  | [],j,v,lv,wr,_=>rfl
  | f :: r,j,v,lv,wr,h=>by
    have hf:=h f (by simp)
    rw [show foldK (arStep sl) E j (f :: r) (v,lv,wr) = (bif decide (f.length ≤ 1000000) then bif fvB f sl then foldK (arStep sl) E (j + 1) r (fvV f,.view,app [(2,0),(0,0)] wr) else foldK (arStep sl) E (j + 1) r (v,lv,app [(0,0)] wr) else none) from rfl]
    rw [decide_eq_true hf,cond_true,ar_fold sl E r (j + 1) _ _ _ (fun g hg=>h g (by simp [hg])),ar_fold sl E r (j + 1) _ _ _ (fun g hg=>h g (by simp [hg]))]
    simp only [fvR,fvW,fvL]
    cases fvB f sl <;> simp only [cond_true,cond_false,app_eq,List.append_assoc]
def smF (fl:List (List Int)):Bool:=decide (fl.length ≤ 20000) && fl.all fun f=>decide (f.length ≤ 1000000)
def lfAr:Nat → Option LoopSum:=lfOf [(14,loopT [0,14,15,16] [] fun vs H=>match vs,H with
  | [.ptr 2 0 0,.slice (.slice (.int .u8)) fl .view,.int .i64 m,.int .i64 i],[[],[],[.cells [.int .i64 a,.int .i64 sl,.ptr 0 1 0,.int .i64 pr,.int .i64 ac,.int .i64 ct,.slice (.int .i64) c .own,.slice (.slice (.int .i64)) ch .own],.cells [.slice (.int .u8) b .own,.int .i64 n,.bool o]]] =>
    .br (decide (m = fl.length) && (decide (i = 0) && smF fl)) (.yes (.exit 0,[],[[],[],[acO a sl (fvR sl fl ⟨pr,ac,ct,c,ch⟩) (fvL sl fl .own),.cells (astC b n o)]],fvW sl fl)) .no
  | _,_=>.no)]
noncomputable abbrev EAr:List (Ent PR A):=[stFrE,ardE]
theorem ar_loops:∀ x ∈ funLoops PR n_paxos_Acceptor_reread,∀ L,lfAr x.1 = some L → LoopOK (ntm PR n_paxos_Acceptor_reread) (fun fr H wr k=>code PR (cfE EAr) cfgPx lfAr (cfgPx.live n_paxos_Acceptor_reread) x.2 (2 * x.1) fr H wr k) L:=by
  refine one_loop (p:=14) rfl (by kernel_rfl) (loopT_ok (by decide) fun vs H wr ex vs' H' w hv ha hh=>?_)
  split at hv
  · rename_i fl m i a sl pr ac ct c ch b n o
    obtain ⟨hc,hv2⟩:=Tr.br_no hv
    clear hv
    unfold smF at hc
    simp only [Bool.and_eq_true,decide_eq_true_eq,List.all_eq_true] at hc
    obtain ⟨hm,rfl,hn,hl⟩:=hc
    cases hv2
    refine ⟨fl.length + 1,fun k=>?_⟩
    have:=fold_loop (F:=fun N i (x:AcV × Lv × Wr)=>LC PR (cfE EAr) cfgPx lfAr n_paxos_Acceptor_reread 0 14 [0,14,15,16] [] N [.ptr 2 0 0,.slice TRow fl .view,.int .i64 m,.int .i64 i] [[],[],[acO a sl x.1 x.2.1,.cells (astC b n o)]] x.2.2 k)
      (step:=arStep sl) (E:=fun x=>k (.exit 0) [] [[],[],[acO a sl x.1 x.2.1,.cells (astC b n o)]] x.2.2) hm (by simp only [maxInt]; omega) (fun N i x=>by kernel_rfl) fl.length 0 (⟨pr,ac,ct,c,ch⟩,.own,wr) (by omega)
    rw [List.drop_zero,ar_fold _ _ _ _ _ _ _ hl] at this
    exact this
  · cases hv
theorem fvW_outer (sl:Int) (l i:Nat) (hm:memWr l i [(1,0)] = false):∀ (fl:List (List Int)) (wr:Wr),memWr l i (outer wr) = false → memWr l i (outer (app (fvW sl fl) wr)) = false
  | [],wr,h=>h
  | f :: r,wr,h=>by
    have e:app (fvW sl (f :: r)) wr = app (fvW sl r) (app (bif fvB f sl then [(2,0),(0,0)] else [(0,0)]) wr):=by
      simp only [fvW,app_eq,List.append_assoc]
    rw [e]
    refine fvW_outer sl l i hm r _ ?_
    simp only [memWr,Bool.or_false] at hm
    cases fvB f sl with
    | true=>simp only [cond_true,app,outer,memWr,hm,Bool.false_or]; exact h
    | false=>exact h
theorem scan_smF {b:List Int} (hb:isBytes b) (h:b.length ≤ 65536):smF (scanL b) = true:=by
  have h1:=scan_count hb
  have h2:=scan_small b.length b (Nat.le_refl _) hb
  unfold smF
  rw [decide_eq_true (show (scanL b).length ≤ 20000 by omega)]
  simp only [Bool.true_and,List.all_eq_true,decide_eq_true_eq]
  intro x hx
  have:=(h2 x hx).1
  omega
def arrF:F2:=fun rest cs ds=>match rest,cs,ds with
  | [],[.int .i64 i,.int .i64 s,.ptr 0 1 0,.int .i64 pr,.int .i64 ac,.int .i64 ct,.slice (.int .i64) c l1,.slice (.slice (.int .i64)) ch l2],[.slice (.int .u8) b .own,.int .i64 n,.bool o] =>
    .br (decide (b.length ≤ 65536)) (.yes (.tuple [],true,false,acCl (rrZ ⟨i,s,⟨pr,ac,ct,c,ch⟩,b,n,o⟩),astC b n o)) .no
  | _,_,_=>.no
theorem arr_ok:Con PR A n_paxos_Acceptor_reread (obj2C arrF):=by
  refine obj2C_ok fun rest cs ds v w0 w1 cs' ds' hv=>?_
  unfold arrF at hv
  split at hv
  · rename_i i s pr ac ct c l1 ch l2 b n o
    obtain ⟨hc,hv2⟩:=Tr.br_no hv
    cases hv2
    simp only [decide_eq_true_eq] at hc
    refine ⟨rfl,rfl,rfl,rfl,rfl,(fun h=>nomatch h),fun _=>rfl,fun _ hh=>?_⟩
    have hb:isBytes b:=by
      have:=hh 1 1 _ rfl
      simp only [okAVs,okAV] at this
      exact this.1.2
    have h:body PR (cfE EAr) cfgPx lfAr n_paxos_Acceptor_reread [.ptr 1 0 0] [[],[.cells [.int .i64 i,.int .i64 s,.ptr 0 1 0,.int .i64 pr,.int .i64 ac,.int .i64 ct,.slice (.int .i64) c l1,.slice (.slice (.int .i64)) ch l2],.cells (astC b n o)]] some =
      (bif decide (b.length ≤ 1000000) then bif decide (((scanL b).length:Int) = ((scanL b).length:Int)) && (decide ((0:Int) = 0) && smF (scanL b)) then some (.tuple [],outer (app (fvW s (scanL b)) [(2,0)]),[[],[acO i s (fvR s (scanL b) av0) (fvL s (scanL b) .own),.cells (astC b n o)]]) else none else none):=by kernel_rfl
    rw [decide_eq_true (show b.length ≤ 1000000 by omega),scan_smF hb hc,decide_eq_true rfl,decide_eq_true rfl] at h
    have h1:=SimCall.wr (wr':=[(1,0)]) (fun_call (P:=PR) (A:=A) _ mixed (by kernel_rfl) (by kernel_rfl) ar_loops h) fun l i hm=>fvW_outer s l i hm _ _ hm
    have hlv:lvLe (fvL s (scanL b) .own) .view = true:=by
      rcases fvL_or s (scanL b) .own with h | h <;> rw [h] <;> rfl
    exact SimCall.weak (l:=1) (i:=0) (cs':=acCl (rrZ ⟨i,s,⟨pr,ac,ct,c,ch⟩,b,n,o⟩)) h1 rfl ⟨.refl _,.refl _,.refl _,.refl _,.refl _,.refl _,.sl _ _ _ _ hlv,.sl _ _ _ _ hlv,trivial⟩
  · cases hv
def arrE:Ent PR A:=⟨n_paxos_Acceptor_reread,_,arr_ok⟩
end Go.Crc
