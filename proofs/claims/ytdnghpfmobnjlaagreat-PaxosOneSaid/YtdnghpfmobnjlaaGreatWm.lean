/- Contracts of functions of this program. Conditions: none. -/
import Derived.Test.YtdnghpfmobnjlaaGreatWl
set_option linter.unusedVariables false
set_option linter.unusedSimpArgs false
set_option maxRecDepth 100000
namespace Go.Crc
open Go.Vm Go.Pack Go.Rec Go.RowKit
def goodA (z:AcS):Bool:=decide (z.b.length ≤ 65536) && (decide (0 ≤ z.n) && (decide (z.n ≤ (z.b.length:Int)) && smC z.v.cs z.v.ch))
theorem goodA_iff {z:AcS}:goodA z = true ↔ z.b.length ≤ 65536 ∧ 0 ≤ z.n ∧ z.n ≤ (z.b.length:Int) ∧ smC z.v.cs z.v.ch = true:=by
  unfold goodA
  simp only [Bool.and_eq_true,decide_eq_true_eq]
def aprF:List AV → AcS → Tr (AV × AcS)
  | [],z=>.yes (.int .i64 z.v.pr,z)
  | _,_=>.no
theorem apr_ok:Con PR A n_paxos_Acceptor_Promised (obj2C (acF false false aprF)):=by
  refine obj2C_ok (ac_two fun rest z v z' hv=>?_)
  unfold aprF at hv
  split at hv
  · cases hv
    refine ⟨rfl,rfl,⟨rfl,rfl⟩,fun _=>rfl,fun _=>⟨rfl,rfl,rfl⟩,fun _ _=>?_⟩
    have h:body PR (cfE (P:=PR) (A:=A) []) cfgPx lf0 n_paxos_Acceptor_Promised [.ptr 1 0 0] (acH z) some = some (.int .i64 z.v.pr,[],acH z):=by kernel_rfl
    exact fun_call _ mixed (by kernel_rfl) (by kernel_rfl) (no_loops (by kernel_rfl)) h
  · cases hv
def aprE:Ent PR A:=⟨n_paxos_Acceptor_Promised,_,apr_ok⟩
theorem acN_len (v:AcV):(acN v).length ≤ 18:=by
  unfold acN
  cases okAll [v.pr,v.ac] with
  | true =>
    have:=nums_len [v.pr,v.ac]
    simp only [cond_true,List.nil_append,List.length_cons,List.length_nil] at this ⊢
    omega
  | false=>simp
theorem awr_eq (z:AcS) (x:AcV):body PR (cfE (P:=PR) (A:=A) [pnumE,teE,ptextE,stApE]) cfgPx lf0 n_paxos_Acceptor_write [.ptr 1 0 0,avA x] (acH z) some =
    (bif decide ((acN x).length ≤ 100000000) then bif decide (z.b.length ≤ 1000000) then
      bif appOK z.b (acB x) z.o then some (.int .i64 0,[(1,0),(1,1)],acH { z with v:=x,b:=z.b ++ frB (acB x) })
      else bif (bif z.o then 81 else 80:Int) == 0 then some (.int .i64 (bif z.o then 81 else 80),[(1,0)],acH { z with v:=x })
      else some (.int .i64 (bif z.o then 81 else 80),[],acH z)
    else none else none):=by kernel_rfl
def awrF:List AV → AcS → Tr (AV × AcS)
  | [.agg [.int .i64 pr,.int .i64 ac,.int .i64 ct,.slice (.int .i64) cs .view,.slice (.slice (.int .i64)) ch .view]],z=>.br (decide (z.b.length ≤ 1000000)) (.yes (.int .i64 (wrE z ⟨pr,ac,ct,cs,ch⟩),wrZ z ⟨pr,ac,ct,cs,ch⟩)) .no
  | _,_=>.no
theorem awr_ok:Con PR A n_paxos_Acceptor_write (obj2C (acF true true awrF)):=by
  refine obj2C_ok (ac_two fun rest z v z' hv=>?_)
  unfold awrF at hv
  split at hv
  · rename_i pr ac ct cs ch
    obtain ⟨hc,hv2⟩:=Tr.br_no hv
    cases hv2
    refine ⟨rfl,rfl,by unfold wrZ; cases appOK z.b (acB ⟨pr,ac,ct,cs,ch⟩) z.o <;> exact ⟨rfl,rfl⟩,(fun h=>nomatch h),(fun h=>nomatch h),fun _ _=>?_⟩
    have h:=awr_eq z ⟨pr,ac,ct,cs,ch⟩
    rw [hc,decide_eq_true (show (acN ⟨pr,ac,ct,cs,ch⟩).length ≤ 100000000 by have:=acN_len ⟨pr,ac,ct,cs,ch⟩; omega)] at h
    have key:∀ e z2 wr,body PR (cfE (P:=PR) (A:=A) [pnumE,teE,ptextE,stApE]) cfgPx lf0 n_paxos_Acceptor_write [.ptr 1 0 0,avA ⟨pr,ac,ct,cs,ch⟩] (acH z) some = some (.int .i64 e,wr,acH z2) → subW wr [(1,0),(1,1)] = true → SimCall PR A n_paxos_Acceptor_write [.ptr 1 0 0,avA ⟨pr,ac,ct,cs,ch⟩] (acH z) (.int .i64 e,[(1,0),(1,1)],acH z2):=fun e z2 wr h1 h2 =>
      SimCall.wr (fun_call _ mixed (by kernel_rfl) (by kernel_rfl) (no_loops (by kernel_rfl)) h1) (subW_le h2)
    unfold wrE wrZ
    cases ha:appOK z.b (acB ⟨pr,ac,ct,cs,ch⟩) z.o with
    | true =>
      rw [ha] at h
      exact key _ _ _ h rfl
    | false =>
      rw [ha] at h
      have e81:((bif z.o then 81 else 80:Int) == 0) = false:=by cases z.o <;> rfl
      rw [e81] at h
      exact key _ _ _ h rfl
  · cases hv
def awrE:Ent PR A:=⟨n_paxos_Acceptor_write,_,awr_ok⟩
theorem pcrB_le (b:List Int) (n k:Int):(crB b n k).length ≤ b.length:=by
  unfold crB crT
  rw [List.length_take]
  omega
def acrF:List AV → AcS → Tr (AV × AcS)
  | [.int .i64 k],z=>.br (goodA z) (.yes (.tuple [],pcrZ z k)) .no
  | _,_=>.no
theorem acr_eq (z:AcS) (k:Int):body PR (cfE (P:=PR) (A:=A) [stCr2E,arrE]) cfgPx lf0 n_paxos_Acceptor_Crash [.ptr 1 0 0,.int .i64 k] (acH z) some =
    (bif decide (z.b.length ≤ 1000000) && (decide (0 ≤ z.n) && decide (z.n ≤ (z.b.length:Int))) then bif decide ((crB z.b z.n k).length ≤ 65536) then some (.tuple [],[(1,0),(1,1)],acH (pcrZ z k)) else none else none):=by kernel_rfl
theorem acr_ok:Con PR A n_paxos_Acceptor_Crash (obj2C (acF true true acrF)):=by
  refine obj2C_ok (ac_two fun rest z v z' hv=>?_)
  unfold acrF at hv
  split at hv
  · rename_i k
    obtain ⟨hc,hv2⟩:=Tr.br_no hv
    cases hv2
    obtain ⟨g1,g2,g3,g4⟩:=goodA_iff.1 hc
    refine ⟨rfl,rfl,⟨rfl,rfl⟩,(fun h=>nomatch h),(fun h=>nomatch h),fun _ hh=>?_⟩
    refine fun_call _ mixed (by kernel_rfl) (by kernel_rfl) (no_loops (by kernel_rfl)) ((acr_eq z k).trans ?_)
    have:=pcrB_le z.b z.n k
    rw [decide_eq_true (show z.b.length ≤ 1000000 by omega),decide_eq_true g2,decide_eq_true g3,decide_eq_true (show (crB z.b z.n k).length ≤ 65536 by omega)]
    rfl
  · cases hv
def acrE:Ent PR A:=⟨n_paxos_Acceptor_Crash,_,acr_ok⟩
noncomputable abbrev EPt:List (Ent PR A):=[mrightE,copE,tsE,awrE,stSyncE]
abbrev idA (z y:AcS):AcS:={ y with id:=z.id,sl:=z.sl }
def ptNo (z:AcS) (e:Int):Option Res:=some (.tuple [msgA msg0,.int .i64 e],[],acH z)
def ptDo (z:AcS) (out:Msg) (wr:Wr):Option Res:=some (.tuple [msgA out,.int .i64 0],(1,1) :: wr,acH (syA z))
def ptWr (z:AcS) (x:AcV) (out:Msg):Option Res :=
  bif decide (z.b.length ≤ 1000000) then bif wrE z x != 0 then some (.tuple [msgA msg0,.int .i64 (wrE z x)],[(1,0),(1,1)],acH (idA z (wrZ z x))) else ptDo (idA z (wrZ z x)) out [(1,0),(1,1)] else none
def ptW (z:AcS) (x:AcV) (out:Msg):Option Res :=
  bif x.pr != z.v.pr then ptWr z x out else bif x.ac != z.v.ac then ptWr z x out else bif !(x.ct == z.v.ct && (x.cs == z.v.cs && x.ch == z.v.ch)) then ptWr z x out else ptDo z out []
def ptT (z:AcS) (m:Msg):Option Res :=
  bif !rightM m then ptNo z 1 else bif m.t != z.id then ptNo z 1 else bif m.te != z.sl then ptNo z 1 else bif decide (m.ba < z.v.pr) then ptNo z 130
  else bif smC z.v.cs z.v.ch then bif m.k == 9 then bif smC m.cs m.ch then ptW z ⟨m.ba,m.ba,m.ct,m.cs,m.ch⟩ { msg0 with k:=10,f:=z.id,t:=m.f,te:=z.sl,ba:=m.ba,is:=true } else none
    else ptW z ⟨m.ba,z.v.ac,z.v.ct,z.v.cs,z.v.ch⟩ { msg0 with k:=8,f:=z.id,t:=m.f,te:=z.sl,ba:=m.ba,ol:=z.v.ac,ct:=z.v.ct,cs:=z.v.cs,ch:=z.v.ch }
  else none
theorem apt_eq (z:AcS) (m:Msg):body PR (cfE EPt) cfgPx lf0 n_paxos_Acceptor_Take [.ptr 1 0 0,msgA m] (acH z) some =
    (bif m.k == 7 then ptT z m else bif !(m.k == 9) then ptNo z 1 else ptT z m):=by kernel_rfl
theorem idA_wr (z:AcS) (x:AcV):idA z (wrZ z x) = wrZ z x:=by unfold wrZ; cases appOK z.b (acB x) z.o <;> rfl
theorem ptW_ok {z:AcS} {m:Msg} (hb:z.b.length ≤ 65536):∃ wr,subW wr [(1,0),(1,1)] = true ∧ ptW z (tkX z m) (tkOut z m) = some (.tuple [msgA (bif tkE0 z m == 0 then tkOut z m else msg0),.int .i64 (tkE0 z m)],wr,acH (bif tkE0 z m == 0 then syA (tkZ0 z m) else z)):=by
  have hw:∃ wr,subW wr [(1,0),(1,1)] = true ∧ ptWr z (tkX z m) (tkOut z m) = some (.tuple [msgA (bif wrE z (tkX z m) == 0 then tkOut z m else msg0),.int .i64 (wrE z (tkX z m))],wr,acH (bif wrE z (tkX z m) == 0 then syA (wrZ z (tkX z m)) else z)):=by
    unfold ptWr
    rw [decide_eq_true (show z.b.length ≤ 1000000 by omega),idA_wr,bne]
    cases he:wrE z (tkX z m) == 0 with
    | true =>
      have:wrE z (tkX z m) = 0:=beq_iff_eq.1 he
      rw [this]
      exact ⟨_,rfl,rfl⟩
    | false =>
      have hz:wrZ z (tkX z m) = z:=by
        unfold wrZ
        unfold wrE at he
        cases ha:appOK z.b (acB (tkX z m)) z.o with
        | true=>rw [ha] at he; cases he
        | false=>rfl
      rw [hz]
      exact ⟨_,rfl,rfl⟩
  unfold ptW tkE0 tkZ0 tkNew
  cases (tkX z m).pr != z.v.pr with
  | true=>exact hw
  | false =>
  cases (tkX z m).ac != z.v.ac with
  | true=>exact hw
  | false =>
  cases (tkX z m).ct == z.v.ct && ((tkX z m).cs == z.v.cs && (tkX z m).ch == z.v.ch) with
  | false=>exact hw
  | true=>exact ⟨[(1,1)],rfl,rfl⟩
theorem apt_res {z:AcS} (hg:goodA z = true) (m:Msg):∃ wr,subW wr [(1,0),(1,1)] = true ∧ body PR (cfE EPt) cfgPx lf0 n_paxos_Acceptor_Take [.ptr 1 0 0,msgA m] (acH z) some = some (.tuple [msgA (ptkM z m),.int .i64 (ptkE z m)],wr,acH (ptkZ z m)):=by
  obtain ⟨g1,g2,g3,g4⟩:=goodA_iff.1 hg
  rw [apt_eq]
  have hT:(m.k == 7 || m.k == 9) = true → ∃ wr,subW wr [(1,0),(1,1)] = true ∧ ptT z m = some (.tuple [msgA (ptkM z m),.int .i64 (ptkE z m)],wr,acH (ptkZ z m)):=by
    intro hk
    have hW:=ptW_ok (m:=m) g1
    unfold ptT
    unfold ptkM ptkE ptkZ tkMine
    rw [hk,bne,bne,g4]
    cases hr:rightM m with
    | false=>exact ⟨[],rfl,rfl⟩
    | true =>
    cases m.t == z.id with
    | false=>exact ⟨[],rfl,rfl⟩
    | true =>
    cases m.te == z.sl with
    | false=>exact ⟨[],rfl,rfl⟩
    | true =>
    cases decide (m.ba < z.v.pr) with
    | true=>exact ⟨[],rfl,rfl⟩
    | false =>
    rw [smM hr]
    have e:(bif m.k == 9 then bif true then ptW z ⟨m.ba,m.ba,m.ct,m.cs,m.ch⟩ { msg0 with k:=10,f:=z.id,t:=m.f,te:=z.sl,ba:=m.ba,is:=true } else none
      else ptW z ⟨m.ba,z.v.ac,z.v.ct,z.v.cs,z.v.ch⟩ { msg0 with k:=8,f:=z.id,t:=m.f,te:=z.sl,ba:=m.ba,ol:=z.v.ac,ct:=z.v.ct,cs:=z.v.cs,ch:=z.v.ch }) = ptW z (tkX z m) (tkOut z m):=by
      unfold tkX tkOut
      cases m.k == 9 <;> rfl
    simp only [Bool.not_true,cond_false,cond_true,Bool.and_self,Bool.true_and] at e ⊢
    rw [e]
    exact hW
  cases h7:m.k == 7 with
  | true=>exact hT (by rw [h7]; rfl)
  | false =>
  cases h9:m.k == 9 with
  | true=>exact hT (by rw [h7,h9]; rfl)
  | false =>
  refine ⟨[],rfl,?_⟩
  unfold ptkM ptkE ptkZ tkMine
  rw [h7,h9]
  rfl
theorem ptkZ_ids (z:AcS) (m:Msg):(ptkZ z m).id = z.id ∧ (ptkZ z m).sl = z.sl:=by
  have hw:∀ x,(wrZ z x).id = z.id ∧ (wrZ z x).sl = z.sl:=fun x=>by unfold wrZ; cases appOK z.b (acB x) z.o <;> exact ⟨rfl,rfl⟩
  unfold ptkZ tkZ0
  cases tkMine z m with
  | false=>exact ⟨rfl,rfl⟩
  | true =>
  cases decide (m.ba < z.v.pr) with
  | true=>exact ⟨rfl,rfl⟩
  | false =>
  cases tkE0 z m == 0 with
  | false=>exact ⟨rfl,rfl⟩
  | true =>
  cases tkNew z m with
  | true=>exact hw _
  | false=>exact ⟨rfl,rfl⟩
def aptF:List AV → AcS → Tr (AV × AcS)
  | [.agg mc],z=>match msgOf mc with
    | some m=>.br (goodA z) (.yes (.tuple [msgA (ptkM z m),.int .i64 (ptkE z m)],ptkZ z m)) .no
    | none=>.no
  | _,_=>.no
theorem apt_ok:Con PR A n_paxos_Acceptor_Take (obj2C (acF true true aptF)):=by
  refine obj2C_ok (ac_two fun rest z v z' hv=>?_)
  unfold aptF at hv
  split at hv
  · split at hv
    · rename_i m hm
      have:=msgOf_some hm
      subst this
      obtain ⟨hc,hv2⟩:=Tr.br_no hv
      cases hv2
      refine ⟨rfl,rfl,ptkZ_ids z m,(fun h=>nomatch h),(fun h=>nomatch h),fun _ _=>?_⟩
      obtain ⟨wr,h1,h2⟩:=apt_res hc m
      exact SimCall.wr (fun_call _ mixed (by kernel_rfl) (by kernel_rfl) (no_loops (by kernel_rfl)) h2) (subW_le h1)
    · cases hv
  · cases hv
def aptE:Ent PR A:=⟨n_paxos_Acceptor_Take,_,apt_ok⟩
abbrev acOj (j:Nat) (i s:Int) (v:AcV):Ob:=.cells [.int .i64 i,.int .i64 s,.ptr 0 j 0,.int .i64 v.pr,.int .i64 v.ac,.int .i64 v.ct,.slice (.int .i64) v.cs .view,.slice RowT v.ch .view]
abbrev astO (b:List Int) (n:Int) (o:Bool):Ob:=.cells (astC b n o)
end Go.Crc
namespace Go.Crc
open Go.Vm Go.Pack Go.Rec Go.RowKit
abbrev nacV (s:Int) (b:List Int):AcV:=fvR s (scanL b) av0
def napT (l:List Ob) (j:Nat) (i s:Int) (b:List Int) (S:Stack):Tr Res :=
  .br (decide (b.length ≤ 65536)) (.br (placedB i s) (.yes (.tuple [.ptr 0 (lenN l) 0,.int .i64 0],[],app l [acOj j i s (nacV s b)] :: S)) (.yes (.tuple [.nilp,.int .i64 1],[],l :: S))) .no
def napF:List AV → Stack → Tr Res
  | [.int .i64 i,.int .i64 s,.ptr 0 0 0],[.cells [.slice (.int .u8) b .own,.int .i64 n,.bool o]] :: S=>napT [astO b n o] 0 i s b S
  | [.int .i64 i,.int .i64 s,.ptr 0 1 0],[x,.cells [.slice (.int .u8) b .own,.int .i64 n,.bool o]] :: S=>napT [x,astO b n o] 1 i s b S
  | [.int .i64 i,.int .i64 s,.ptr 0 7 0],[x0,x1,x2,x3,x4,x5,x6,.cells [.slice (.int .u8) b .own,.int .i64 n,.bool o]] :: S=>napT [x0,x1,x2,x3,x4,x5,x6,astO b n o] 7 i s b S
  | [.int .i64 i,.int .i64 s,.ptr 0 13 0],[x0,x1,x2,x3,x4,x5,x6,x7,x8,x9,x10,x11,x12,.cells [.slice (.int .u8) b .own,.int .i64 n,.bool o]] :: S=>napT [x0,x1,x2,x3,x4,x5,x6,x7,x8,x9,x10,x11,x12,astO b n o] 13 i s b S
  | _,_=>.no
theorem nap_go {l:List Ob} {j:Nat} {i s:Int} {b:List Int} {S:Stack} {res:Res} (hv:(napT l j i s b S).val = some res)
    (h:body PR (cfE (P:=PR) (A:=A) [pcdE,arrE]) cfgPx lf0 n_paxos_NewAcceptor [.int .i64 i,.int .i64 s,.ptr 0 j 0] (l :: S) some =
      (bif !plOK i s then some (.tuple [.nilp,.int .i64 1],[],l :: S) else bif decide (b.length ≤ 65536) then some (.tuple [.ptr 0 (lenN l) 0,.int .i64 0],[],app l [acOj j i s (nacV s b)] :: S) else none)) :
    (okAVs [.int .i64 i,.int .i64 s,.ptr 0 j 0] → okH (l :: S) → SimCall PR A n_paxos_NewAcceptor [.int .i64 i,.int .i64 s,.ptr 0 j 0] (l :: S) res) ∧ ∀ l' i',memWr l' i' res.2.1 = false → ObE (getH res.2.2 l' i') (getH (l :: S) l' i') ∨ (l' = 0 ∧ headLen (l :: S) ≤ i'):=by
  unfold napT at hv
  obtain ⟨hc,hv⟩:=Tr.br_no hv
  have hpl:plOK i s = placedB i s:=by unfold plOK placedB; rfl
  rw [hc,hpl] at h
  rcases Tr.br_or hv with ⟨he,h4⟩ | ⟨he,h4⟩
  · cases h4
    rw [he] at h
    exact ⟨fun _ _=>fun_call _ mixed (by kernel_rfl) (by kernel_rfl) (no_loops (by kernel_rfl)) h,app_keeps l [acOj j i s (nacV s b)] S⟩
  · cases h4
    rw [he] at h
    exact ⟨fun _ _=>fun_call _ mixed (by kernel_rfl) (by kernel_rfl) (no_loops (by kernel_rfl)) h,fun l i _=>.inl (copyvs_refl_ObE _)⟩
theorem nap_ok:Con PR A n_paxos_NewAcceptor (shapeC napF):=by
  refine shapeC_ok fun args S res hv=>?_
  unfold napF at hv
  split at hv
  · exact nap_go hv (by kernel_rfl)
  · exact nap_go hv (by kernel_rfl)
  · exact nap_go hv (by kernel_rfl)
  · exact nap_go hv (by kernel_rfl)
  · cases hv
def napE:Ent PR A:=⟨n_paxos_NewAcceptor,_,nap_ok⟩
noncomputable abbrev EPl:List (Ent PR A):=[stNwE,napE,lcfE,npE,staE,aptE,heE,choE,tsE,aprE]
def palvF:List AV → Tr AV
  | []=>.yes (.bool true)
  | _=>.no
theorem palv_ok:Con PR A n_law_alive (pureC palvF):=by
  refine pure_con0 (cfg:=cfgPx) EPl mixed (by kernel_rfl) (by kernel_rfl) (by kernel_rfl) fun args v hv ha S=>?_
  unfold palvF at hv
  split at hv
  · cases hv
    have h:body PR (cfE EPl) cfgPx lf0 n_law_alive [] S some = some (.bool true,[],S):=by kernel_rfl
    exact h
  · cases hv
def palvE:Ent PR A:=⟨n_law_alive,_,palv_ok⟩
end Go.Crc
namespace Go.Crc
open Go.Vm Go.Pack Go.Rec Go.RowKit
structure PxInv (z:AcS) (F:List (List Int)) (y:Nat):Prop where
  st:Inv z.b z.n F y
  rd:fvR z.sl F av0 = z.v
theorem PxInv.gv {z:AcS} {F:List (List Int)} {y:Nat} (h:PxInv z F y):GV z.sl z.v:=by rw [← h.rd]; exact fvR_gv F (gv0 _)
theorem gv_sm {sl:Int} {v:AcV} (h:GV sl v):smC v.cs v.ch = true:=by
  rcases h.con with ⟨_,_,h1,h2⟩ | ⟨_,h,_⟩
  · rw [h1,h2]; rfl
  · exact smC_of h
theorem PxInv.good {z:AcS} {F:List (List Int)} {y:Nat} (h:PxInv z F y):goodA z = true:=by
  obtain ⟨k1,k2,k3⟩:=h.st.bounds
  exact goodA_iff.2 ⟨h.st.len,k2,k3,gv_sm h.gv⟩
theorem PxInv.new {b:List Int} (hb:isBytes b) (i s:Int):PxInv ⟨i,s,nacV s (nwB b),nwB b,scanN (b.take 65536),false⟩ (scanL (b.take 65536)) (scanL (b.take 65536)).length:=by
  have h:=Inv.new hb
  refine ⟨h,?_⟩
  show _ = fvR s (scanL (nwB b)) av0
  rw [h.frames]
theorem tk_gv {z:AcS} {m:Msg} (hz:GV z.sl z.v) (hm:tkMine z m = true) (hb:¬ m.ba < z.v.pr):GV z.sl (tkX z m):=by
  unfold tkMine at hm
  simp only [Bool.and_eq_true,Bool.or_eq_true,beq_iff_eq] at hm
  obtain ⟨hk,hr,ht,hte⟩:=hm
  have hR:=right_p hr
  have hba:1 ≤ m.ba ∧ m.ba ≤ MC:=hR.ba (by omega)
  have h1:=hz.ac0
  have h2:=hz.le
  unfold tkX
  cases h9:m.k == 9 with
  | true =>
    have hc:=hR.conf (beq_iff_eq.1 h9)
    unfold confM at hc
    simp only [Bool.and_eq_true,beq_iff_eq] at hc
    exact ⟨by show 0 ≤ m.ba; omega,Int.le_refl _,hba.2,.inr ⟨by show m.ba ≠ 0; omega,hc.1,hc.2.trans hte⟩⟩
  | false=>exact ⟨h1,by show z.v.ac ≤ m.ba; omega,hba.2,hz.con⟩
theorem nums_bytes2:∀ (l:List Int),isBytes (nums l)
  | [],x,hx=>by cases hx
  | n :: l,x,hx=>by
    simp only [nums,List.mem_append] at hx
    rcases hx with hx | hx
    · exact Pack.vn_bytes 9 _ x hx
    · exact nums_bytes2 l x hx
theorem app_bytes2 {a b:List Int} (ha:isBytes a) (hb:isBytes b):isBytes (a ++ b):=fun x hx=>by
  rcases List.mem_append.1 hx with h | h
  · exact ha x h
  · exact hb x h
theorem rowsT_bytes2:∀ (sh:List (List Int)),isBytes (rowsT sh)
  | [],x,hx=>by cases hx
  | l :: sh,x,hx=>by
    simp only [rowsT] at hx
    exact app_bytes2 (app_bytes2 (Pack.vn_bytes 9 _) (nums_bytes2 l)) (rowsT_bytes2 sh) x hx
theorem acC_bytes (v:AcV):isBytes (acC v):=by
  unfold acC termB
  cases termR v.ct v.cs v.ch with
  | false=>exact nil_bytes
  | true=>exact put_bytes (app_bytes2 (Pack.vn_bytes 9 _) (app_bytes2 (app_bytes2 (Pack.vn_bytes 9 _) (nums_bytes2 _)) (app_bytes2 (Pack.vn_bytes 9 _) (rowsT_bytes2 _))))
theorem acB_bytes (v:AcV):isBytes (acB v):=by
  have h1:isBytes (acN v):=by
    unfold acN
    cases okAll [v.pr,v.ac] with
    | true=>exact app_bytes2 nil_bytes (nums_bytes2 _)
    | false=>exact nil_bytes
  unfold acB
  cases decide (((acC v).length:Int) > 65536) with
  | true=>exact h1
  | false=>exact app_bytes2 (app_bytes2 h1 (Pack.vn_bytes 9 _)) (acC_bytes v)
theorem PxInv.wr {z:AcS} {F:List (List Int)} {y:Nat} (h:PxInv z F y) {x:AcV} (hx:GV z.sl x) (ha:appOK z.b (acB x) z.o = true):PxInv (wrZ z x) (F ++ [acB x]) y:=by
  unfold wrZ
  rw [ha]
  refine ⟨h.st.app (acB_bytes x) ha,?_⟩
  show fvR z.sl (F ++ [acB x]) av0 = x
  rw [fvR_app,h.rd]
  simp only [fvR]
  rw [(fv_back hx).1,(fv_back hx).2]
  rfl
theorem wrZ_o (z:AcS) (x:AcV):(wrZ z x).o = z.o:=by unfold wrZ; cases appOK z.b (acB x) z.o <;> rfl
theorem PxInv.sy {z:AcS} {F:List (List Int)} {y:Nat} (h:PxInv z F y):PxInv (syA z) F (bif z.o then y else F.length):=by
  unfold syA
  cases z.o with
  | true=>exact ⟨h.st,h.rd⟩
  | false=>exact ⟨h.st.sync,h.rd⟩
theorem PxInv.off {z:AcS} {F:List (List Int)} {y:Nat} (h:PxInv z F y) (is:Bool):PxInv { z with o:=is } F y:=⟨h.st,h.rd⟩
theorem PxInv.cs {z:AcS} {F:List (List Int)} {y:Nat} (h:PxInv z F y) (k:Int):PxInv (pcrZ z k) (F.take (dcN F (y:Int) k)) (dcN F (y:Int) k):=by
  have hc:=h.st.crash k
  refine ⟨hc,?_⟩
  show fvR z.sl _ av0 = fvR z.sl (scanL (crB z.b z.n k)) av0
  rw [hc.frames]
def ptGo (z:AcS) (m:Msg):Bool:=tkMine z m && !decide (m.ba < z.v.pr)
def ptF (z:AcS) (F:List (List Int)) (m:Msg):List (List Int):=bif ptGo z m && (tkNew z m && appOK z.b (acB (tkX z m)) z.o) then F ++ [acB (tkX z m)] else F
def ptY (z:AcS) (F:List (List Int)) (y:Nat) (m:Msg):Nat:=bif ptGo z m && tkE0 z m == 0 then (bif z.o then y else (ptF z F m).length) else y
theorem err_ne (o:Bool):((bif o then 81 else 80:Int) == 0) = false:=by cases o <;> rfl
theorem PxInv.tk {z:AcS} {F:List (List Int)} {y:Nat} (h:PxInv z F y) (m:Msg):PxInv (ptkZ z m) (ptF z F m) (ptY z F y m):=by
  unfold ptY
  unfold ptkZ ptF ptGo
  cases hm:tkMine z m with
  | false=>exact h
  | true =>
  cases hd:decide (m.ba < z.v.pr) with
  | true=>exact h
  | false =>
  have hx:=tk_gv h.gv hm (of_decide_eq_false hd)
  simp only [Bool.not_false,Bool.true_and,cond_true,cond_false]
  unfold tkE0 tkZ0
  cases hn:tkNew z m with
  | false=>exact h.sy
  | true =>
  unfold wrE
  cases ha:appOK z.b (acB (tkX z m)) z.o with
  | false =>
    simp only [cond_true,cond_false,err_ne,Bool.and_false]
    exact h
  | true =>
    have:=(h.wr hx ha).sy
    rw [wrZ_o] at this
    exact this
structure PxSyn (z:AcS) (F:List (List Int)):Prop where
  inv:PxInv z F F.length
  on:z.o = false
theorem syA_o (z:AcS):(syA z).o = z.o:=rfl
theorem ptkZ_o (z:AcS) (m:Msg):(ptkZ z m).o = z.o:=by
  unfold ptkZ tkZ0
  cases tkMine z m with
  | false=>rfl
  | true =>
  cases decide (m.ba < z.v.pr) with
  | true=>rfl
  | false =>
  cases tkE0 z m == 0 with
  | false=>rfl
  | true =>
  cases tkNew z m with
  | false=>rfl
  | true=>exact wrZ_o z _
theorem PxSyn.tk {z:AcS} {F:List (List Int)} (h:PxSyn z F) (m:Msg):PxSyn (ptkZ z m) (ptF z F m):=by
  refine ⟨?_,(ptkZ_o z m).trans h.on⟩
  have h1:=h.inv.tk m
  have:ptY z F F.length m = (ptF z F m).length:=by
    unfold ptY
    rw [h.on]
    cases hg:ptGo z m && tkE0 z m == 0 with
    | true=>rfl
    | false =>
      unfold ptF
      cases hp:ptGo z m with
      | false=>rfl
      | true =>
        rw [hp] at hg
        have he:(tkE0 z m == 0) = false:=hg
        cases hn:tkNew z m && appOK z.b (acB (tkX z m)) z.o with
        | false=>rfl
        | true =>
          exfalso
          rw [Bool.and_eq_true] at hn
          unfold tkE0 wrE at he
          rw [hn.1,hn.2] at he
          cases he
  rwa [this] at h1
theorem PxSyn.cs {z:AcS} {F:List (List Int)} (h:PxSyn z F) (k:Int):PxSyn (pcrZ z k) F ∧ (pcrZ z k).v = z.v:=by
  have h1:=h.inv.cs k
  have hN:dcN F (F.length:Int) k = F.length:=by
    unfold dcN
    rw [Int.toNat_natCast,List.drop_length]
    rfl
  rw [hN,List.take_length] at h1
  refine ⟨⟨h1,rfl⟩,?_⟩
  have e1:=h1.rd
  have e2:=h.inv.rd
  have:(pcrZ z k).sl = z.sl:=rfl
  rw [this,e2] at e1
  exact e1.symm
end Go.Crc
