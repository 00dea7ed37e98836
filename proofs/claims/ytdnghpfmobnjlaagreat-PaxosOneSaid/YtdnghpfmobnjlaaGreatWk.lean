/- Contracts of functions of this program. Conditions: none. -/
import Derived.Test.YtdnghpfmobnjlaaGreatWj
import Derived.Test.YtdnghpfmobnjlaaGreatWp
import Derived.Test.YtdnghpfmobnjlaaGreatWg
import Derived.Test.YtdnghpfmobnjlaaGreatWi
import Derived.Test.YtdnghpfmobnjlaaGreatWh
import Derived.Test.YtdnghpfmobnjlaaGreatWf
import Derived.Test.YtdnghpfmobnjlaaGreatVp
import Derived.Test.YtdnghpfmobnjlaaGreatVg
set_option linter.unusedVariables false
set_option linter.unusedSimpArgs false
set_option maxRecDepth 100000
namespace Go.Crc
open Go.Vm Go.Pack Go.Rec Go.RowKit
def cfgPx:Cfg:=cfgOf [(n_pack_Num,[0]),(n_pack_Text,[0])] [n_pack_Num,n_pack_Text,n_crc_New,n_crc_Table_Put,n_pack_NewReader] []
def subW:Wr → Wr → Bool
  | [],_=>true
  | (l,i) :: r,w=>memWr l i w && subW r w
theorem subW_le:∀ {a b:Wr},subW a b = true → WLe a b
  | [],b,_,l,i,_=>rfl
  | (x,y) :: r,b,h,l,i,hm=>by
    simp only [subW,Bool.and_eq_true] at h
    have:=subW_le h.2 l i hm
    simp only [memWr,this,Bool.or_false]
    cases hx:(Nat.beq l x && Nat.beq i y) with
    | false=>rfl
    | true =>
      simp only [Bool.and_eq_true,beq_iff] at hx
      obtain ⟨rfl,rfl⟩:=hx
      rw [h.1] at hm; cases hm
def mapT {α β:Type} (g:α → β):Tr α → Tr β
  | .no=>.no
  | .yes a=>.yes (g a)
  | .br c t e=>.br c (mapT g t) (mapT g e)
theorem mapT_val {α β:Type} (g:α → β):∀ {t:Tr α} {b:β},(mapT g t).val = some b → ∃ a,t.val = some a ∧ b = g a
  | .no,b,h=>by cases h
  | .yes a,b,h=>by cases h; exact ⟨a,rfl,rfl⟩
  | .br c t e,b,h=>by
    cases c with
    | true=>exact mapT_val g (t:=t) h
    | false=>exact mapT_val g (t:=e) h
def plOK (i s:Int):Bool:=decide (0 ≤ i) && (decide (i < 16) && (decide (1 ≤ s) && decide (s ≤ 64)))
def pcdF:List AV → Tr AV
  | [.int .i64 i,.int .i64 s]=>.yes (.bool (plOK i s))
  | _=>.no
theorem pcd_ok:Con PR A n_paxos_placed (pureC pcdF):=by
  refine pure_con0 (cfg:=cfgPx) [] mixed (by kernel_rfl) (by kernel_rfl) (by kernel_rfl) fun args v hv ha S=>?_
  unfold pcdF at hv
  split at hv
  · rename_i i s
    cases hv
    have h:body PR (cfE (P:=PR) (A:=A) []) cfgPx lf0 n_paxos_placed [.int .i64 i,.int .i64 s] S some =
      (bif decide (i ≥ 0) then bif decide (i < 16) then bif decide (s ≥ 1) then some (.bool (decide (s ≤ 64)),[],S) else some (.bool false,[],S) else some (.bool false,[],S) else some (.bool false,[],S)):=by kernel_rfl
    rw [h]
    unfold plOK
    show _ = some (AV.bool (decide (i ≥ 0) && (decide (i < 16) && (decide (s ≥ 1) && decide (s ≤ 64)))),[],S)
    cases decide (i ≥ 0) <;> cases decide (i < 16) <;> cases decide (s ≥ 1) <;> rfl
  · cases hv
def pcdE:Ent PR A:=⟨n_paxos_placed,_,pcd_ok⟩
def lcfF:List AV → Tr AV
  | [.int .i64 t,.int .i64 x]=>.yes (conA t [0] [[x]])
  | _=>.no
theorem lcf_ok:Con PR A n_law_config (pureC lcfF):=by
  refine pure_con0 (cfg:=cfgPx) [] mixed (by kernel_rfl) (by kernel_rfl) (by kernel_rfl) fun args v hv ha S=>?_
  unfold lcfF at hv
  split at hv
  · rename_i t x
    cases hv
    have h:body PR (cfE (P:=PR) (A:=A) []) cfgPx lf0 n_law_config [.int .i64 t,.int .i64 x] S some = some (conA t [0] [[x]],[],S):=by kernel_rfl
    exact h
  · cases hv
def lcfE:Ent PR A:=⟨n_law_config,_,lcf_ok⟩
def smC (s:List Int) (sh:List (List Int)):Bool:=decide (s.length ≤ 1000000) && (decide (sh.length ≤ 1000000) && sh.all fun l=>decide (l.length ≤ 1000000))
def pxcStep (i:Int) (x:List Int) (s:List (List Int) × Wr) (k:List (List Int) × Wr → Option Res):Option Res :=
  bif decide (x.length * 8 ≤ 140737488355328) then bif decide ((s.1.length + 1) * 24 ≤ 140737488355328) then k (s.1 ++ [x],(0,2) :: s.2) else none else none
theorem pxc_fold (E:List (List Int) × Wr → Option Res):∀ (sh:List (List Int)) (j:Nat) (out:List (List Int)) (wr:Wr),(∀ l ∈ sh,l.length ≤ 1000000) → out.length + sh.length ≤ 1000000 →
    foldK pxcStep E j sh (out,wr) = E (out ++ sh,app (repApp sh.length [(0,2)]) wr)
  | [],j,out,wr,_,_=>by simp only [foldK,List.append_nil]; rfl
  | x :: r,j,out,wr,h1,h2=>by
    have hx:=h1 x (by simp)
    simp only [List.length_cons] at h2
    have hi:=pxc_fold E r (j + 1) (out ++ [x]) ((0,2) :: wr) (fun l hl=>h1 l (by simp [hl])) (by simp; omega)
    rw [show foldK pxcStep E j (x :: r) (out,wr) = (bif decide (x.length * 8 ≤ 140737488355328) then bif decide ((out.length + 1) * 24 ≤ 140737488355328) then foldK pxcStep E (j + 1) r (out ++ [x],(0,2) :: wr) else none else none) from rfl]
    rw [decide_eq_true (show x.length * 8 ≤ 140737488355328 by omega),decide_eq_true (show (out.length + 1) * 24 ≤ 140737488355328 by omega),cond_true,cond_true,hi,List.append_assoc,List.length_cons,rep_more]
    rfl
def lfPxc:Nat → Option LoopSum:=lfOf [(58,loopT [2,3,13,14,15] [2,3] fun vs H=>match vs,H with
  | [.ptr 0 1 0,.ptr 0 2 0,.slice (.slice (.int .i64)) sh .view,.int .i64 m,.int .i64 i],[c0,c1,.cells [.int .i64 t,.slice (.int .i64) s .view,.slice (.slice (.int .i64)) [] .own]] :: S =>
    .br (decide (m = sh.length) && (decide (i = 0) && (decide (sh.length ≤ 1000000) && sh.all fun l=>decide (l.length ≤ 1000000)))) (.yes (.exit 0,[.ptr 0 1 0,.ptr 0 2 0],[c0,c1,.cells [.int .i64 t,.slice (.int .i64) s .view,.slice RowT sh .own]] :: S,repApp sh.length [(0,2)])) .no
  | _,_=>.no)]
theorem pxc_loops:∀ x ∈ funLoops PR n_paxos_copied,∀ L,lfPxc x.1 = some L → LoopOK (ntm PR n_paxos_copied) (fun fr H wr k=>code PR (cfE (P:=PR) (A:=A) [cliE]) cfgPx lfPxc (cfgPx.live n_paxos_copied) x.2 (2 * x.1) fr H wr k) L:=by
  refine one_loop (p:=58) rfl (by kernel_rfl) (loopT_ok (by decide) fun vs H wr ex vs' H' w hv ha hh=>?_)
  split at hv
  · rename_i sh m i c0 c1 t s S
    obtain ⟨hc,hv2⟩:=Tr.br_no hv
    clear hv
    simp only [Bool.and_eq_true,decide_eq_true_eq,List.all_eq_true] at hc
    obtain ⟨hm,rfl,hn,hl⟩:=hc
    cases hv2
    refine ⟨sh.length + 1,fun k=>?_⟩
    have:=fold_loop (F:=fun N i (x:List (List Int) × Wr)=>LC PR (cfE (P:=PR) (A:=A) [cliE]) cfgPx lfPxc n_paxos_copied 0 58 [2,3,13,14,15] [2,3] N [.ptr 0 1 0,.ptr 0 2 0,.slice RowT sh .view,.int .i64 m,.int .i64 i] ([c0,c1,.cells [.int .i64 t,.slice (.int .i64) s .view,.slice RowT x.1 .own]] :: S) x.2 k)
      (step:=pxcStep) (E:=fun x=>k (.exit 0) [.ptr 0 1 0,.ptr 0 2 0] ([c0,c1,.cells [.int .i64 t,.slice (.int .i64) s .view,.slice RowT x.1 .own]] :: S) x.2) hm (by simp only [maxInt]; omega) (fun N i x=>by kernel_rfl) sh.length 0 ([],wr) (by omega)
    rw [List.drop_zero,pxc_fold _ _ _ _ _ hl (by simpa using hn)] at this
    exact this
  · cases hv
def copF:List AV → Tr AV
  | [.agg [.int .i64 t,.slice (.int .i64) s .view,.slice (.slice (.int .i64)) sh .view]]=>.br (smC s sh) (.yes (conA t s sh)) .no
  | _=>.no
theorem cop_ok:Con PR A n_paxos_copied (pureC copF):=by
  refine pure_con (cfg:=cfgPx) (lf:=lfPxc) [cliE] mixed (by kernel_rfl) (by kernel_rfl) pxc_loops fun args v hv ha S=>?_
  unfold copF at hv
  split at hv
  · rename_i t s sh
    obtain ⟨hc,hv2⟩:=Tr.br_no hv
    cases hv2
    unfold smC at hc
    have h:body PR (cfE (P:=PR) (A:=A) [cliE]) cfgPx lfPxc n_paxos_copied [conA t s sh] S some =
      (bif decide (s.length * 8 ≤ 140737488355328) then bif decide ((sh.length:Int) = (sh.length:Int)) && (decide ((0:Int) = 0) && (decide (sh.length ≤ 1000000) && sh.all fun l=>decide (l.length ≤ 1000000))) then some (conA t s sh,outer (app [(0,1)] (app (repApp sh.length [(0,2)]) [(0,2)])),S) else none else none):=by kernel_rfl
    rw [Bool.and_eq_true] at hc
    have h1:s.length ≤ 1000000:=by simpa using hc.1
    refine h.trans ?_
    rw [decide_eq_true (show s.length * 8 ≤ 140737488355328 by omega),hc.2,decide_eq_true rfl,decide_eq_true rfl]
    show some (conA t s sh,outer (app (repApp sh.length [(0,2)]) [(0,2)]),S) = _
    rw [outer_app0 _ _ (all0_rep rfl _)]
    rfl
  · cases hv
def copE:Ent PR A:=⟨n_paxos_copied,_,cop_ok⟩
end Go.Crc
namespace Go.Crc
open Go.Vm Go.Pack Go.Rec Go.RowKit
abbrev MsT:Ty:=(.pair (.int .i64) (.pair (.int .i64) (.pair (.int .i64) (.pair (.int .i64) (.pair (.int .i64) (.pair (.int .i64) (.pair .bool (.pair (.pair (.pair (.int .i64) (.int .i64)) (.pair (.slice (.int .i64)) .str)) (.pair (.pair (.int .i64) (.pair (.int .i64) (.pair (.slice (.int .i64)) (.pair (.int .i64) (.pair (.int .i64) (.int .i64)))))) (.pair (.int .i64) (.pair (.int .i64) (.pair (.int .i64) (.pair (.slice (.int .i64)) (.slice (.slice (.int .i64))))))))))))))))
abbrev MsI:=Int × Int × Int × Int × Int × Int × Bool × Rc × En × Int × Int × (Int × List Int × List (List Int))
def toM (x:MsI):Msg:=⟨x.1,x.2.1,x.2.2.1,x.2.2.2.1,x.2.2.2.2.1,x.2.2.2.2.2.1,x.2.2.2.2.2.2.1,x.2.2.2.2.2.2.2.1.1.1,x.2.2.2.2.2.2.2.1.1.2,x.2.2.2.2.2.2.2.1.2.1,x.2.2.2.2.2.2.2.1.2.2,x.2.2.2.2.2.2.2.2.1,x.2.2.2.2.2.2.2.2.2.1,x.2.2.2.2.2.2.2.2.2.2.1,x.2.2.2.2.2.2.2.2.2.2.2.1,x.2.2.2.2.2.2.2.2.2.2.2.2.1,x.2.2.2.2.2.2.2.2.2.2.2.2.2⟩
def ofM (m:Msg):MsI:=(m.k,m.f,m.t,m.te,m.sh,m.nu,m.is,((m.rc,m.rn),m.rt,m.rd),m.e,m.ba,m.ol,(m.ct,m.cs,m.ch))
theorem toM_of (m:Msg):toM (ofM m) = m:=rfl
def ofMs (l:List Msg):List MsI:=l.map ofM
def pxuStep (l:List Int) (R:Option Res) (i x:Int) (_:Unit) (k:Unit → Option Res):Option Res :=
  bif decide (x < 0) then R else bif decide (x ≥ 16) then R else bif decide (0 ≤ i) && decide (i ≤ (l.length:Int)) then bif ((l.take i.toNat).drop 0).any (fun y=>x == y) then R else k () else none
theorem pxu_fold (l:List Int) (R:Option Res) (E:Unit → Option Res):∀ (r:List Int) (j:Nat),l = l.take j ++ r → j ≤ l.length → foldK (pxuStep l R) E j r () = bif pxU (l.take j) r then E () else R
  | [],j,_,_=>rfl
  | x :: r,j,h,hj=>by
    have hlen:j + (r.length + 1) = l.length:=by
      have:=congrArg List.length h
      simp only [List.length_append,List.length_take,List.length_cons] at this
      omega
    have ht:l.take (j + 1) = l.take j ++ [x]:=by
      have hx:l[j]? = some x:=by
        have h2:l[j]? = (l.take j ++ x :: r)[j]?:=congrArg (fun z:List Int=>z[j]?) h
        rw [h2,List.getElem?_append_right (by rw [List.length_take]; omega),List.length_take,show j - min j l.length = 0 by omega]
        rfl
      rw [List.take_add_one,hx]; rfl
    have hi:=pxu_fold l R E r (j + 1) (by rw [ht,List.append_assoc]; exact h) (by omega)
    rw [show foldK (pxuStep l R) E j (x :: r) () = (bif decide (x < 0) then R else bif decide (x ≥ 16) then R else bif decide ((0:Int) ≤ (j:Int)) && decide ((j:Int) ≤ (l.length:Int)) then bif ((l.take (j:Int).toNat).drop 0).any (fun y=>x == y) then R else foldK (pxuStep l R) E (j + 1) r () else none) from rfl]
    rw [decide_eq_true (show (0:Int) ≤ (j:Int) by omega),decide_eq_true (show (j:Int) ≤ (l.length:Int) by omega),hi,ht]
    simp only [pxU,Bool.and_self,cond_true,List.drop_zero,Int.toNat_natCast]
    cases decide (x < 0) with
    | true=>rfl
    | false =>
      cases decide (x ≥ 16) with
      | true=>rfl
      | false =>
        cases ((l.take j).any fun y=>x == y) <;> rfl
def lfPxu:Nat → Option LoopSum:=lfOf [(58,loopT [0,14,15,16] [2] fun vs H=>match vs,H with
  | [.slice (.int .i64) l .view,.slice (.int .i64) l2 .view,.int .i64 m,.int .i64 i],[] :: S=>.br (decide (m = l2.length) && (decide (i = 0) && l == l2)) (.br (pxU [] l2) (.yes (.exit 0,[.undef],[] :: S,[])) (.yes (.ret,[.bool false],[] :: S,[]))) .no
  | _,_=>.no)]
theorem pxu_loops:∀ x ∈ funLoops PR n_paxos_unlike,∀ L,lfPxu x.1 = some L → LoopOK (ntm PR n_paxos_unlike) (fun fr H wr k=>code PR (cfE (P:=PR) (A:=A) [conE]) cfgPx lfPxu (cfgPx.live n_paxos_unlike) x.2 (2 * x.1) fr H wr k) L:=by
  refine one_loop (p:=58) rfl (by kernel_rfl) (loopT_ok (by decide) fun vs H wr ex vs' H' w hv ha hh=>?_)
  split at hv
  · rename_i l l2 m i S
    obtain ⟨hc,hv2⟩:=Tr.br_no hv
    clear hv
    simp only [Bool.and_eq_true,decide_eq_true_eq,beq_iff_eq] at hc
    obtain ⟨hm,rfl,rfl⟩:=hc
    have hmax:l.length ≤ maxInt:=by simp only [okAVs,okAV] at ha; exact ha.1.1
    refine ⟨l.length + 1,fun k=>?_⟩
    have:=fold_loop (F:=fun N i (x:Unit)=>LC PR (cfE (P:=PR) (A:=A) [conE]) cfgPx lfPxu n_paxos_unlike 0 58 [0,14,15,16] [2] N [.slice (.int .i64) l .view,.slice (.int .i64) l .view,.int .i64 m,.int .i64 i] ([] :: S) wr k)
      (step:=pxuStep l (k .ret [.bool false] ([] :: S) wr)) (E:=fun _=>k (.exit 0) [.undef] ([] :: S) wr) hm hmax (fun N i x=>by kernel_rfl) l.length 0 () (by omega)
    rw [List.drop_zero,pxu_fold l _ _ l 0 rfl (Nat.zero_le _)] at this
    rcases Tr.br_or hv2 with ⟨he,h4⟩ | ⟨he,h4⟩
    · cases h4; rw [List.take_zero,he] at this; exact this
    · cases h4; rw [List.take_zero,he] at this; exact this
  · cases hv
def pxuF:List AV → Tr AV
  | [.slice (.int .i64) l .view]=>.yes (.bool (pxUn l))
  | _=>.no
theorem pxu_ok:Con PR A n_paxos_unlike (pureC pxuF):=by
  refine pure_con (cfg:=cfgPx) (lf:=lfPxu) [conE] mixed (by kernel_rfl) (by kernel_rfl) pxu_loops fun args v hv ha S=>?_
  unfold pxuF at hv
  split at hv
  · rename_i l
    cases hv
    have h:body PR (cfE (P:=PR) (A:=A) [conE]) cfgPx lfPxu n_paxos_unlike [.slice (.int .i64) l .view] S some =
      (bif (l.length:Int).tmod 2 == 0 then some (.bool false,[],S) else bif decide ((l.length:Int) > 7) then some (.bool false,[],S)
      else bif decide ((l.length:Int) = (l.length:Int)) && (decide ((0:Int) = 0) && l == l) then bif pxU [] l then some (.bool true,[],S) else some (.bool false,[],S) else none):=by kernel_rfl
    refine h.trans ?_
    rw [decide_eq_true rfl,decide_eq_true rfl,beq_self_eq_true]
    unfold pxUn
    cases (l.length:Int).tmod 2 == 0 <;> cases decide ((l.length:Int) > 7) <;> cases pxU [] l <;> rfl
  · cases hv
def pxuE:Ent PR A:=⟨n_paxos_unlike,_,pxu_ok⟩
abbrev prC (p:PrS):List AV:=[.int .i64 p.id,.int .i64 p.sl,.int .i64 p.ba,.slice (.int .i64) p.nodes .view,.int .i64 p.ct,.slice (.int .i64) p.cs .view,.slice RowT p.ch .view,.int .i64 p.st,.slice (.int .i64) p.ss .view,.slice RowT p.sh .view,.int .i64 p.old,.ptr 0 1 mapO,.ptr 0 2 mapO,.bool p.asked,.bool p.done]
abbrev prO (p:PrS):List Ob:=[.cells (prC p),.map p.pm,.map p.am]
abbrev prH (p:PrS):Stack:=[[],prO p]
end Go.Crc
namespace Go.Crc
open Go.Vm Go.Pack Go.Rec Go.RowKit
def penV (nodes:List Int) (ks:List Int):AV:=.bool (decide (IntKind.i64.wrap (2 * (lenN ks:Nat)) > (nodes.length:Int)))
def prOf:List AV → Option PrS
  | [.int .i64 id,.int .i64 sl,.int .i64 ba,.slice (.int .i64) nodes .view,.int .i64 ct,.slice (.int .i64) cs .view,.slice (.slice (.int .i64)) ch .view,.int .i64 st,.slice (.int .i64) ss .view,.slice (.slice (.int .i64)) sh .view,.int .i64 old,.ptr 0 1 o1,.ptr 0 2 o2,.bool asked,.bool done] =>
    bif Nat.beq o1 mapO && Nat.beq o2 mapO then some ⟨id,sl,ba,nodes,ct,cs,ch,st,ss,sh,old,[],[],asked,done⟩ else none
  | _=>none
theorem prOf_some {cs:List AV} {p:PrS} (h:prOf cs = some p):cs = prC p:=by
  unfold prOf at h
  split at h
  · obtain ⟨hc,h⟩:=cond_none h
    simp only [Bool.and_eq_true,beq_iff] at hc
    obtain ⟨rfl,rfl⟩:=hc
    cases h; rfl
  · cases h
def penF:List AV → Stack → Tr Res
  | [.ptr 2 0 0,.ptr 2 1 o],[x,[],[.cells cs,.map a,.map b]]=>match prOf cs with
    | some p=>.br (Nat.beq o mapO && Nat.ble (lenN a) maxInt) (.yes (penV p.nodes a,[],[x,[],[.cells cs,.map a,.map b]])) .no
    | none=>.no
  | [.ptr 2 0 0,.ptr 2 2 o],[x,[],[.cells cs,.map a,.map b]]=>match prOf cs with
    | some p=>.br (Nat.beq o mapO && Nat.ble (lenN b) maxInt) (.yes (penV p.nodes b,[],[x,[],[.cells cs,.map a,.map b]])) .no
    | none=>.no
  | _,_=>.no
theorem pen_ok:Con PR A n_paxos_Proposer_enough (shapeC penF):=by
  refine shapeC_ok fun args S res hv=>?_
  unfold penF at hv
  split at hv
  · rename_i o x cs a b
    split at hv
    · rename_i p hp
      have:=prOf_some hp
      subst this
      obtain ⟨hc,hv2⟩:=Tr.br_no hv
      cases hv2
      simp only [Bool.and_eq_true,beq_iff] at hc
      obtain ⟨rfl,hc⟩:=hc
      have h:body PR (cfE (P:=PR) (A:=A) []) cfgPx lf0 n_paxos_Proposer_enough [.ptr 2 0 0,.ptr 2 1 mapO] [x,[],[.cells (prC p),.map a,.map b]] some = (bif Nat.ble (lenN a) maxInt then some (penV p.nodes a,[],[x,[],[.cells (prC p),.map a,.map b]]) else none):=by kernel_rfl
      rw [hc] at h
      exact ⟨fun _ _=>fun_call _ mixed (by kernel_rfl) (by kernel_rfl) (no_loops (by kernel_rfl)) h,fun l i _=>.inl (copyvs_refl_ObE _)⟩
    · cases hv
  · rename_i o x cs a b
    split at hv
    · rename_i p hp
      have:=prOf_some hp
      subst this
      obtain ⟨hc,hv2⟩:=Tr.br_no hv
      cases hv2
      simp only [Bool.and_eq_true,beq_iff] at hc
      obtain ⟨rfl,hc⟩:=hc
      have h:body PR (cfE (P:=PR) (A:=A) []) cfgPx lf0 n_paxos_Proposer_enough [.ptr 2 0 0,.ptr 2 2 mapO] [x,[],[.cells (prC p),.map a,.map b]] some = (bif Nat.ble (lenN b) maxInt then some (penV p.nodes b,[],[x,[],[.cells (prC p),.map a,.map b]]) else none):=by kernel_rfl
      rw [hc] at h
      exact ⟨fun _ _=>fun_call _ mixed (by kernel_rfl) (by kernel_rfl) (no_loops (by kernel_rfl)) h,fun l i _=>.inl (copyvs_refl_ObE _)⟩
    · cases hv
  · cases hv
def penE:Ent PR A:=⟨n_paxos_Proposer_enough,_,pen_ok⟩
abbrev palW:Wr:=[(0,1),(0,1),(0,1),(0,1),(0,1),(0,1)]
def palStep (p:PrS) (mm:Msg) (i x:Int) (s:List MsI × Wr) (k:List MsI × Wr → Option Res):Option Res :=
  bif smC mm.cs mm.ch then bif decide ((s.1.length + 1) * 248 ≤ 140737488355328) then k (s.1 ++ [ofM (toN p mm x)],app palW s.2) else none else none
theorem pal_fold (p:PrS) (mm:Msg) (hm:smC mm.cs mm.ch = true) (E:List MsI × Wr → Option Res):∀ (l:List Int) (j:Nat) (out:List MsI) (wr:Wr),out.length + l.length ≤ 100000 →
    foldK (palStep p mm) E j l (out,wr) = E (out ++ ofMs (l.map (toN p mm)),app (repApp l.length palW) wr)
  | [],j,out,wr,_=>by simp only [foldK,ofMs,List.map_nil,List.append_nil]; rfl
  | x :: r,j,out,wr,h2=>by
    simp only [List.length_cons] at h2
    have hi:=pal_fold p mm hm E r (j + 1) (out ++ [ofM (toN p mm x)]) (app palW wr) (by simp; omega)
    rw [show foldK (palStep p mm) E j (x :: r) (out,wr) = (bif smC mm.cs mm.ch then bif decide ((out.length + 1) * 248 ≤ 140737488355328) then foldK (palStep p mm) E (j + 1) r (out ++ [ofM (toN p mm x)],app palW wr) else none else none) from rfl]
    rw [hm,decide_eq_true (show (out.length + 1) * 248 ≤ 140737488355328 by omega),cond_true,cond_true,hi,List.append_assoc,List.length_cons,rep_more]
    rfl
def lfPal:Nat → Option LoopSum:=lfOf [(58,loopT [0,3,5,12,13,14] [5] fun vs H=>match vs,H with
  | [.ptr 3 0 0,.ptr 0 0 0,.slice (.pair (.int .i64) (.pair (.int .i64) (.pair (.int .i64) (.pair (.int .i64) (.pair (.int .i64) (.pair (.int .i64) (.pair .bool (.pair (.pair (.pair (.int .i64) (.int .i64)) (.pair (.slice (.int .i64)) .str)) (.pair (.pair (.int .i64) (.pair (.int .i64) (.pair (.slice (.int .i64)) (.pair (.int .i64) (.pair (.int .i64) (.int .i64)))))) (.pair (.int .i64) (.pair (.int .i64) (.pair (.int .i64) (.pair (.slice (.int .i64)) (.slice (.slice (.int .i64)))))))))))))))) [] .own,.slice (.int .i64) nodes .view,.int .i64 m,.int .i64 i],[[.cells mc],x,[],[.cells cs,b0,b1]]=>match msgOf mc,prOf cs with
    | some mm,some p=>.br (decide (m = nodes.length) && (decide (i = 0) && (decide (nodes.length ≤ 100000) && smC mm.cs mm.ch))) (.yes (.exit 0,[.slice MsT (ofMs (nodes.map (toN p mm))) .own],[[.cells mc],x,[],[.cells cs,b0,b1]],repApp nodes.length palW)) .no
    | _,_=>.no
  | _,_=>.no)]
theorem pal_loops:∀ x ∈ funLoops PR n_paxos_Proposer_all,∀ L,lfPal x.1 = some L → LoopOK (ntm PR n_paxos_Proposer_all) (fun fr H wr k=>code PR (cfE (P:=PR) (A:=A) [copE]) cfgPx lfPal (cfgPx.live n_paxos_Proposer_all) x.2 (2 * x.1) fr H wr k) L:=by
  refine one_loop (p:=58) rfl (by kernel_rfl) (loopT_ok (by decide) fun vs H wr ex vs' H' w hv ha hh=>?_)
  split at hv
  · rename_i nodes m i mc x cs b0 b1
    split at hv
    · rename_i mm p hmm hp
      have:=msgOf_some hmm
      subst this
      have:=prOf_some hp
      subst this
      obtain ⟨hc,hv2⟩:=Tr.br_no hv
      clear hv
      simp only [Bool.and_eq_true,decide_eq_true_eq] at hc
      obtain ⟨hm,rfl,hn,hs⟩:=hc
      cases hv2
      refine ⟨nodes.length + 1,fun k=>?_⟩
      have:=fold_loop (F:=fun N i (z:List MsI × Wr)=>LC PR (cfE (P:=PR) (A:=A) [copE]) cfgPx lfPal n_paxos_Proposer_all 0 58 [0,3,5,12,13,14] [5] N [.ptr 3 0 0,.ptr 0 0 0,.slice MsT z.1 .own,.slice (.int .i64) nodes .view,.int .i64 m,.int .i64 i] [[.cells (msgC mm)],x,[],[.cells (prC p),b0,b1]] z.2 k)
        (step:=palStep p mm) (E:=fun z=>k (.exit 0) [.slice MsT z.1 .own] [[.cells (msgC mm)],x,[],[.cells (prC p),b0,b1]] z.2) hm (by simp only [maxInt]; omega) (fun N i x=>by kernel_rfl) nodes.length 0 ([],wr) (by omega)
      rw [List.drop_zero,pal_fold _ _ hs _ _ _ _ _ (by simpa using hn)] at this
      exact this
    · cases hv
  · cases hv
def palF:List AV → Stack → Tr Res
  | [.ptr 2 0 0,.agg mc],[x,[],[.cells cs,b0,b1]]=>match msgOf mc,prOf cs with
    | some mm,some p=>.br (decide (p.nodes.length ≤ 100000) && smC mm.cs mm.ch) (.yes (.slice MsT (ofMs (allM p mm)) .view,[],[x,[],[.cells cs,b0,b1]])) .no
    | _,_=>.no
  | _,_=>.no
theorem pal_ok:Con PR A n_paxos_Proposer_all (shapeC palF):=by
  refine shapeC_ok fun args S res hv=>?_
  unfold palF at hv
  split at hv
  · rename_i mc x cs b0 b1
    split at hv
    · rename_i mm p hmm hp
      have:=msgOf_some hmm
      subst this
      have:=prOf_some hp
      subst this
      obtain ⟨hc,hv2⟩:=Tr.br_no hv
      cases hv2
      have h:body PR (cfE (P:=PR) (A:=A) [copE]) cfgPx lfPal n_paxos_Proposer_all [.ptr 2 0 0,msgA mm] [x,[],[.cells (prC p),b0,b1]] some =
        (bif decide ((p.nodes.length:Int) = (p.nodes.length:Int)) && (decide ((0:Int) = 0) && (decide (p.nodes.length ≤ 100000) && smC mm.cs mm.ch)) then some (.slice MsT (ofMs (p.nodes.map (toN p mm))) .view,outer (app (repApp p.nodes.length palW) []),[x,[],[.cells (prC p),b0,b1]]) else none):=by kernel_rfl
      rw [hc,decide_eq_true rfl,decide_eq_true rfl,outer_app0 _ _ (all0_rep rfl _)] at h
      exact ⟨fun _ _=>fun_call _ mixed (by kernel_rfl) (by kernel_rfl) pal_loops h,fun l i _=>.inl (copyvs_refl_ObE _)⟩
    · cases hv
  · cases hv
def palE:Ent PR A:=⟨n_paxos_Proposer_all,_,pal_ok⟩
end Go.Crc
