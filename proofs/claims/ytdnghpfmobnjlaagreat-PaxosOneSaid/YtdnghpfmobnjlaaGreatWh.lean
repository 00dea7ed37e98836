/- Contracts of functions of this program. Conditions: none. -/
import Derived.Test.YtdnghpfmobnjlaaGreatWe
import Derived.Test.YtdnghpfmobnjlaaGreatVp
import Derived.Test.YtdnghpfmobnjlaaGreatWf
set_option linter.unusedVariables false
set_option linter.unusedSimpArgs false
set_option maxRecDepth 100000
namespace Go.Crc
open Go.Vm Go.Pack Go.Rec
abbrev RowT:Ty:=.slice (.int .i64)
def conA (t:Int) (s:List Int) (sh:List (List Int)):AV:=.agg [.int .i64 t,.slice (.int .i64) s .view,.slice RowT sh .view]
def cfgT:Cfg:=cfgOf [(n_pack_Num,[0]),(n_pack_Text,[0])] [n_pack_Num,n_pack_Text,n_crc_New,n_crc_Table_Put,n_pack_NewReader,n_term_Encode] []
def lfUn:Nat → Option LoopSum:=lfOf [(58,loopT [3,7,8,9] [2] fun vs H=>match vs,H with
  | [.ptr 0 0 o,.slice (.int .i64) a .view,.int .i64 m,.int .i64 i],[.map ks] :: S=>.br (Nat.beq o mapO && (decide (m = a.length) && decide (i = 0)))
      (.br (unlF ks a) (.yes (.exit 0,[.undef],[.map (uks ks a)] :: S,uwr ks a)) (.yes (.ret,[.bool false],[.map (uks ks a)] :: S,uwr ks a))) .no
  | _,_=>.no)]
def unStep (R:List Int × Wr → Option Res) (i x:Int) (s:List Int × Wr) (k:List Int × Wr → Option Res):Option Res :=
  bif decide (x < 0) then R s else bif decide (x ≥ 16) then R s else bif memI x s.1 then R s else k (addI x s.1,(0,0) :: s.2)
theorem un_fold (R E:List Int × Wr → Option Res):∀ (a:List Int) (j:Nat) (ks:List Int) (wr:Wr),foldK (unStep R) E j a (ks,wr) = bif unlF ks a then E (uks ks a,app (uwr ks a) wr) else R (uks ks a,app (uwr ks a) wr)
  | [],j,ks,wr=>rfl
  | x :: r,j,ks,wr=>by
    rw [show foldK (unStep R) E j (x :: r) (ks,wr) = (bif decide (x < 0) then R (ks,wr) else bif decide (x ≥ 16) then R (ks,wr) else bif memI x ks then R (ks,wr) else foldK (unStep R) E (j + 1) r (addI x ks,(0,0) :: wr)) from rfl,un_fold R E r]
    simp only [unlF,uks,uwr]
    cases decide (x < 0) with
    | true=>rfl
    | false =>
      cases decide (x ≥ 16) with
      | true=>rfl
      | false =>
        cases memI x ks with
        | true=>rfl
        | false=>simp only [cond_false,app_eq,List.append_assoc,List.singleton_append]
theorem un_loops:∀ x ∈ funLoops PR n_term_unlike,∀ L,lfUn x.1 = some L → LoopOK (ntm PR n_term_unlike) (fun fr H wr k=>code PR (cfE (P:=PR) (A:=A) []) cfgT lfUn (cfgT.live n_term_unlike) x.2 (2 * x.1) fr H wr k) L:=by
  refine one_loop (p:=58) rfl (by kernel_rfl) (loopT_ok (by decide) fun vs H wr ex vs' H' w hv ha hh=>?_)
  split at hv
  · rename_i o a m i ks S
    obtain ⟨hc,hv2⟩:=Tr.br_no hv
    clear hv
    simp only [Bool.and_eq_true,decide_eq_true_eq,beq_iff] at hc
    obtain ⟨rfl,hm,rfl⟩:=hc
    have hmax:a.length ≤ maxInt:=by simp only [okAVs,okAV] at ha; exact ha.2.1.1
    refine ⟨a.length + 1,fun k=>?_⟩
    have:=fold_loop (F:=fun N i (x:List Int × Wr)=>LC PR (cfE (P:=PR) (A:=A) []) cfgT lfUn n_term_unlike 0 58 [3,7,8,9] [2] N [.ptr 0 0 mapO,.slice (.int .i64) a .view,.int .i64 m,.int .i64 i] ([.map x.1] :: S) x.2 k)
      (step:=unStep fun x=>k .ret [.bool false] ([.map x.1] :: S) x.2) (E:=fun x=>k (.exit 0) [.undef] ([.map x.1] :: S) x.2) hm hmax (fun N i x=>by kernel_rfl) a.length 0 (ks,wr) (by omega)
    rw [List.drop_zero,un_fold] at this
    rcases Tr.br_or hv2 with ⟨he,h4⟩ | ⟨he,h4⟩
    · cases h4; rw [he] at this; exact this
    · cases h4; rw [he] at this; exact this
  · cases hv
def unF:List AV → Tr AV
  | [.slice (.int .i64) a .view]=>.yes (.bool (unl a))
  | _=>.no
theorem un_ok:Con PR A n_term_unlike (pureC unF):=by
  refine pure_con (cfg:=cfgT) (lf:=lfUn) [] mixed (by kernel_rfl) (by kernel_rfl) un_loops fun args v hv ha S=>?_
  unfold unF at hv
  split at hv
  · rename_i a
    cases hv
    have h:body PR (cfE (P:=PR) (A:=A) []) cfgT lfUn n_term_unlike [.slice (.int .i64) a .view] S some =
      (bif true && (decide ((a.length:Int) = (a.length:Int)) && true) then (bif unlF [] a then some (.bool true,outer (app (uwr [] a) []),S) else some (.bool false,outer (app (uwr [] a) []),S)) else none):=by kernel_rfl
    rw [h,decide_eq_true rfl,outer_app0 _ _ (uwr_all0 _ _)]
    unfold unl
    cases unlF [] a <;> rfl
  · cases hv
def unE:Ent PR A:=⟨n_term_unlike,_,un_ok⟩
def trbF:List AV → Tr AV
  | [.slice (.int .i64) a .view]=>.yes (.bool (badRow a))
  | _=>.no
theorem trb_ok:Con PR A n_term_Right_1 (pureC trbF):=by
  refine pure_con0 (cfg:=cfgT) [unE] mixed (by kernel_rfl) (by kernel_rfl) (by kernel_rfl) fun args v hv ha S=>?_
  unfold trbF at hv
  split at hv
  · rename_i a
    cases hv
    have h:body PR (cfE [unE]) cfgT lf0 n_term_Right_1 [.slice (.int .i64) a .view] S some =
      (bif decide ((a.length:Int) < 1) then some (.bool true,[],S) else bif decide ((a.length:Int) > 3) then some (.bool true,[],S) else some (.bool (!unl a),[],S)):=by kernel_rfl
    rw [h]
    unfold badRow
    cases decide ((a.length:Int) < 1) <;> cases decide ((a.length:Int) > 3) <;> rfl
  · cases hv
def trbE:Ent PR A:=⟨n_term_Right_1,_,trb_ok⟩
def lfIr:Nat → Option LoopSum:=lfOf [(26,loopT [0,1,7,8] [4] fun vs H=>match vs,H with
  | [.slice (.slice (.int .i64)) a .view,.func f [] [],.int .i64 m,.int .i64 i],[] :: S=>.br (Nat.beq f n_term_Right_1 && decide (m = a.length) && decide (i = 0)) (.br (a.any badRow) (.yes (.ret,[.int .i64 (idxG badRow a)],[] :: S,[])) (.yes (.exit 0,[.undef],[] :: S,[]))) .no
  | _,_=>.no)]
theorem ir_loops:∀ x ∈ funLoops PR n_slices_IndexFunc_int_int_rows,∀ L,lfIr x.1 = some L → LoopOK (ntm PR n_slices_IndexFunc_int_int_rows) (fun fr H wr k=>code PR (cfE [trbE]) cfgT lfIr (cfgT.live n_slices_IndexFunc_int_int_rows) x.2 (2 * x.1) fr H wr k) L:=by
  refine one_loop (p:=26) rfl (by kernel_rfl) (loopT_ok (by decide) fun vs H wr ex vs' H' w hv ha hh=>?_)
  split at hv
  · rename_i a f m i S
    obtain ⟨hc,hv2⟩:=Tr.br_no hv
    clear hv
    simp only [Bool.and_eq_true,decide_eq_true_eq,beq_iff] at hc
    obtain ⟨⟨rfl,hm⟩,rfl⟩:=hc
    have hmax:a.length ≤ maxInt:=by simp only [okAVs,okAV] at ha; exact ha.1.1
    refine ⟨a.length + 1,fun k=>?_⟩
    have:=find_loop (F:=fun N i=>LC PR (cfE [trbE]) cfgT lfIr n_slices_IndexFunc_int_int_rows 0 26 [0,1,7,8] [4] N [.slice (.slice (.int .i64)) a .view,.func n_term_Right_1 [] [],.int .i64 m,.int .i64 i] ([] :: S) wr k)
      (p:=badRow) (R:=fun i=>k .ret [.int .i64 i] ([] :: S) wr) (E:=k (.exit 0) [.undef] ([] :: S) wr) hm hmax (fun N i=>by kernel_rfl) a.length 0 (by omega)
    rw [List.drop_zero] at this
    have hany:=idxP_any badRow a 0
    rcases Tr.br_or hv2 with ⟨he,h4⟩ | ⟨he,h4⟩
    · cases h4
      unfold idxG
      rw [he] at hany
      cases hi:idxP badRow 0 a with
      | none=>rw [hi] at hany; cases hany
      | some j=>rw [hi] at this; exact this
    · cases h4
      rw [he] at hany
      cases hi:idxP badRow 0 a with
      | none=>rw [hi] at this; exact this
      | some j=>rw [hi] at hany; cases hany
  · cases hv
def irF:List AV → Tr AV
  | [.slice (.slice (.int .i64)) a .view,.func f [] []]=>.br (Nat.beq f n_term_Right_1) (.yes (.int .i64 (idxG badRow a))) .no
  | _=>.no
theorem ir_ok:Con PR A n_slices_IndexFunc_int_int_rows (pureC irF):=by
  refine pure_con (cfg:=cfgT) (lf:=lfIr) [trbE] mixed (by kernel_rfl) (by kernel_rfl) ir_loops fun args v hv ha S=>?_
  unfold irF at hv
  split at hv
  · rename_i a f
    obtain ⟨hc,hv2⟩:=Tr.br_no hv
    cases hv2
    rw [beq_iff] at hc
    subst hc
    have h:body PR (cfE [trbE]) cfgT lfIr n_slices_IndexFunc_int_int_rows [.slice (.slice (.int .i64)) a .view,.func n_term_Right_1 [] []] S some =
      (bif true && decide ((a.length:Int) = (a.length:Int)) && true then (bif a.any badRow then some (.int .i64 (idxG badRow a),[],S) else some (.int .i64 (-1),[],S)) else none):=by kernel_rfl
    rw [h,decide_eq_true rfl]
    cases hn:a.any badRow with
    | true=>rfl
    | false=>rw [idxG_none hn]; rfl
  · cases hv
def irE:Ent PR A:=⟨n_slices_IndexFunc_int_int_rows,_,ir_ok⟩
def crF:List AV → Tr AV
  | [.slice (.slice (.int .i64)) a .view,.func f [] []]=>.br (Nat.beq f n_term_Right_1) (.yes (.bool (a.any badRow))) .no
  | _=>.no
theorem cr_ok:Con PR A n_slices_ContainsFunc_int_int_rows (pureC crF):=by
  refine pure_con0 (cfg:=cfgT) [irE] mixed (by kernel_rfl) (by kernel_rfl) (by kernel_rfl) fun args v hv ha S=>?_
  unfold crF at hv
  split at hv
  · rename_i a f
    obtain ⟨hc,hv2⟩:=Tr.br_no hv
    cases hv2
    rw [beq_iff] at hc
    subst hc
    have h:body PR (cfE [irE]) cfgT lf0 n_slices_ContainsFunc_int_int_rows [.slice (.slice (.int .i64)) a .view,.func n_term_Right_1 [] []] S some = some (.bool (decide (idxG badRow a ≥ 0)),[],S):=by kernel_rfl
    rw [h,idxG_any]
  · cases hv
def crE:Ent PR A:=⟨n_slices_ContainsFunc_int_int_rows,_,cr_ok⟩
def trF:List AV → Tr AV
  | [.agg [.int .i64 t,.slice (.int .i64) s .view,.slice (.slice (.int .i64)) sh .view]]=>.yes (.bool (termR t s sh))
  | _=>.no
theorem tr_ok:Con PR A n_term_Right (pureC trF):=by
  refine pure_con0 (cfg:=cfgT) [unE,crE] mixed (by kernel_rfl) (by kernel_rfl) (by kernel_rfl) fun args v hv ha S=>?_
  unfold trF at hv
  split at hv
  · rename_i t s sh
    cases hv
    have h:body PR (cfE [unE,crE]) cfgT lf0 n_term_Right [conA t s sh] S some =
      (bif decide (t < 1) then some (.bool false,[],S) else bif decide (t > 64) then some (.bool false,[],S) else bif (s.length:Int).tmod 2 == 0 then some (.bool false,[],S) else bif decide ((s.length:Int) > 7) then some (.bool false,[],S)
      else bif decide ((sh.length:Int) < 1) then some (.bool false,[],S) else bif decide ((sh.length:Int) > 8) then some (.bool false,[],S) else bif !unl s then some (.bool false,[],S) else some (.bool (!(sh.any badRow)),[],S)):=by kernel_rfl
    refine h.trans ?_
    unfold termR
    cases decide (t < 1) <;> cases decide (t > 64) <;> cases (s.length:Int).tmod 2 == 0 <;> cases decide ((s.length:Int) > 7) <;> cases decide ((sh.length:Int) < 1) <;> cases decide ((sh.length:Int) > 8) <;> cases unl s <;> rfl
  · cases hv
def trE:Ent PR A:=⟨n_term_Right,_,tr_ok⟩
def lfEf:Nat → Option LoopSum:=lfOf [(58,loopT [1,2,15,16,17] [6] fun vs H=>match vs,H with
  | [.slice (.slice (.int .i64)) b .view,.func f [] [],.slice (.slice (.int .i64)) a .view,.int .i64 m,.int .i64 i],[] :: S=>.br (Nat.beq f n_slices_Equal_int_int && (decide (m = a.length) && decide (i = 0)) && decide (a.length = b.length)) (.br (a == b) (.yes (.exit 0,[.undef],[] :: S,[])) (.yes (.ret,[.bool false],[] :: S,[]))) .no
  | _,_=>.no)]
theorem ef_loops:∀ x ∈ funLoops PR n_slices_EqualFunc_int_int_int_int_rows,∀ L,lfEf x.1 = some L → LoopOK (ntm PR n_slices_EqualFunc_int_int_int_int_rows) (fun fr H wr k=>code PR (cfE [seE]) cfgT lfEf (cfgT.live n_slices_EqualFunc_int_int_int_int_rows) x.2 (2 * x.1) fr H wr k) L:=by
  refine one_loop (p:=58) rfl (by kernel_rfl) (loopT_ok (by decide) fun vs H wr ex vs' H' w hv ha hh=>?_)
  split at hv
  · rename_i b f a m i S
    obtain ⟨hc,hv2⟩:=Tr.br_no hv
    clear hv
    simp only [Bool.and_eq_true,decide_eq_true_eq,beq_iff] at hc
    obtain ⟨⟨rfl,hm,rfl⟩,hl⟩:=hc
    have hmax:a.length ≤ maxInt:=by simp only [okAVs,okAV] at ha; exact ha.2.2.1.1
    refine ⟨a.length + 1,fun k=>?_⟩
    have:=eq_loop (F:=fun N i=>LC PR (cfE [seE]) cfgT lfEf n_slices_EqualFunc_int_int_int_int_rows 0 58 [1,2,15,16,17] [6] N [.slice (.slice (.int .i64)) b .view,.func n_slices_Equal_int_int [] [],.slice (.slice (.int .i64)) a .view,.int .i64 m,.int .i64 i] ([] :: S) wr k)
      (R:=k .ret [.bool false] ([] :: S) wr) (E:=k (.exit 0) [.undef] ([] :: S) wr) hm hl hmax (fun N i=>by kernel_rfl) a.length 0 (by omega)
    rw [List.drop_zero,List.drop_zero] at this
    rcases Tr.br_or hv2 with ⟨he,h4⟩ | ⟨he,h4⟩
    · cases h4; rw [he] at this; exact this
    · cases h4; rw [he] at this; exact this
  · cases hv
def efF:List AV → Tr AV
  | [.slice (.slice (.int .i64)) a .view,.slice (.slice (.int .i64)) b .view,.func f [] []]=>.br (Nat.beq f n_slices_Equal_int_int) (.yes (.bool (a == b))) .no
  | _=>.no
theorem ef_ok:Con PR A n_slices_EqualFunc_int_int_int_int_rows (pureC efF):=by
  refine pure_con (cfg:=cfgT) (lf:=lfEf) [seE] mixed (by kernel_rfl) (by kernel_rfl) ef_loops fun args v hv ha S=>?_
  unfold efF at hv
  split at hv
  · rename_i a b f
    obtain ⟨hc,hv2⟩:=Tr.br_no hv
    cases hv2
    rw [beq_iff] at hc
    subst hc
    have h:body PR (cfE [seE]) cfgT lfEf n_slices_EqualFunc_int_int_int_int_rows [.slice (.slice (.int .i64)) a .view,.slice (.slice (.int .i64)) b .view,.func n_slices_Equal_int_int [] []] S some =
      (bif (a.length:Int) != (b.length:Int) then some (.bool false,[],S)
      else bif true && (decide ((a.length:Int) = (a.length:Int)) && true) && decide (a.length = b.length) then (bif a == b then some (.bool true,[],S) else some (.bool false,[],S)) else none):=by kernel_rfl
    rw [h,decide_eq_true rfl]
    by_cases hl:a.length = b.length
    · rw [show ((a.length:Int) != (b.length:Int)) = false by simp [hl],decide_eq_true hl]
      cases a == b <;> rfl
    · rw [show ((a.length:Int) != (b.length:Int)) = true by simp; omega,ne_len hl]; rfl
  · cases hv
def efE:Ent PR A:=⟨n_slices_EqualFunc_int_int_int_int_rows,_,ef_ok⟩
def tsF:List AV → Tr AV
  | [.agg [.int .i64 t,.slice (.int .i64) s .view,.slice (.slice (.int .i64)) sh .view],.agg [.int .i64 t2,.slice (.int .i64) s2 .view,.slice (.slice (.int .i64)) sh2 .view]]=>.yes (.bool (t == t2 && (s == s2 && sh == sh2)))
  | _=>.no
theorem ts_ok:Con PR A n_term_Same (pureC tsF):=by
  refine pure_con0 (cfg:=cfgT) [seE,efE] mixed (by kernel_rfl) (by kernel_rfl) (by kernel_rfl) fun args v hv ha S=>?_
  unfold tsF at hv
  split at hv
  · rename_i t s sh t2 s2 sh2
    cases hv
    have h:body PR (cfE [seE,efE]) cfgT lf0 n_term_Same [conA t s sh,conA t2 s2 sh2] S some =
      (bif t == t2 then bif s == s2 then some (.bool (sh == sh2),[],S) else some (.bool false,[],S) else some (.bool false,[],S)):=by kernel_rfl
    refine h.trans ?_
    cases t == t2 <;> cases s == s2 <;> rfl
  · cases hv
def tsE:Ent PR A:=⟨n_term_Same,_,ts_ok⟩
end Go.Crc
namespace Go.Crc
open Go.Vm Go.Pack Go.Rec
def aN (o:List Int) (l:List Int):List Int:=bif okAll l then o ++ nums l else o
def lfTe:Nat → Option LoopSum:=lfOf [(506,loopT [4,38,39,40] [4] fun vs H=>match vs,H with
  | [.slice (.int .u8) o .own,.slice (.slice (.int .i64)) sh .view,.int .i64 m,.int .i64 i],[.cells cs] :: S=>.br (decide (m = sh.length) && decide (i = 0) && (decide (sh.length ≤ 8) && (decide (o.length ≤ 1000) && !(sh.any badRow))))
      (.yes (.exit 0,[.slice (.int .u8) (o ++ rowsT sh) .own],[.cells cs] :: S,[])) .no
  | _,_=>.no)]
def teStep (i:Int) (x:List Int) (o:List Int) (k:List Int → Option Res):Option Res :=
  bif decide (o.length + 10 * [(x.length:Int)].length ≤ 140737488355328) then bif decide ((aN o [(x.length:Int)]).length + 10 * x.length ≤ 140737488355328) then k (aN (aN o [(x.length:Int)]) x) else none else none
theorem aN_row {o x:List Int} (h:badRow x = false):aN (aN o [(x.length:Int)]) x = o ++ rowT x:=by
  obtain ⟨h1,h2,h3⟩:=badRow_iff.1 h
  unfold aN rowT
  rw [unl_all h3,okAll_small (l:=[(x.length:Int)]) (fun n hn=>by simp only [List.mem_singleton] at hn; omega)]
  simp only [cond_true,nums,List.append_nil,List.append_assoc]
theorem aN_len (o l:List Int):(aN o l).length ≤ o.length + 9 * l.length:=by
  unfold aN
  have:=nums_len l
  cases okAll l with
  | true=>simp only [cond_true,List.length_append]; omega
  | false=>simp only [cond_false]; omega
theorem te_fold (E:List Int → Option Res):∀ (sh:List (List Int)) (j:Nat) (o:List Int),(∀ x ∈ sh,badRow x = false) → o.length + 36 * sh.length ≤ 100000 → foldK teStep E j sh o = E (o ++ rowsT sh)
  | [],j,o,_,_=>by simp only [foldK,rowsT,List.append_nil]
  | x :: r,j,o,hb,hl=>by
    have hx:=hb x (by simp)
    obtain ⟨h1,h2,h3⟩:=badRow_iff.1 hx
    have k1:=aN_len o [(x.length:Int)]
    have k2:=rowT_len x
    simp only [List.length_cons,List.length_nil] at k1 hl
    rw [show foldK teStep E j (x :: r) o = (bif decide (o.length + 10 * [(x.length:Int)].length ≤ 140737488355328) then bif decide ((aN o [(x.length:Int)]).length + 10 * x.length ≤ 140737488355328) then foldK teStep E (j + 1) r (aN (aN o [(x.length:Int)]) x) else none else none) from rfl,
      cond_eq (decide_eq_true (by simp only [List.length_cons,List.length_nil]; omega)),cond_eq (decide_eq_true (by omega)),aN_row hx,te_fold E r (j + 1) _ (fun y hy=>hb y (by simp [hy])) (by rw [List.length_append]; omega),rowsT,List.append_assoc]
theorem te_loops:∀ x ∈ funLoops PR n_term_Encode,∀ L,lfTe x.1 = some L → LoopOK (ntm PR n_term_Encode) (fun fr H wr k=>code PR (cfE [trE,pnumE,newE,putE]) cfgT lfTe (cfgT.live n_term_Encode) x.2 (2 * x.1) fr H wr k) L:=by
  refine one_loop (p:=506) rfl (by kernel_rfl) (loopT_ok (by decide) fun vs H wr ex vs' H' w hv ha hh=>?_)
  split at hv
  · rename_i o sh m i cs S
    obtain ⟨hc,hv2⟩:=Tr.br_no hv
    clear hv
    simp only [Bool.and_eq_true,decide_eq_true_eq,Bool.not_eq_true'] at hc
    obtain ⟨⟨hm,rfl⟩,h8,ho,hb⟩:=hc
    cases hv2
    refine ⟨sh.length + 1,fun k=>?_⟩
    have:=fold_loop (F:=fun N i (x:List Int)=>LC PR (cfE [trE,pnumE,newE,putE]) cfgT lfTe n_term_Encode 0 506 [4,38,39,40] [4] N [.slice (.int .u8) x .own,.slice (.slice (.int .i64)) sh .view,.int .i64 m,.int .i64 i] ([.cells cs] :: S) wr k)
      (step:=teStep) (E:=fun x=>k (.exit 0) [.slice (.int .u8) x .own] ([.cells cs] :: S) wr) hm (by simp only [maxInt]; omega) (fun N i x=>by kernel_rfl) sh.length 0 o (by omega)
    rw [List.drop_zero,te_fold _ _ _ _ (fun x hx=>by rw [List.any_eq_false] at hb; simpa using hb x hx) (by omega)] at this
    exact this
  · cases hv
def teV (t:Int) (s:List Int) (sh:List (List Int)) (lv:Lv):AV:=.tuple [.slice (.int .u8) (termB t s sh) lv,.int .i64 (termE t s sh)]
def teF (lv:Lv):List AV → Tr AV
  | [.agg [.int .i64 t,.slice (.int .i64) s .view,.slice (.slice (.int .i64)) sh .view]]=>.yes (teV t s sh lv)
  | _=>.no
theorem te_ok:Con PR A n_term_Encode (pureC (teF .own)):=by
  refine pure_con (cfg:=cfgT) (lf:=lfTe) [trE,pnumE,newE,putE] mixed (by kernel_rfl) (by kernel_rfl) te_loops fun args v hv ha S=>?_
  unfold teF at hv
  split at hv
  · rename_i t s sh
    cases hv
    have h:body PR (cfE [trE,pnumE,newE,putE]) cfgT lfTe n_term_Encode [conA t s sh] S some =
      (bif !termR t s sh then some (.tuple [.slice (.int .u8) [] .own,.int .i64 60],[],S)
      else bif decide ((aN [] [t,(s.length:Int)]).length + 10 * s.length ≤ 140737488355328) then
        bif decide ((aN (aN [] [t,(s.length:Int)]) s).length + 10 * [(sh.length:Int)].length ≤ 140737488355328) then
        bif decide ((sh.length:Int) = (sh.length:Int)) && true && (decide (sh.length ≤ 8) && (decide ((aN (aN (aN [] [t,(s.length:Int)]) s) [(sh.length:Int)]).length ≤ 1000) && !(sh.any badRow))) then
        bif decide ((aN (aN (aN [] [t,(s.length:Int)]) s) [(sh.length:Int)] ++ rowsT sh).length + 4 ≤ 140737488355328) then
          some (.tuple [.slice (.int .u8) (crcPut (aN (aN (aN [] [t,(s.length:Int)]) s) [(sh.length:Int)] ++ rowsT sh)) .own,.int .i64 0],[],S)
        else none else none else none else none):=by kernel_rfl
    refine h.trans ?_
    unfold teV termB termE
    cases hr:termR t s sh with
    | false=>rfl
    | true =>
      obtain ⟨h1,h2,h3,h4,h5⟩:=termR_iff.1 hr
      have hlen:=termT_len hr
      have e:aN (aN (aN [] [t,(s.length:Int)]) s) [(sh.length:Int)] ++ rowsT sh = termT t s sh:=by
        unfold aN termT rowT
        rw [unl_all h4,okAll_small (l:=[t,(s.length:Int)]) (fun n hn=>by simp only [List.mem_cons,List.not_mem_nil,or_false] at hn; omega),okAll_small (l:=[(sh.length:Int)]) (fun n hn=>by simp only [List.mem_singleton] at hn; omega)]
        simp only [cond_true,nums,List.append_nil,List.append_assoc,List.nil_append]
      have k1:=aN_len [] [t,(s.length:Int)]
      have k2:=aN_len (aN [] [t,(s.length:Int)]) s
      have k3:=aN_len (aN (aN [] [t,(s.length:Int)]) s) [(sh.length:Int)]
      simp only [List.length_cons,List.length_nil] at k1 k3
      have hb:sh.any badRow = false:=by rw [List.any_eq_false]; exact fun x hx=>by rw [h5 x hx]; simp
      simp only [Bool.not_true,cond_false,cond_true]
      rw [cond_eq (decide_eq_true (by omega)),cond_eq (decide_eq_true (by simp only [List.length_cons,List.length_nil]; omega)),show decide True = true from rfl,decide_eq_true (show sh.length ≤ 8 by omega),decide_eq_true (show (aN (aN (aN [] [t,(s.length:Int)]) s) [(sh.length:Int)]).length ≤ 1000 by omega),hb,e,decide_eq_true (show (termT t s sh).length + 4 ≤ 140737488355328 by omega)]
      rfl
  · cases hv
def teE:Ent PR A:=⟨n_term_Encode,_,te_ok⟩
def lfNd:Nat → Option LoopSum:=lfOf [(58,loopT [0,3,5,6] [3] fun vs H=>match vs,H with
  | [.ptr 2 0 0,.slice (.int .i64) o .own,.int .i64 m,.int .i64 i],[[],[],[.cells [.slice (.int .u8) b .view,.int .i64 e]]] =>
    .br (decide (i = 0) && decide (0 ≤ m) && (decide (m ≤ 16) && decide (o.length = 0))) (.yes (.exit 0,[.slice (.int .i64) (rowR 16 m.toNat ⟨b,e⟩).2 .own],[[],[],[ofSt (rowR 16 m.toNat ⟨b,e⟩).1]],repApp m.toNat [(2,0)])) .no
  | _,_=>.no)]
def ndStep (x:St × List Int × Wr) (k:St × List Int × Wr → Option Res):Option Res :=
  bif decide ((x.2.1.length + [(numR ⟨x.1.b,x.1.e⟩ 16).2].length) * 8 ≤ 140737488355328) then k ((numR ⟨x.1.b,x.1.e⟩ 16).1,x.2.1 ++ [(numR ⟨x.1.b,x.1.e⟩ 16).2],(2,0) :: x.2.2) else none
theorem nd_iter (E:St × List Int × Wr → Option Res):∀ (q:Nat) (s:St) (o:List Int) (wr:Wr),o.length + q ≤ 100 → iterK ndStep E q (s,o,wr) = E ((rowR 16 q s).1,o ++ (rowR 16 q s).2,app (repApp q [(2,0)]) wr)
  | 0,s,o,wr,_=>by simp only [iterK,rowR,List.append_nil]; rfl
  | q + 1,s,o,wr,h=>by
    rw [show iterK ndStep E (q + 1) (s,o,wr) = (bif decide ((o.length + [(numR ⟨s.b,s.e⟩ 16).2].length) * 8 ≤ 140737488355328) then iterK ndStep E q ((numR ⟨s.b,s.e⟩ 16).1,o ++ [(numR ⟨s.b,s.e⟩ 16).2],(2,0) :: wr) else none) from rfl,
      cond_eq (decide_eq_true (by simp only [List.length_cons,List.length_nil]; omega)),nd_iter E q _ _ _ (by rw [List.length_append]; simp only [List.length_cons,List.length_nil]; omega),rep_more]
    simp only [rowR,List.append_assoc,List.singleton_append]
    rfl
theorem nd_loops:∀ x ∈ funLoops PR n_term_nodes,∀ L,lfNd x.1 = some L → LoopOK (ntm PR n_term_nodes) (fun fr H wr k=>code PR (cfE [numE]) cfgT lfNd (cfgT.live n_term_nodes) x.2 (2 * x.1) fr H wr k) L:=by
  refine one_loop (p:=58) rfl (by kernel_rfl) (loopT_ok (by decide) fun vs H wr ex vs' H' w hv ha hh=>?_)
  split at hv
  · rename_i o m i b e
    obtain ⟨hc,hv2⟩:=Tr.br_no hv
    clear hv
    simp only [Bool.and_eq_true,decide_eq_true_eq] at hc
    obtain ⟨⟨rfl,h0⟩,h8,ho⟩:=hc
    cases hv2
    have ho':=List.eq_nil_of_length_eq_zero ho
    subst ho'
    refine ⟨m.toNat + 1,fun k=>?_⟩
    have:=count_loop (F:=fun N i (x:St × List Int × Wr)=>LC PR (cfE [numE]) cfgT lfNd n_term_nodes 0 58 [0,3,5,6] [3] N [.ptr 2 0 0,.slice (.int .i64) x.2.1 .own,.int .i64 m,.int .i64 i] [[],[],[.cells [.slice (.int .u8) x.1.b .view,.int .i64 x.1.e]]] x.2.2 k)
      (m:=m) (step:=ndStep) (E:=fun x=>k (.exit 0) [.slice (.int .i64) x.2.1 .own] [[],[],[ofSt x.1]] x.2.2) (by simp only [maxInt]; omega) (fun N i x=>by kernel_rfl) m.toNat 0 (⟨b,e⟩,[],wr) (by omega)
    rw [nd_iter _ _ _ _ _ (by simp only [List.length_nil]; omega)] at this
    exact this
  · cases hv
def ndF:Ob → List AV → Tr (AV × Bool × Ob)
  | .cells [.slice (.int .u8) b .view,.int .i64 e],[]=>.yes (.slice (.int .i64) (nodesR ⟨b,e⟩).2 .view,true,ofSt (nodesR ⟨b,e⟩).1)
  | _,_=>.no
theorem nd_ok:Con PR A n_term_nodes (objC 0 ndF):=by
  refine objC_ok fun x rest v wrote x' hv=>?_
  unfold ndF at hv
  split at hv
  · rename_i b e
    cases hv
    refine ⟨rfl,rfl,rfl,rfl,by simp,fun ha hh=>?_⟩
    have h:body PR (cfE [numE]) cfgT lfNd n_term_nodes [.ptr 1 0 0] [[],[.cells [.slice (.int .u8) b .view,.int .i64 e]]] some =
      (bif true && decide (0 ≤ (numR ⟨b,e⟩ 16).2) && (decide ((numR ⟨b,e⟩ 16).2 ≤ 16) && true) then
        some (.slice (.int .i64) (nodesR ⟨b,e⟩).2 .view,outer (app (repApp (numR ⟨b,e⟩ 16).2.toNat [(2,0)]) [(2,0)]),[[],[ofSt (nodesR ⟨b,e⟩).1]]) else none):=by kernel_rfl
    have g:=num16 ⟨b,e⟩
    rw [decide_eq_true g.1,decide_eq_true g.2] at h
    exact SimCall.wr (fun_call _ mixed (by kernel_rfl) (by kernel_rfl) nd_loops h) fun l i hm=>outer20 _ hm hm
  · cases hv
def ndE:Ent PR A:=⟨n_term_nodes,_,nd_ok⟩
def lfTd:Nat → Option LoopSum:=lfOf [(250,loopT [2,4,5,6,21,22] [2,4,5,6] fun vs H=>match vs,H with
  | [.ptr 0 0 0,.bool z,.ptr 0 2 0,.ptr 0 3 0,.int .i64 m,.int .i64 i],[x,y,.cells [.slice (.int .u8) b .view,.int .i64 e],.cells [.int .i64 t,.slice (.int .i64) s .view,.slice (.slice (.int .i64)) o .own]] :: S =>
    .br (decide (i = 0) && decide (0 ≤ m) && (decide (m ≤ 8) && decide (o.length = 0))) (.yes (.exit 0,[.ptr 0 0 0,.bool z,.ptr 0 2 0,.ptr 0 3 0],[x,y,ofSt (rowsR m.toNat ⟨b,e⟩).1,.cells [.int .i64 t,.slice (.int .i64) s .view,.slice (.slice (.int .i64)) (rowsR m.toNat ⟨b,e⟩).2 .own]] :: S,repApp m.toNat [(0,3),(0,2)])) .no
  | _,_=>.no)]
noncomputable abbrev LTd (N:Nat):=LC PR (cfE [newE,cutE,newReaderE,numE,endE,ndE,trE]) cfgT lfTd n_term_Decode 0 250 [2,4,5,6,21,22] [2,4,5,6] N
theorem td_round (x y:Ob) (b s:List Int) (o:List (List Int)) (z:Bool) (e t m i:Int) (S:Stack) (wr:Wr) (N:Nat) (k:Ex → List AV → Stack → Wr → Option Res) :
    LTd (N + 1) [.ptr 0 0 0,.bool z,.ptr 0 2 0,.ptr 0 3 0,.int .i64 m,.int .i64 i] ([x,y,.cells [.slice (.int .u8) b .view,.int .i64 e],.cells [.int .i64 t,.slice (.int .i64) s .view,.slice (.slice (.int .i64)) o .own]] :: S) wr k =
      (bif decide (i < m) then bif decide ((o.length + [(nodesR ⟨b,e⟩).2].length) * 24 ≤ 140737488355328) then
        LTd N [.ptr 0 0 0,.bool z,.ptr 0 2 0,.ptr 0 3 0,.int .i64 m,.int .i64 (IntKind.i64.wrap (i + 1))] ([x,y,ofSt (nodesR ⟨b,e⟩).1,.cells [.int .i64 t,.slice (.int .i64) s .view,.slice (.slice (.int .i64)) (o ++ [(nodesR ⟨b,e⟩).2]) .own]] :: S) ((0,3) :: (0,2) :: wr) k
      else none else k (.exit 0) [.ptr 0 0 0,.bool z,.ptr 0 2 0,.ptr 0 3 0] ([x,y,ofSt ⟨b,e⟩,.cells [.int .i64 t,.slice (.int .i64) s .view,.slice (.slice (.int .i64)) o .own]] :: S) wr):=by kernel_rfl
theorem td_loop (x y:Ob) (s:List Int) (z:Bool) (t m:Int) (hm:m ≤ 8) (S:Stack) (k:Ex → List AV → Stack → Wr → Option Res):∀ (q j:Nat) (r:St) (o:List (List Int)) (wr:Wr),((j + q:Nat):Int) = m → o.length = j →
    LTd (q + 1) [.ptr 0 0 0,.bool z,.ptr 0 2 0,.ptr 0 3 0,.int .i64 m,.int .i64 (j:Int)] ([x,y,ofSt r,.cells [.int .i64 t,.slice (.int .i64) s .view,.slice (.slice (.int .i64)) o .own]] :: S) wr k =
      k (.exit 0) [.ptr 0 0 0,.bool z,.ptr 0 2 0,.ptr 0 3 0] ([x,y,ofSt (rowsR q r).1,.cells [.int .i64 t,.slice (.int .i64) s .view,.slice (.slice (.int .i64)) (o ++ (rowsR q r).2) .own]] :: S) (app (repApp q [(0,3),(0,2)]) wr)
  | 0,j,⟨b,e⟩,o,wr,hj,ht=>by
    unfold ofSt
    rw [td_round,cond_ne (by simp <;> omega)]
    simp only [rowsR,List.append_nil]
    rfl
  | q + 1,j,⟨b,e⟩,o,wr,hj,ht=>by
    unfold ofSt
    rw [td_round,cond_eq (by simp <;> omega),cond_eq (decide_eq_true (by simp only [List.length_cons,List.length_nil]; omega)),wrap_i64 (n:=(j:Int) + 1) (by omega) (by omega),show ((j:Int) + 1) = ((j + 1:Nat):Int) by omega,td_loop x y s z t m hm S k q (j + 1) _ _ _ (by omega) (by simp [ht])]
    rw [rep_more]
    simp only [rowsR,List.append_assoc,List.singleton_append]
    rfl
def tdV (b:List Int):AV:=.tuple [conA (tdT b) (tdS b) (tdH b),.int .i64 (tdE b)]
def tdF:List AV → Tr AV
  | [.slice (.int .u8) b .view]=>.br (decide (b.length ≤ 140737488355328)) (.yes (tdV b)) .no
  | _=>.no
theorem td_ok:Con PR A n_term_Decode (pureC tdF):=by
  refine pureC_ok fun args v hv ha S=>?_
  unfold tdF at hv
  split at hv
  · rename_i b
    obtain ⟨h1,hv2⟩:=Tr.br_no hv
    cases hv2
    simp only [decide_eq_true_eq] at h1
    have h:body PR (cfE [newE,cutE,newReaderE,numE,endE,ndE,trE]) cfgT lfTd n_term_Decode [.slice (.int .u8) b .view] S some =
      (bif decide (b.length ≤ 140737488355328) then
      bif decide ((cutB b).length ≤ 140737488355328) then
        bif true && decide (0 ≤ (t3 (cutB b)).2) && (decide ((t3 (cutB b)).2 ≤ 8) && true) then
          bif !crcOK b then some (.tuple [conA 0 [] [],.int .i64 60],outer (app (repApp (t3 (cutB b)).2.toNat [(0,3),(0,2)]) [(0,2),(0,3),(0,2),(0,2),(0,1)]),S)
          else bif endR (t4 (cutB b)).1 != 0 then some (.tuple [conA 0 [] [],.int .i64 60],outer (app (repApp (t3 (cutB b)).2.toNat [(0,3),(0,2)]) [(0,2),(0,3),(0,2),(0,2),(0,1)]),S)
          else bif !termR (t1 (cutB b)).2 (t2 (cutB b)).2 (t4 (cutB b)).2 then some (.tuple [conA 0 [] [],.int .i64 60],outer (app (repApp (t3 (cutB b)).2.toNat [(0,3),(0,2)]) [(0,2),(0,3),(0,2),(0,2),(0,1)]),S)
          else some (.tuple [conA (t1 (cutB b)).2 (t2 (cutB b)).2 (t4 (cutB b)).2,.int .i64 0],outer (app (repApp (t3 (cutB b)).2.toNat [(0,3),(0,2)]) [(0,2),(0,3),(0,2),(0,2),(0,1)]),S)
        else none else none else none):=by kernel_rfl
    refine fun_call _ mixed (by kernel_rfl) (by kernel_rfl) ?_ (h.trans ?_)
    · refine one_loop (p:=250) rfl (by kernel_rfl) (loopT_ok (by decide) fun vs H wr ex vs' H' w hv ha hh=>?_)
      split at hv
      · rename_i z m i x y b e t s o S
        obtain ⟨hc,hv2⟩:=Tr.br_no hv
        clear hv
        simp only [Bool.and_eq_true,decide_eq_true_eq] at hc
        obtain ⟨⟨rfl,h0⟩,h8,ho⟩:=hc
        cases hv2
        refine ⟨m.toNat + 1,fun k=>?_⟩
        have:=td_loop x y s z t m h8 S k m.toNat 0 ⟨b,e⟩ o wr (by omega) ho
        rw [List.eq_nil_of_length_eq_zero ho] at this ⊢
        exact this
      · cases hv
    · have hl:(cutB b).length ≤ b.length:=by
        unfold cutB
        cases crcOK b with
        | true=>simp only [cond_true,List.length_take]; omega
        | false=>simp
      have g0:0 ≤ (t3 (cutB b)).2:=numR_nonneg _ _
      have g8:(t3 (cutB b)).2 ≤ 8:=numR_le (by decide)
      rw [cond_eq (decide_eq_true h1),cond_eq (decide_eq_true (show (cutB b).length ≤ 140737488355328 by omega)),decide_eq_true g0,decide_eq_true g8,outer_app0 _ _ (all0_rep rfl _)]
      unfold tdV tdT tdS tdH tdE tdOK
      have ha:dA b = cutB b:=rfl
      rw [ha]
      cases crcOK b with
      | false=>rfl
      | true =>
        cases (endR (t4 (cutB b)).1 != 0) with
        | true=>rfl
        | false=>cases termR (t1 (cutB b)).2 (t2 (cutB b)).2 (t4 (cutB b)).2 <;> rfl
  · cases hv
def tdE':Ent PR A:=⟨n_term_Decode,_,td_ok⟩
end Go.Crc
namespace Go.Crc
open Go.Vm Go.Pack Go.Rec
end Go.Crc
namespace Go.Crc
open Go.Vm Go.Pack Go.Rec
end Go.Crc
