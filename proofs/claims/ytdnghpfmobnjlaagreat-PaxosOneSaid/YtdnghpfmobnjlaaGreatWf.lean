/- Contracts of functions of this program. Conditions: none. -/
import Derived.Test.YtdnghpfmobnjlaaGreatWe
import Derived.Test.YtdnghpfmobnjlaaGreatWd
import Derived.Test.YtdnghpfmobnjlaaGreatVg
import Derived.Test.YtdnghpfmobnjlaaGreatVp
set_option linter.unusedVariables false
set_option linter.unusedSimpArgs false
set_option maxRecDepth 100000
namespace Go.Crc
open Go.Vm Go.Pack Go.Rec
def lfIx:Nat → Option LoopSum:=lfOf [(26,loopT [0,1,7,8] [4] fun vs H=>match vs,H with
  | [.slice (.int .i64) a .view,.int .i64 x,.int .i64 m,.int .i64 i],[] :: S=>.br (decide (m = a.length) && decide (i = 0)) (.br (a.any fun y=>x == y) (.yes (.ret,[.int .i64 (idxI a x)],[] :: S,[])) (.yes (.exit 0,[.undef],[] :: S,[]))) .no
  | _,_=>.no)]
theorem ix_loops:∀ x ∈ funLoops PR n_slices_Index_int_int,∀ L,lfIx x.1 = some L → LoopOK (ntm PR n_slices_Index_int_int) (fun fr H wr k=>code PR (cfE (P:=PR) (A:=A) []) cfgD lfIx (cfgD.live n_slices_Index_int_int) x.2 (2 * x.1) fr H wr k) L:=by
  refine one_loop (p:=26) rfl (by kernel_rfl) (loopT_ok (by decide) fun vs H wr ex vs' H' w hv ha hh=>?_)
  split at hv
  · rename_i a x m i S
    obtain ⟨hc,hv2⟩:=Tr.br_no hv
    clear hv
    simp only [Bool.and_eq_true,decide_eq_true_eq] at hc
    obtain ⟨hm,rfl⟩:=hc
    have hmax:a.length ≤ maxInt:=by simp only [okAVs,okAV] at ha; exact ha.1.1
    refine ⟨a.length + 1,fun k=>?_⟩
    have:=find_loop (F:=fun N i=>LC PR (cfE (P:=PR) (A:=A) []) cfgD lfIx n_slices_Index_int_int 0 26 [0,1,7,8] [4] N [.slice (.int .i64) a .view,.int .i64 x,.int .i64 m,.int .i64 i] ([] :: S) wr k)
      (p:=fun y=>x == y) (R:=fun i=>k .ret [.int .i64 i] ([] :: S) wr) (E:=k (.exit 0) [.undef] ([] :: S) wr) hm hmax (fun N i=>by kernel_rfl) a.length 0 (by omega)
    rw [List.drop_zero] at this
    have hany:=idxP_any (fun y=>x == y) a 0
    rcases Tr.br_or hv2 with ⟨he,h4⟩ | ⟨he,h4⟩
    · cases h4
      unfold idxI
      rw [he] at hany
      cases hi:idxP (fun y=>x == y) 0 a with
      | none=>rw [hi] at hany; cases hany
      | some j=>rw [hi] at this; exact this
    · cases h4
      rw [he] at hany
      cases hi:idxP (fun y=>x == y) 0 a with
      | none=>rw [hi] at this; exact this
      | some j=>rw [hi] at hany; cases hany
  · cases hv
def idxF:List AV → Tr AV
  | [.slice (.int .i64) a .view,.int .i64 x]=>.yes (.int .i64 (idxI a x))
  | _=>.no
theorem idxI_none {a:List Int} {x:Int} (h:(a.any fun y=>x == y) = false):idxI a x = -1:=by
  have hany:=idxP_any (fun y=>x == y) a 0
  rw [h] at hany
  unfold idxI
  cases hi:idxP (fun y=>x == y) 0 a with
  | none=>rfl
  | some j=>rw [hi] at hany; cases hany
theorem idx_ok:Con PR A n_slices_Index_int_int (pureC idxF):=by
  refine pure_con (cfg:=cfgD) (lf:=lfIx) [] mixed (by kernel_rfl) (by kernel_rfl) ix_loops fun args v hv ha S=>?_
  unfold idxF at hv
  split at hv
  · rename_i a x
    cases hv
    have h:body PR (cfE (P:=PR) (A:=A) []) cfgD lfIx n_slices_Index_int_int [.slice (.int .i64) a .view,.int .i64 x] S some =
      (bif decide ((a.length:Int) = (a.length:Int)) && true then (bif a.any (fun y=>x == y) then some (.int .i64 (idxI a x),[],S) else some (.int .i64 (-1),[],S)) else none):=by kernel_rfl
    rw [h,decide_eq_true rfl]
    cases hn:a.any (fun y=>x == y) with
    | true=>rfl
    | false=>rw [idxI_none hn]; rfl
  · cases hv
def idxE:Ent PR A:=⟨n_slices_Index_int_int,_,idx_ok⟩
def conF:List AV → Tr AV
  | [.slice (.int .i64) a .view,.int .i64 x]=>.yes (.bool (a.any fun y=>x == y))
  | _=>.no
theorem con_ok:Con PR A n_slices_Contains_int_int (pureC conF):=by
  refine pure_con0 (cfg:=cfgD) [idxE] mixed (by kernel_rfl) (by kernel_rfl) (by kernel_rfl) fun args v hv ha S=>?_
  unfold conF at hv
  split at hv
  · rename_i a x
    cases hv
    have h:body PR (cfE [idxE]) cfgD lf0 n_slices_Contains_int_int [.slice (.int .i64) a .view,.int .i64 x] S some = some (.bool (decide (idxI a x ≥ 0)),[],S):=by kernel_rfl
    rw [h,idxI_any]
  · cases hv
def conE:Ent PR A:=⟨n_slices_Contains_int_int,_,con_ok⟩
def hasF:List AV → Tr AV
  | [.agg [.int .i64 c,.int .i64 n,.slice (.int .i64) t .view,.str d],.int .i64 x]=>.yes (.bool (hasB t x))
  | _=>.no
def sameF:List AV → Tr AV
  | [.agg [.int .i64 c,.int .i64 n,.slice (.int .i64) t .view,.str d],.agg [.int .i64 c2,.int .i64 n2,.slice (.int .i64) t2 .view,.str d2]]=>.yes (.bool (sameB c n t d c2 n2 t2 d2))
  | _=>.no
theorem same_ok:Con PR A n_record_Same (pureC sameF):=by
  refine pure_con0 (cfg:=cfgD) [seE] mixed (by kernel_rfl) (by kernel_rfl) (by kernel_rfl) fun args v hv ha S=>?_
  unfold sameF at hv
  split at hv
  · rename_i c n t d c2 n2 t2 d2
    cases hv
    have h:body PR (cfE [seE]) cfgD lf0 n_record_Same [rec4 c n t d,rec4 c2 n2 t2 d2] S some = (bif c == c2 && (n == n2 && true) then bif t == t2 then some (.bool (d == d2),[],S) else some (.bool false,[],S) else some (.bool false,[],S)):=by kernel_rfl
    refine h.trans ?_
    unfold sameB
    cases c == c2 <;> cases n == n2 <;> cases t == t2 <;> cases d == d2 <;> rfl
  · cases hv
def sameE:Ent PR A:=⟨n_record_Same,_,same_ok⟩
end Go.Crc
namespace Go.Crc
open Go.Vm Go.Pack
def cfgZ:Cfg:=cfgOf [] [] []
def cliF:List AV → Tr AV
  | [.slice (.int .i64) b .view]=>.br (decide (b.length * 8 ≤ 140737488355328)) (.yes (.slice (.int .i64) b .view)) .no
  | _=>.no
theorem cli_ok:Con PR A n_slices_Clone_int_int (pureC cliF):=by
  refine pureC_ok fun args v hv ha S=>?_
  unfold cliF at hv
  split at hv
  · rename_i b
    obtain ⟨hc,hv2⟩:=Tr.br_no hv
    cases hv2
    simp only [decide_eq_true_eq] at hc
    refine SimCall.nilsplit ?_ ?_
    · have h:body PR (cfE (P:=PR) (A:=A) []) cfgZ lf0 n_slices_Clone_int_int [.slice (.int .i64) b .nn] S some = (bif decide ((0 + b.length) * 8 ≤ 140737488355328) then some (.slice (.int .i64) ([] ++ b) .view,[],S) else none):=by kernel_rfl
      rw [cond_eq (by simp; omega)] at h
      exact fun_call _ mixed (by kernel_rfl) (by kernel_rfl) (no_loops (by kernel_rfl)) h
    · intro hb
      subst hb
      have h:body PR (cfE (P:=PR) (A:=A) []) cfgZ lf0 n_slices_Clone_int_int [.slice (.int .i64) [] .nilv] S some = some (.slice (.int .i64) [] .view,[],S):=by kernel_rfl
      exact fun_call _ mixed (by kernel_rfl) (by kernel_rfl) (no_loops (by kernel_rfl)) h
  · cases hv
def cliE:Ent PR A:=⟨n_slices_Clone_int_int,_,cli_ok⟩
end Go.Crc
namespace Go.Crc
open Go.Vm Go.Pack Go.Rec
def vmayF:List AV → Tr AV
  | [.int .i64 a]=>.yes (.bool (mayB a))
  | _=>.no
theorem vmay_ok:Con PR A n_vector_may (pureC vmayF):=by
  refine pure_con0 (cfg:=cfgI) [] mixed (by kernel_rfl) (by kernel_rfl) (by kernel_rfl) fun args v hv ha S=>?_
  unfold vmayF at hv
  split at hv
  · rename_i a
    cases hv
    have h:body PR (cfE (P:=PR) (A:=A) []) cfgI lf0 n_vector_may [.int .i64 a] S some = (bif decide (a ≥ 0) then some (.bool (decide (a ≤ 1099511627776)),[],S) else some (.bool false,[],S)):=by kernel_rfl
    refine h.trans ?_
    unfold mayB
    by_cases h0:a ≥ 0
    · rw [decide_eq_true h0]; rfl
    · rw [decide_eq_false h0]; rfl
  · cases hv
def vmayE:Ent PR A:=⟨n_vector_may,_,vmay_ok⟩
def vr1F:List AV → Tr AV
  | [.int .i64 a]=>.yes (.bool (!mayB a))
  | _=>.no
theorem vr1_ok:Con PR A n_vector_Right_1 (pureC vr1F):=by
  refine pure_con0 (cfg:=cfgI) [vmayE] mixed (by kernel_rfl) (by kernel_rfl) (by kernel_rfl) fun args v hv ha S=>?_
  unfold vr1F at hv
  split at hv
  · rename_i a
    cases hv
    have h:body PR (cfE [vmayE]) cfgI lf0 n_vector_Right_1 [.int .i64 a] S some = some (.bool (!mayB a),[],S):=by kernel_rfl
    exact h
  · cases hv
def vr1E:Ent PR A:=⟨n_vector_Right_1,_,vr1_ok⟩
def lfIf:Nat → Option LoopSum:=lfOf [(26,loopT [0,1,7,8] [4] fun vs H=>match vs,H with
  | [.slice (.int .i64) a .view,.func f [] [],.int .i64 m,.int .i64 i],[] :: S=>.br (Nat.beq f n_vector_Right_1 && decide (m = a.length) && decide (i = 0)) (.br (a.any fun y=>!mayB y) (.yes (.ret,[.int .i64 (idxM a)],[] :: S,[])) (.yes (.exit 0,[.undef],[] :: S,[]))) .no
  | _,_=>.no)]
theorem idxM_none {a:List Int} (h:(a.any fun y=>!mayB y) = false):idxM a = -1:=by
  have hany:=idxP_any (fun y=>!mayB y) a 0
  rw [h] at hany
  unfold idxM
  cases hi:idxP (fun y=>!mayB y) 0 a with
  | none=>rfl
  | some j=>rw [hi] at hany; cases hany
theorem if_loops:∀ x ∈ funLoops PR n_slices_IndexFunc_int_int,∀ L,lfIf x.1 = some L → LoopOK (ntm PR n_slices_IndexFunc_int_int) (fun fr H wr k=>code PR (cfE [vr1E]) cfgI lfIf (cfgI.live n_slices_IndexFunc_int_int) x.2 (2 * x.1) fr H wr k) L:=by
  refine one_loop (p:=26) rfl (by kernel_rfl) (loopT_ok (by decide) fun vs H wr ex vs' H' w hv ha hh=>?_)
  split at hv
  · rename_i a f m i S
    obtain ⟨hc,hv2⟩:=Tr.br_no hv
    clear hv
    simp only [Bool.and_eq_true,decide_eq_true_eq,beq_iff] at hc
    obtain ⟨⟨rfl,hm⟩,rfl⟩:=hc
    have hmax:a.length ≤ maxInt:=by simp only [okAVs,okAV] at ha; exact ha.1.1
    refine ⟨a.length + 1,fun k=>?_⟩
    have:=find_loop (F:=fun N i=>LC PR (cfE [vr1E]) cfgI lfIf n_slices_IndexFunc_int_int 0 26 [0,1,7,8] [4] N [.slice (.int .i64) a .view,.func n_vector_Right_1 [] [],.int .i64 m,.int .i64 i] ([] :: S) wr k)
      (p:=fun y=>!mayB y) (R:=fun i=>k .ret [.int .i64 i] ([] :: S) wr) (E:=k (.exit 0) [.undef] ([] :: S) wr) hm hmax (fun N i=>by kernel_rfl) a.length 0 (by omega)
    rw [List.drop_zero] at this
    have hany:=idxP_any (fun y=>!mayB y) a 0
    rcases Tr.br_or hv2 with ⟨he,h4⟩ | ⟨he,h4⟩
    · cases h4
      unfold idxM
      rw [he] at hany
      cases hi:idxP (fun y=>!mayB y) 0 a with
      | none=>rw [hi] at hany; cases hany
      | some j=>rw [hi] at this; exact this
    · cases h4
      rw [he] at hany
      cases hi:idxP (fun y=>!mayB y) 0 a with
      | none=>rw [hi] at this; exact this
      | some j=>rw [hi] at hany; cases hany
  · cases hv
def ifF:List AV → Tr AV
  | [.slice (.int .i64) a .view,.func f [] []]=>.br (Nat.beq f n_vector_Right_1) (.yes (.int .i64 (idxM a))) .no
  | _=>.no
theorem if_ok:Con PR A n_slices_IndexFunc_int_int (pureC ifF):=by
  refine pure_con (cfg:=cfgI) (lf:=lfIf) [vr1E] mixed (by kernel_rfl) (by kernel_rfl) if_loops fun args v hv ha S=>?_
  unfold ifF at hv
  split at hv
  · rename_i a f
    obtain ⟨hc,hv2⟩:=Tr.br_no hv
    cases hv2
    rw [beq_iff] at hc
    subst hc
    have h:body PR (cfE [vr1E]) cfgI lfIf n_slices_IndexFunc_int_int [.slice (.int .i64) a .view,.func n_vector_Right_1 [] []] S some =
      (bif true && decide ((a.length:Int) = (a.length:Int)) && true then (bif a.any (fun y=>!mayB y) then some (.int .i64 (idxM a),[],S) else some (.int .i64 (-1),[],S)) else none):=by kernel_rfl
    rw [h,decide_eq_true rfl]
    cases hn:a.any (fun y=>!mayB y) with
    | true=>rfl
    | false=>rw [idxM_none hn]; rfl
  · cases hv
def ifE:Ent PR A:=⟨n_slices_IndexFunc_int_int,_,if_ok⟩
def cfVF:List AV → Tr AV
  | [.slice (.int .i64) a .view,.func f [] []]=>.br (Nat.beq f n_vector_Right_1) (.yes (.bool (a.any fun y=>!mayB y))) .no
  | _=>.no
theorem cf_ok:Con PR A n_slices_ContainsFunc_int_int (pureC cfVF):=by
  refine pure_con0 (cfg:=cfgI) [ifE] mixed (by kernel_rfl) (by kernel_rfl) (by kernel_rfl) fun args v hv ha S=>?_
  unfold cfVF at hv
  split at hv
  · rename_i a f
    obtain ⟨hc,hv2⟩:=Tr.br_no hv
    cases hv2
    rw [beq_iff] at hc
    subst hc
    have h:body PR (cfE [ifE]) cfgI lf0 n_slices_ContainsFunc_int_int [.slice (.int .i64) a .view,.func n_vector_Right_1 [] []] S some = some (.bool (decide (idxM a ≥ 0)),[],S):=by kernel_rfl
    rw [h,idxM_any]
  · cases hv
def cfE':Ent PR A:=⟨n_slices_ContainsFunc_int_int,_,cf_ok⟩
def vrF:List AV → Tr AV
  | [.slice (.int .i64) a .view]=>.yes (.bool (vecR a))
  | _=>.no
theorem vr_ok:Con PR A n_vector_Right (pureC vrF):=by
  refine pure_con0 (cfg:=cfgI) [cfE'] mixed (by kernel_rfl) (by kernel_rfl) (by kernel_rfl) fun args v hv ha S=>?_
  unfold vrF at hv
  split at hv
  · rename_i a
    cases hv
    have h:body PR (cfE [cfE']) cfgI lf0 n_vector_Right [.slice (.int .i64) a .view] S some =
      (bif decide ((a.length:Int) ≥ 1) then bif decide ((a.length:Int) ≤ 8) then some (.bool (!(a.any fun y=>!mayB y)),[],S) else some (.bool false,[],S) else some (.bool false,[],S)):=by kernel_rfl
    rw [h,any_not_all]
    unfold vecR
    by_cases h1:1 ≤ a.length
    · rw [decide_eq_true h1,decide_eq_true (show (a.length:Int) ≥ 1 by omega)]
      by_cases h2:a.length ≤ 8
      · rw [decide_eq_true h2,decide_eq_true (show (a.length:Int) ≤ 8 by omega)]; rfl
      · rw [decide_eq_false h2,decide_eq_false (show ¬ (a.length:Int) ≤ 8 by omega)]; rfl
    · rw [decide_eq_false h1,decide_eq_false (show ¬ (a.length:Int) ≥ 1 by omega)]; rfl
  · cases hv
def vrE:Ent PR A:=⟨n_vector_Right,_,vr_ok⟩
end Go.Crc
namespace Go.Crc
open Go.Vm Go.Pack Go.Rec
end Go.Crc
