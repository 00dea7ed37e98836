/- Contracts of functions of this program. Conditions: none. -/
import Derived.Test.YtdnghpfmobnjlaaGreatWa
set_option linter.unusedVariables false
set_option linter.unusedSimpArgs false
set_option maxRecDepth 100000
namespace Go.Crc
open Go.Vm
theorem drop_cons {α:Type} {l:List α} {j:Nat} {x:α} (h:l[j]? = some x):l.drop j = x :: l.drop (j + 1):=by
  obtain ⟨hj,hx⟩:=List.getElem?_eq_some_iff.1 h
  rw [List.drop_eq_getElem_cons hj,hx]
theorem wrap_succ {j n:Nat} (h:j < n) (hn:n ≤ maxInt):IntKind.i64.wrap ((j:Int) + 1) = ((j + 1:Nat):Int):=by
  rw [wrap_i64 (by omega) (by simp only [maxInt] at hn; omega)]; omega
def lfS':Nat → Option LoopSum:=lfOf [(122,loopT [0,5,12,13,14] [5] fun vs H=>match vs,H with
  | [.ptr l i o,.int .u32 n,.slice (.slice (.int .u8)) ps .view,.int .i64 ln,.int .i64 j],[[],[],[.abs 0 [c]]]=>.br ((Nat.beq l 2 && Nat.beq i 0) && (Nat.beq o 0 && decide (j = 0)))
      (.br (decide (ln = ps.length)) (.yes (.exit 0,[.int .u32 ((crcFold n.toNat ps.flatten:Nat):Int)],H,repApp ps.length [(2,0)])) .no) .no
  | _,_=>.no)]
noncomputable abbrev LS' (N:Nat):=LC PR (cfE [i64AddE,addE]) cfgC lfS' n_crc_Table_Sum 0 122 [0,5,12,13,14] [5] N
theorem sum_round' (n ln i c:Int) (ps:List (List Int)) (wr:Wr) (N:Nat) (k:Ex → List AV → Stack → Wr → Option Res) :
    LS' (N + 1) [.ptr 2 0 0,.int .u32 n,.slice (.slice (.int .u8)) ps .view,.int .i64 ln,.int .i64 i] [[],[],[.abs 0 [c]]] wr k =
      (bif decide (i < ln) then (at? ps i).bind fun x =>
          LS' N [.ptr 2 0 0,.int .u32 ((crcFold n.toNat x:Nat):Int),.slice (.slice (.int .u8)) ps .view,.int .i64 ln,.int .i64 (IntKind.i64.wrap (i + 1))] [[],[],[.abs 0 [c]]] ((2,0) :: wr) k
      else k (.exit 0) [.int .u32 n] [[],[],[.abs 0 [c]]] wr):=by kernel_rfl
theorem rep_cons:∀ (n:Nat) (wr:Wr),app (repApp n [(2,0)]) ((2,0) :: wr) = app (repApp (n + 1) [(2,0)]) wr
  | 0,_=>rfl
  | n + 1,wr=>by
    have h:=rep_cons n wr
    show (2,0) :: app (repApp n [(2,0)]) ((2,0) :: wr) = (2,0) :: app (repApp (n + 1) [(2,0)]) wr
    rw [h]
theorem flatten_bytes {ps:List (List Int)} (h:∀ p ∈ ps,isBytes p):isBytes ps.flatten:=by
  intro x hx
  obtain ⟨p,hp,hxp⟩:=List.mem_flatten.1 hx
  exact h p hp x hxp
theorem sum_loop (c:Int) (ps:List (List Int)) (hb:∀ p ∈ ps,isBytes p) (hl:ps.length ≤ maxInt) (k:Ex → List AV → Stack → Wr → Option Res):∀ (q j m:Nat) (wr:Wr),j + q = ps.length → m < 2 ^ 32 →
    LS' (q + 1) [.ptr 2 0 0,.int .u32 (m:Int),.slice (.slice (.int .u8)) ps .view,.int .i64 (ps.length:Int),.int .i64 (j:Int)] [[],[],[.abs 0 [c]]] wr k = k (.exit 0) [.int .u32 ((crcFold m (ps.drop j).flatten:Nat):Int)] [[],[],[.abs 0 [c]]] (app (repApp q [(2,0)]) wr)
  | 0,j,m,wr,hj,hm=>by
    rw [sum_round',cond_ne (by simp; omega),List.drop_of_length_le (by omega),List.flatten_nil,crcFold_nil]
    rfl
  | q + 1,j,m,wr,hj,hm=>by
    obtain ⟨x,hx⟩:∃ x,ps[j]? = some x:=⟨_,List.getElem?_eq_getElem (by omega)⟩
    have hxb:=hb x (List.mem_of_getElem? hx)
    rw [sum_round',cond_eq (by simp; omega),at_some hx,Option.bind_some,Int.toNat_natCast,wrap_succ (n:=ps.length) (by omega) hl,
      sum_loop c ps hb hl k q (j + 1) _ _ (by omega) (crcFold_lt hm hxb),drop_cons hx,List.flatten_cons,crcFold_app,rep_cons]
def sumF:Ob → List AV → Tr (AV × Bool × Ob)
  | .abs 0 [c],[.slice (.slice (.int .u8)) ps .view]=>.yes (.int .u32 (crcSum ps.flatten),true,.abs 0 [IntKind.i64.wrap (c + 1)])
  | _,_=>.no
theorem memWr_outer {l i:Nat} (hm:memWr l i [(1,0)] = false):∀ n,memWr l i (outer (app (repApp n [(2,0)]) [(2,0)])) = false
  | 0=>hm
  | n + 1=>by
    have ih:=memWr_outer hm n
    simp only [memWr,Bool.or_false] at hm
    simp only [repApp,app,outer,memWr,hm,Bool.false_or]
    exact ih
theorem sum_ok:Con PR A n_crc_Table_Sum (objC 0 sumF):=by
  refine objC_ok fun x rest v wrote x' hv=>?_
  unfold sumF at hv
  split at hv
  · rename_i c ps
    cases hv
    refine ⟨rfl,rfl,rfl,rfl,by simp,fun ha _=>?_⟩
    simp only [okAVs,okAV] at ha
    have hb:∀ p ∈ ps,isBytes p:=fun p hp=>by
      have:=ha.1.2 p hp
      simp only [okD] at this
      exact bytes_ok this
    have h:body PR (cfE [i64AddE,addE]) cfgC lfS' n_crc_Table_Sum [.ptr 1 0 0,.slice (.slice (.int .u8)) ps .view] [[],[.abs 0 [c]]] some = (bif decide ((ps.length:Int) = (ps.length:Int)) then some (.int .u32 (bitop .xor .u32 (if IntKind.u32.signed then -1 else IntKind.u32.max) ((crcFold 4294967295 ps.flatten:Nat):Int)),outer (app (repApp ps.length [(2,0)]) [(2,0)]),[[],[.abs 0 [IntKind.i64.wrap (c + 1)]]]) else none):=by kernel_rfl
    rw [cond_eq (by simp)] at h
    have h1:crcFold 4294967295 ps.flatten < 2 ^ 32:=crcFold_lt (by omega) (flatten_bytes hb)
    have h2:bitop .xor .u32 (if IntKind.u32.signed then -1 else IntKind.u32.max) ((crcFold 4294967295 ps.flatten:Nat):Int) = crcSum ps.flatten:=by
      rw [not_bit (by simp [IntKind.min,IntKind.max,IntKind.signed,IntKind.bits]; omega),Int.toNat_natCast]
      rfl
    rw [h2] at h
    refine SimCall.wr (fun_call _ mixed (by kernel_rfl) (by kernel_rfl) ?_ h) fun l i hm=>memWr_outer hm _
    refine one_loop (p:=122) rfl (by kernel_rfl) (loopT_ok (by decide) fun vs H wr ex vs' H' w hv ha hh=>?_)
    split at hv
    · rename_i l i o n ps ln j c
      obtain ⟨hc,hv2⟩:=Tr.br_no hv
      clear hv
      simp only [Bool.and_eq_true,beq_iff,decide_eq_true_eq] at hc
      obtain ⟨⟨rfl,rfl⟩,rfl,rfl⟩:=hc
      obtain ⟨hln,hv3⟩:=Tr.br_no hv2
      simp only [decide_eq_true_eq] at hln
      subst hln
      cases hv3
      simp only [okAVs,okAV] at ha
      obtain ⟨h0,h1⟩:=u32_lt ha.2.1
      have hb:∀ p ∈ ps,isBytes p:=fun p hp=>by
        have:=ha.2.2.1.2 p hp
        simp only [okD] at this
        exact bytes_ok this
      refine ⟨ps.length + 1,fun k=>?_⟩
      have:=sum_loop c ps hb ha.2.2.1.1 k ps.length 0 n.toNat wr (by omega) h1
      rw [natCast_toNat h0] at this
      exact this
    · cases hv
  · cases hv
def sumE:Ent PR A:=⟨n_crc_Table_Sum,_,sum_ok⟩
def fourF:List AV → Tr AV
  | [.int .u32 n]=>.yes (.slice (.int .u8) (le4 n) .view)
  | _=>.no
theorem four_eq {n:Int} (h:IntKind.u32.min ≤ n ∧ n ≤ IntKind.u32.max):[IntKind.u8.wrap n,IntKind.u8.wrap (shiftR .u32 n 8),IntKind.u8.wrap (shiftR .u32 n 16),IntKind.u8.wrap (shiftR .u32 n 24)] = le4 n:=by
  obtain ⟨h0,h1⟩:=u32_lt h
  generalize hm:n.toNat = m at h1
  have hn:n = (m:Int):=by rw [← hm,natCast_toNat h0]
  subst hn
  have e1:shiftR .u32 (m:Int) 8 = ((m / 2 ^ 8:Nat):Int):=shiftR_nat .u32 m 8 (by decide)
  have e2:shiftR .u32 (m:Int) 16 = ((m / 2 ^ 16:Nat):Int):=shiftR_nat .u32 m 16 (by decide)
  have e3:shiftR .u32 (m:Int) 24 = ((m / 2 ^ 24:Nat):Int):=shiftR_nat .u32 m 24 (by decide)
  rw [e1,e2,e3,wrap_u8_nat,wrap_u8_nat,wrap_u8_nat,wrap_u8_nat]
  unfold le4
  simp only [Nat.reducePow]
  refine congr (congrArg _ (by omega)) (congr (congrArg _ (by omega)) (congr (congrArg _ (by omega)) (congr (congrArg _ (by omega)) rfl)))
theorem four_ok:Con PR A n_crc_four (pureC fourF):=by
  refine pureC_ok fun args v hv ha S=>?_
  unfold fourF at hv
  split at hv
  · rename_i n
    cases hv
    simp only [okAVs,okAV] at ha
    rw [← four_eq ha.1]
    have h:body PR (cfE (P:=PR) (A:=A) []) cfgC (fun _=>none) n_crc_four [.int .u32 n] S some = some (.slice (.int .u8) [IntKind.u8.wrap n,IntKind.u8.wrap (shiftR .u32 n 8),IntKind.u8.wrap (shiftR .u32 n 16),IntKind.u8.wrap (shiftR .u32 n 24)] .view,[],S):=by kernel_rfl
    exact fun_call _ mixed (by kernel_rfl) (by kernel_rfl) (no_loops (by kernel_rfl)) h
  · cases hv
def fourE:Ent PR A:=⟨n_crc_four,_,four_ok⟩
def cloneF:List AV → Tr AV
  | [.slice (.int .u8) b .view]=>.br (decide (b.length ≤ 140737488355328)) (.yes (.slice (.int .u8) b .own)) .no
  | _=>.no
theorem clone_ok:Con PR A n_slices_Clone_byte_byte (pureC cloneF):=by
  refine pureC_ok fun args v hv ha S=>?_
  unfold cloneF at hv
  split at hv
  · rename_i b
    obtain ⟨hc,hv2⟩:=Tr.br_no hv
    cases hv2
    simp only [decide_eq_true_eq] at hc
    refine SimCall.nilsplit ?_ ?_
    · have h:body PR (cfE (P:=PR) (A:=A) []) cfgC (fun _=>none) n_slices_Clone_byte_byte [.slice (.int .u8) b .nn] S some = (bif decide ((0 + b.length) * 1 ≤ 140737488355328) then some (.slice (.int .u8) ([] ++ b) .own,[],S) else none):=by kernel_rfl
      rw [cond_eq (by simp; omega)] at h
      exact fun_call _ mixed (by kernel_rfl) (by kernel_rfl) (no_loops (by kernel_rfl)) h
    · intro hb
      subst hb
      have h:body PR (cfE (P:=PR) (A:=A) []) cfgC (fun _=>none) n_slices_Clone_byte_byte [.slice (.int .u8) [] .nilv] S some = some (.slice (.int .u8) [] .own,[],S):=by kernel_rfl
      exact fun_call _ mixed (by kernel_rfl) (by kernel_rfl) (no_loops (by kernel_rfl)) h
  · cases hv
def cloneE:Ent PR A:=⟨n_slices_Clone_byte_byte,_,clone_ok⟩
def equalF:List AV → Tr AV
  | [.slice (.int .u8) a .view,.slice (.int .u8) b .view]=>.yes (.bool (a == b))
  | _=>.no
def lfQ:Nat → Option LoopSum:=lfOf [(58,loopT [0,1,12,13] [4] fun vs H=>match vs,H with
  | [.slice (.int .u8) a .view,.slice (.int .u8) b .view,.int .i64 l,.int .i64 i],[] :: S=>.br (decide (i = 0)) (.br (decide (l = a.length) && decide (a.length = b.length)) (.br (a == b) (.yes (.exit 0,[.undef],[] :: S,[])) (.yes (.ret,[.bool false],[] :: S,[]))) .no) .no
  | _,_=>.no)]
noncomputable abbrev LQ (N:Nat):=LC PR (cfE (P:=PR) (A:=A) []) cfgC lfQ n_slices_Equal_byte_byte 0 58 [0,1,12,13] [4] N
theorem equal_round (l i:Int) (a b:List Int) (S:Stack) (wr:Wr) (N:Nat) (k:Ex → List AV → Stack → Wr → Option Res) :
    LQ (N + 1) [.slice (.int .u8) a .view,.slice (.int .u8) b .view,.int .i64 l,.int .i64 i] ([] :: S) wr k =
      (bif decide (i < l) then (at? a i).bind fun x=>(at? b i).bind fun y =>
        bif x != y then k .ret [.bool false] ([] :: S) wr
        else LQ N [.slice (.int .u8) a .view,.slice (.int .u8) b .view,.int .i64 l,.int .i64 (IntKind.i64.wrap (i + 1))] ([] :: S) wr k
      else k (.exit 0) [.undef] ([] :: S) wr):=by kernel_rfl
theorem equal_loop (a b:List Int) (hab:a.length = b.length) (hl:a.length ≤ maxInt) (S:Stack) (wr:Wr) (k:Ex → List AV → Stack → Wr → Option Res):∀ (q j:Nat),j + q = a.length →
    LQ (q + 1) [.slice (.int .u8) a .view,.slice (.int .u8) b .view,.int .i64 (a.length:Int),.int .i64 (j:Int)] ([] :: S) wr k = (bif a.drop j == b.drop j then k (.exit 0) [.undef] ([] :: S) wr else k .ret [.bool false] ([] :: S) wr)
  | 0,j,hj=>by
    rw [equal_round,cond_ne (by simp; omega),List.drop_of_length_le (by omega),List.drop_of_length_le (by omega)]
    rfl
  | q + 1,j,hj=>by
    obtain ⟨x,hx⟩:∃ x,a[j]? = some x:=⟨_,List.getElem?_eq_getElem (by omega)⟩
    obtain ⟨y,hy⟩:∃ y,b[j]? = some y:=⟨_,List.getElem?_eq_getElem (by omega)⟩
    rw [equal_round,cond_eq (by simp; omega),at_some hx,at_some hy,Option.bind_some,Option.bind_some,drop_cons hx,drop_cons hy]
    by_cases hxy:x = y
    · subst hxy
      rw [cond_ne (by simp),wrap_succ (n:=a.length) (by omega) hl,equal_loop a b hab hl S wr k q (j + 1) (by omega)]
      simp
    · rw [cond_eq (by simpa using hxy)]
      have:((x :: a.drop (j + 1)) == (y :: b.drop (j + 1))) = false:=by simp [hxy]
      rw [this]; rfl
theorem equal_ok:Con PR A n_slices_Equal_byte_byte (pureC equalF):=by
  refine pureC_ok fun args v hv ha S=>?_
  unfold equalF at hv
  split at hv
  · rename_i a b
    cases hv
    simp only [okAVs,okAV] at ha
    have h:body PR (cfE (P:=PR) (A:=A) []) cfgC lfQ n_slices_Equal_byte_byte [.slice (.int .u8) a .view,.slice (.int .u8) b .view] S some = (bif (a.length:Int) != (b.length:Int) then some (.bool false,[],S) else bif decide ((a.length:Int) = (a.length:Int)) && decide (a.length = b.length) then (bif a == b then some (.bool true,[],S) else some (.bool false,[],S)) else none):=by kernel_rfl
    have h2:body PR (cfE (P:=PR) (A:=A) []) cfgC lfQ n_slices_Equal_byte_byte [.slice (.int .u8) a .view,.slice (.int .u8) b .view] S some = some (.bool (a == b),[],S):=by
      rw [h]
      by_cases hl:a.length = b.length
      · rw [cond_ne (by simp [hl]),cond_eq (by simp [hl])]
        cases a == b <;> rfl
      · rw [cond_eq (by simp; omega)]
        have:(a == b) = false:=by
          rw [beq_eq_false_iff_ne]
          intro he; exact hl (by rw [he])
        rw [this]
    refine fun_call _ mixed (by kernel_rfl) (by kernel_rfl) ?_ h2
    refine one_loop (p:=58) rfl (by kernel_rfl) (loopT_ok (by decide) fun vs H wr ex vs' H' w hv ha hh=>?_)
    split at hv
    · rename_i a b l i S
      obtain ⟨hi,hv2⟩:=Tr.br_no hv
      clear hv
      obtain ⟨hc,hv3⟩:=Tr.br_no hv2
      simp only [Bool.and_eq_true,decide_eq_true_eq] at hi hc
      obtain ⟨rfl,hab⟩:=hc
      subst hi
      simp only [okAVs,okAV] at ha
      refine ⟨a.length + 1,fun k=>?_⟩
      have:=equal_loop a b hab ha.1.1 S wr k a.length 0 (by omega)
      rw [List.drop_zero,List.drop_zero] at this
      rcases Tr.br_or hv3 with ⟨he,h4⟩ | ⟨he,h4⟩
      · cases h4; rw [he] at this; exact this
      · cases h4; rw [he] at this; exact this
    · cases hv
  · cases hv
def equalE:Ent PR A:=⟨n_slices_Equal_byte_byte,_,equal_ok⟩
end Go.Crc
namespace Go.Crc
open Go.Vm
def cfgP:Cfg:=cfgOf [] [n_slices_Clone_byte_byte,n_crc_Table_Put] []
theorem le4_length (n:Int):(le4 n).length = 4:=rfl
theorem flat1 (b:List Int):[b].flatten = b:=by simp
def putF:Ob → List AV → Tr (AV × Bool × Ob)
  | .abs 0 [c],[.slice (.int .u8) b .view]=>.br (decide (b.length + 4 ≤ 140737488355328)) (.yes (.slice (.int .u8) (crcPut b) .own,true,.abs 0 [IntKind.i64.wrap (c + 1)])) .no
  | _,_=>.no
theorem put_ok:Con PR A n_crc_Table_Put (objC 0 putF):=by
  refine objC_ok fun x rest v wrote x' hv=>?_
  unfold putF at hv
  split at hv
  · rename_i c b
    obtain ⟨hc,hv2⟩:=Tr.br_no hv
    cases hv2
    simp only [decide_eq_true_eq] at hc
    refine ⟨rfl,rfl,rfl,rfl,by simp,fun ha _=>?_⟩
    have h:body PR (cfE [cloneE,sumE,fourE]) cfgP (fun _=>none) n_crc_Table_Put [.ptr 1 0 0,.slice (.int .u8) b .view] [[],[.abs 0 [c]]] some = (bif decide (b.length ≤ 140737488355328) then (bif decide ((b.length + (le4 (crcSum [b].flatten)).length) * 1 ≤ 140737488355328) then some (.slice (.int .u8) (b ++ le4 (crcSum [b].flatten)) .own,[(1,0)],[[],[.abs 0 [IntKind.i64.wrap (c + 1)]]]) else none) else none):=by kernel_rfl
    rw [cond_eq (by simp <;> omega),cond_eq (by rw [le4_length]; simp; omega),flat1] at h
    exact fun_call _ mixed (by kernel_rfl) (by kernel_rfl) (no_loops (by kernel_rfl)) h
  · cases hv
def putE:Ent PR A:=⟨n_crc_Table_Put,_,put_ok⟩
def cutNo:AV:=.tuple [.slice (.int .u8) [] .view,.bool false]
def cutYes (b:List Int):AV:=.tuple [.slice (.int .u8) (b.take (b.length - 4)) .view,.bool true]
def crcGood (b:List Int):Bool:=b.drop (b.length - 4) == le4 (crcSum (b.take (b.length - 4)))
def cutB (b:List Int):List Int:=bif crcOK b then b.take (b.length - 4) else []
def cutC (b:List Int) (c:Int):Int:=bif decide (b.length < 4) then c else IntKind.i64.wrap (c + 1)
def cutV (b:List Int):AV:=.tuple [.slice (.int .u8) (cutB b) .view,.bool (crcOK b)]
theorem cutV_short {b:List Int} (h:b.length < 4):cutV b = cutNo:=by
  have:crcOK b = false:=by unfold crcOK; rw [decide_eq_false (by omega)]; rfl
  unfold cutV cutB; rw [this]; rfl
theorem cutV_good {b:List Int} (h:¬ b.length < 4) (hg:crcGood b = true):cutV b = cutYes b:=by
  have:crcOK b = true:=by unfold crcOK; rw [decide_eq_true (by omega)]; exact hg
  unfold cutV cutB; rw [this]; rfl
theorem cutV_bad {b:List Int} (h:¬ b.length < 4) (hg:crcGood b = false):cutV b = cutNo:=by
  have:crcOK b = false:=by unfold crcOK; rw [decide_eq_true (by omega)]; exact hg
  unfold cutV cutB; rw [this]; rfl
def cutF:Ob → List AV → Tr (AV × Bool × Ob)
  | .abs 0 [c],[.slice (.int .u8) b .view]=>.br (decide (b.length ≤ 140737488355328)) (.yes (cutV b,true,.abs 0 [cutC b c])) .no
  | _,_=>.no
theorem wrap_sub4 {b:List Int} (h4:¬ b.length < 4) (hl:b.length ≤ maxInt):IntKind.i64.wrap ((b.length:Int) - 4) = ((b.length - 4:Nat):Int):=by
  rw [wrap_i64 (by omega) (by simp only [maxInt] at hl; omega)]; omega
theorem cut_ok:Con PR A n_crc_Table_Cut (objC 0 cutF):=by
  refine objC_ok fun x rest v wrote x' hv=>?_
  unfold cutF at hv
  split at hv
  · rename_i c b
    have h:body PR (cfE [cloneE,sumE,fourE,equalE]) cfgC (fun _=>none) n_crc_Table_Cut [.ptr 1 0 0,.slice (.int .u8) b .view] [[],[.abs 0 [c]]] some =
      (bif decide ((b.length:Int) < 4) then some (cutNo,[],[[],[.abs 0 [c]]])
      else bif decide (0 ≤ IntKind.i64.wrap ((b.length:Int) - 4)) && decide (IntKind.i64.wrap ((b.length:Int) - 4) ≤ (b.length:Int)) then
        bif decide (0 ≤ IntKind.i64.wrap ((b.length:Int) - 4)) && decide (IntKind.i64.wrap ((b.length:Int) - 4) ≤ (b.length:Int)) then
          bif !(le4 (crcSum [(b.take (IntKind.i64.wrap ((b.length:Int) - 4)).toNat).drop 0].flatten) == (b.take b.length).drop (IntKind.i64.wrap ((b.length:Int) - 4)).toNat) then some (cutNo,[(1,0)],[[],[.abs 0 [IntKind.i64.wrap (c + 1)]]])
          else bif decide (0 ≤ IntKind.i64.wrap ((b.length:Int) - 4)) && decide (IntKind.i64.wrap ((b.length:Int) - 4) ≤ (b.length:Int)) then
            bif decide (((b.take (IntKind.i64.wrap ((b.length:Int) - 4)).toNat).drop 0).length ≤ 140737488355328) then
              some (.tuple [.slice (.int .u8) ((b.take (IntKind.i64.wrap ((b.length:Int) - 4)).toNat).drop 0) .view,.bool true],[(1,0)],[[],[.abs 0 [IntKind.i64.wrap (c + 1)]]])
            else none
          else none
        else none
      else none):=by kernel_rfl
    have hS:∀ {res:Res},body PR (cfE [cloneE,sumE,fourE,equalE]) cfgC (fun _=>none) n_crc_Table_Cut [.ptr 1 0 0,.slice (.int .u8) b .view] [[],[.abs 0 [c]]] some = some res → SimCall PR A n_crc_Table_Cut [.ptr 1 0 0,.slice (.int .u8) b .view] [[],[.abs 0 [c]]] res:=fun h=>fun_call _ mixed (by kernel_rfl) (by kernel_rfl) (no_loops (by kernel_rfl)) h
    obtain ⟨hl,h5⟩:=Tr.br_no hv
    cases h5
    simp only [decide_eq_true_eq] at hl
    refine ⟨rfl,rfl,rfl,rfl,by simp,fun ha _=>?_⟩
    by_cases h4:b.length < 4
    · rw [cond_eq (by simp <;> omega)] at h
      rw [cutV_short h4,show cutC b c = c by unfold cutC; rw [decide_eq_true h4]; rfl]
      exact SimCall.wr (hS h) fun _ _ _=>rfl
    · rw [show cutC b c = IntKind.i64.wrap (c + 1) by unfold cutC; rw [decide_eq_false h4]; rfl]
      have key:body PR (cfE [cloneE,sumE,fourE,equalE]) cfgC (fun _=>none) n_crc_Table_Cut [.ptr 1 0 0,.slice (.int .u8) b .view] [[],[.abs 0 [c]]] some = (bif crcGood b then (bif decide (b.length - 4 ≤ 140737488355328) then some (cutYes b,[(1,0)],[[],[.abs 0 [IntKind.i64.wrap (c + 1)]]]) else none) else some (cutNo,[(1,0)],[[],[.abs 0 [IntKind.i64.wrap (c + 1)]]])):=by
        simp only [okAVs,okAV] at ha
        rw [h,cond_ne (by simp <;> omega),wrap_sub4 h4 ha.1.1,cond_eq (by simp <;> omega),cond_eq (by simp <;> omega),Int.toNat_natCast,List.drop_zero,flat1,List.take_of_length_le (Nat.le_refl b.length)]
        unfold crcGood
        by_cases he:b.drop (b.length - 4) = le4 (crcSum (b.take (b.length - 4)))
        · rw [cond_ne (by rw [he]; simp),cond_eq (by simp <;> omega),List.length_take,Nat.min_eq_left (by omega),he]
          simp only [beq_self_eq_true,cond_true]
          rfl
        · rw [cond_eq (by simp; exact fun h=>he h.symm)]
          have:(b.drop (b.length - 4) == le4 (crcSum (b.take (b.length - 4)))) = false:=by simpa using he
          rw [this]
          rfl
      cases hg:crcGood b with
      | true =>
        rw [hg,cond_true,cond_eq (by simp <;> omega)] at key
        rw [cutV_good h4 hg]
        exact hS key
      | false =>
        rw [hg] at key
        rw [cutV_bad h4 hg]
        exact hS key
  · cases hv
def cutE:Ent PR A:=⟨n_crc_Table_Cut,_,cut_ok⟩
end Go.Crc
