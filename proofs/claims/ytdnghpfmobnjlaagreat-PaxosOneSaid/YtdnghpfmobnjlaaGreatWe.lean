/- Contracts of functions of this program. Conditions: none. -/
import Derived.Test.YtdnghpfmobnjlaaGreatWd
import Derived.Test.YtdnghpfmobnjlaaGreatVp
set_option linter.unusedVariables false
set_option linter.unusedSimpArgs false
set_option maxRecDepth 100000
namespace Go.Crc
open Go.Vm Go.Pack Go.Rec
def cfgI:Cfg:=cfgOf [(n_pack_Num,[0]),(n_pack_Text,[0])] [n_pack_Num,n_pack_Text,n_crc_New,n_crc_Table_Put,n_pack_NewReader] []
def eqF:List AV → Tr AV
  | [.slice (.int .i64) a .view,.slice (.int .i64) b .view]=>.yes (.bool (a == b))
  | _=>.no
theorem ne_len {α:Type} [BEq α] [LawfulBEq α] {a b:List α} (h:a.length ≠ b.length):(a == b) = false:=by
  rw [beq_eq_false_iff_ne]
  exact fun e=>h (by rw [e])
theorem len_neq {a b:List Int}:((a.length:Int) != (b.length:Int)) = !decide (a.length = b.length):=by
  by_cases h:a.length = b.length
  · simp [h]
  · simp [h]; omega
def lfSe:Nat → Option LoopSum:=lfOf [(58,loopT [0,1,12,13] [4] fun vs H=>match vs,H with
  | [.slice (.int .i64) a .view,.slice (.int .i64) b .view,.int .i64 m,.int .i64 i],[] :: S=>.br (decide (m = a.length) && decide (i = 0) && decide (a.length = b.length)) (.br (a == b) (.yes (.exit 0,[.undef],[] :: S,[])) (.yes (.ret,[.bool false],[] :: S,[]))) .no
  | _,_=>.no)]
theorem se_loops:∀ x ∈ funLoops PR n_slices_Equal_int_int,∀ L,lfSe x.1 = some L → LoopOK (ntm PR n_slices_Equal_int_int) (fun fr H wr k=>code PR (cfE (P:=PR) (A:=A) []) cfgI lfSe (cfgI.live n_slices_Equal_int_int) x.2 (2 * x.1) fr H wr k) L:=by
  refine one_loop (p:=58) rfl (by kernel_rfl) (loopT_ok (by decide) fun vs H wr ex vs' H' w hv ha hh=>?_)
  split at hv
  · rename_i a b m i S
    obtain ⟨hc,hv2⟩:=Tr.br_no hv
    clear hv
    simp only [Bool.and_eq_true,decide_eq_true_eq] at hc
    obtain ⟨⟨hm,rfl⟩,hl⟩:=hc
    have hmax:a.length ≤ maxInt:=by simp only [okAVs,okAV] at ha; exact ha.1.1
    refine ⟨a.length + 1,fun k=>?_⟩
    have:=eq_loop (F:=fun N i=>LC PR (cfE (P:=PR) (A:=A) []) cfgI lfSe n_slices_Equal_int_int 0 58 [0,1,12,13] [4] N [.slice (.int .i64) a .view,.slice (.int .i64) b .view,.int .i64 m,.int .i64 i] ([] :: S) wr k)
      (R:=k .ret [.bool false] ([] :: S) wr) (E:=k (.exit 0) [.undef] ([] :: S) wr) hm hl hmax (fun N i=>by kernel_rfl) a.length 0 (by omega)
    rw [List.drop_zero,List.drop_zero] at this
    rcases Tr.br_or hv2 with ⟨he,h4⟩ | ⟨he,h4⟩
    · cases h4; rw [he] at this; exact this
    · cases h4; rw [he] at this; exact this
  · cases hv
theorem se_ok:Con PR A n_slices_Equal_int_int (pureC eqF):=by
  refine pure_con (cfg:=cfgI) (lf:=lfSe) [] mixed (by kernel_rfl) (by kernel_rfl) se_loops fun args v hv ha S=>?_
  unfold eqF at hv
  split at hv
  · rename_i a b
    cases hv
    have h:body PR (cfE (P:=PR) (A:=A) []) cfgI lfSe n_slices_Equal_int_int [.slice (.int .i64) a .view,.slice (.int .i64) b .view] S some =
      (bif (a.length:Int) != (b.length:Int) then some (.bool false,[],S)
      else bif decide ((a.length:Int) = (a.length:Int)) && true && decide (a.length = b.length) then (bif a == b then some (.bool true,[],S) else some (.bool false,[],S)) else none):=by kernel_rfl
    rw [h,len_neq,decide_eq_true rfl]
    by_cases hl:a.length = b.length
    · rw [decide_eq_true hl]
      cases a == b <;> rfl
    · rw [decide_eq_false hl,ne_len hl]; rfl
  · cases hv
def seE:Ent PR A:=⟨n_slices_Equal_int_int,_,se_ok⟩
end Go.Crc
namespace Go.Crc
open Go.Vm Go.Pack Go.Rec
def rec4 (c n:Int) (t d:List Int):AV:=.agg [.int .i64 c,.int .i64 n,.slice (.int .i64) t .view,.str d]
def recOb (c n:Int) (t d:List Int):Ob:=.cells [.int .i64 c,.int .i64 n,.slice (.int .i64) t .view,.str d]
def mayF:List AV → Tr AV
  | [.int .i64 n]=>.yes (.bool (mayB n))
  | _=>.no
theorem may_ok:Con PR A n_record_may (pureC mayF):=by
  refine pureC_ok fun args v hv ha S=>?_
  unfold mayF at hv
  split at hv
  · rename_i n
    cases hv
    have h:body PR (cfE (P:=PR) (A:=A) []) cfgK (fun _=>none) n_record_may [.int .i64 n] S some = (bif decide (n ≥ 0) then some (.bool (decide (n ≤ 1099511627776)),[],S) else some (.bool false,[],S)):=by kernel_rfl
    refine fun_call _ mixed (by kernel_rfl) (by kernel_rfl) (no_loops (by kernel_rfl)) (h.trans ?_)
    unfold mayB
    by_cases h1:0 ≤ n
    · rw [decide_eq_true (show n ≥ 0 from h1)]; rfl
    · rw [decide_eq_false (show ¬ n ≥ 0 from h1)]; rfl
  · cases hv
def mayE:Ent PR A:=⟨n_record_may,_,may_ok⟩
def lfRr:Nat → Option LoopSum:=lfOf [(58,loopT [1,30,31,32] [2] fun vs H=>match vs,H with
  | [.ptr 0 0 0,.slice (.int .i64) t .view,.int .i64 ln,.int .i64 i],[.cells [.int .i64 c,.int .i64 n,.slice (.int .i64) t2 .view,.str d]] :: S=>.br (decide (i = 0)) (.br (decide (ln = t.length)) (.br (t == t2) (.br (tagsB 0 t) (.yes (.exit 0,[.undef],[recOb c n t2 d] :: S,[])) (.yes (.ret,[.bool false],[recOb c n t2 d] :: S,[]))) .no) .no) .no
  | _,_=>.no)]
noncomputable abbrev LRr (N:Nat):=LC PR (cfE [mayE]) cfgK lfRr n_record_Right 0 58 [1,30,31,32] [2] N
theorem rr_round (t t2:List Int) (ln i c n:Int) (d:List Int) (S:Stack) (wr:Wr) (N:Nat) (k:Ex → List AV → Stack → Wr → Option Res) :
    LRr (N + 1) [.ptr 0 0 0,.slice (.int .i64) t .view,.int .i64 ln,.int .i64 i] ([recOb c n t2 d] :: S) wr k =
      (bif decide (i < ln) then (at? t i).bind fun x=>bif decide (x < 1) then k .ret [.bool false] ([recOb c n t2 d] :: S) wr
        else bif decide (x > 1073741824) then k .ret [.bool false] ([recOb c n t2 d] :: S) wr
        else bif decide (i > 0) then (at? t2 (IntKind.i64.wrap (i - 1))).bind fun y=>bif decide (x ≤ y) then k .ret [.bool false] ([recOb c n t2 d] :: S) wr
            else LRr N [.ptr 0 0 0,.slice (.int .i64) t .view,.int .i64 ln,.int .i64 (IntKind.i64.wrap (i + 1))] ([recOb c n t2 d] :: S) wr k
          else LRr N [.ptr 0 0 0,.slice (.int .i64) t .view,.int .i64 ln,.int .i64 (IntKind.i64.wrap (i + 1))] ([recOb c n t2 d] :: S) wr k
      else k (.exit 0) [.undef] ([recOb c n t2 d] :: S) wr):=by kernel_rfl
theorem rr_loop (t:List Int) (hl:t.length ≤ maxInt) (c n:Int) (d:List Int) (S:Stack) (wr:Wr) (k:Ex → List AV → Stack → Wr → Option Res):∀ (q j:Nat) (last:Int),j + q = t.length → (j = 0 → last = 0) → (∀ p,j = p + 1 → t[p]? = some last ∧ 1 ≤ last) →
    LRr (q + 1) [.ptr 0 0 0,.slice (.int .i64) t .view,.int .i64 (t.length:Int),.int .i64 (j:Int)] ([recOb c n t d] :: S) wr k = (bif tagsB last (t.drop j) then k (.exit 0) [.undef] ([recOb c n t d] :: S) wr else k .ret [.bool false] ([recOb c n t d] :: S) wr)
  | 0,j,last,hj,h0,hp=>by
    rw [rr_round,cond_ne (by simp <;> omega),List.drop_of_length_le (by omega)]
    rfl
  | q + 1,j,last,hj,h0,hp=>by
    obtain ⟨x,hx⟩:∃ x,t[j]? = some x:=⟨_,List.getElem?_eq_getElem (by omega)⟩
    have hl0:0 ≤ last:=by
      rcases Nat.eq_zero_or_pos j with h | h
      · rw [h0 h]; exact Int.le_refl _
      · have:=(hp (j - 1) (by omega)).2; omega
    rw [rr_round,cond_eq (by simp <;> omega),at_some hx,Option.bind_some,drop_cons hx]
    simp only [tagsB]
    by_cases h1:x < 1
    · rw [decide_eq_true h1,decide_eq_false (show ¬ last < x by omega)]; rfl
    rw [decide_eq_false h1,cond_false]
    by_cases h2:x > 1073741824
    · rw [decide_eq_true h2,decide_eq_false (show ¬ x ≤ 1073741824 by omega)]; simp
    rw [decide_eq_false h2,cond_false,decide_eq_true (show x ≤ 1073741824 by omega)]
    have hnext:=rr_loop t hl c n d S wr k q (j + 1) x (by omega) (by omega) (fun p hp=>by
      have:p = j:=by omega
      subst this
      exact ⟨hx,by omega⟩)
    rcases Nat.eq_zero_or_pos j with hj0 | hj0
    · have hla:=h0 hj0
      subst hj0
      rw [cond_ne (by simp),wrap_succ (n:=t.length) (by omega) hl,hnext,hla,decide_eq_true (show (0:Int) < x by omega)]
      simp
    · obtain ⟨g1,g2⟩:=hp (j - 1) (by omega)
      have hw:IntKind.i64.wrap ((j:Int) - 1) = ((j - 1:Nat):Int):=by
        rw [wrap_i64 (by omega) (by simp only [maxInt] at hl; omega)]; omega
      rw [cond_eq (by simp <;> omega),hw,at_some g1,Option.bind_some]
      by_cases h3:x ≤ last
      · rw [decide_eq_true h3,decide_eq_false (show ¬ last < x by omega)]; rfl
      · rw [decide_eq_false h3,cond_false,wrap_succ (n:=t.length) (by omega) hl,hnext,decide_eq_true (show last < x by omega)]
        simp
theorem rr_loops:∀ x ∈ funLoops PR n_record_Right,∀ L,lfRr x.1 = some L → LoopOK (ntm PR n_record_Right) (fun fr H wr k=>code PR (cfE [mayE]) cfgK lfRr (cfgK.live n_record_Right) x.2 (2 * x.1) fr H wr k) L:=by
  refine one_loop (p:=58) rfl (by kernel_rfl) (loopT_ok (by decide) fun vs H wr ex vs' H' w hv ha hh=>?_)
  split at hv
  · rename_i t ln i c n t2 d S
    obtain ⟨h1,hv2⟩:=Tr.br_no hv
    clear hv
    obtain ⟨h2,hv3⟩:=Tr.br_no hv2
    obtain ⟨h3,hv4⟩:=Tr.br_no hv3
    simp only [decide_eq_true_eq,beq_iff_eq] at h1 h2 h3
    subst h1; subst h2; subst h3
    simp only [okAVs,okAV] at ha
    refine ⟨t.length + 1,fun k=>?_⟩
    have:=rr_loop t ha.2.1.1 c n d S wr k t.length 0 0 (by omega) (fun _=>rfl) (fun p hp=>by omega)
    rw [List.drop_zero] at this
    rcases Tr.br_or hv4 with ⟨he,h4⟩ | ⟨he,h4⟩
    · cases h4; rw [he] at this; exact this
    · cases h4; rw [he] at this; exact this
  · cases hv
def rrF:List AV → Tr AV
  | [.agg [.int .i64 c,.int .i64 n,.slice (.int .i64) t .view,.str d]]=>.yes (.bool (rightR c n t d))
  | _=>.no
theorem rr_ok:Con PR A n_record_Right (pureC rrF):=by
  refine pureC_ok fun args v hv ha S=>?_
  unfold rrF at hv
  split at hv
  · rename_i c n t d
    cases hv
    have h:body PR (cfE [mayE]) cfgK lfRr n_record_Right [rec4 c n t d] S some =
      (bif !(mayB c) then some (.bool false,[],S) else bif !(mayB n) then some (.bool false,[],S)
      else bif decide ((t.length:Int) > 8) then some (.bool false,[],S) else bif decide ((d.length:Int) > 1024) then some (.bool false,[],S)
      else bif decide ((t.length:Int) = (t.length:Int)) then bif t == t then bif tagsB 0 t then some (.bool true,[],S) else some (.bool false,[],S) else none else none):=by kernel_rfl
    refine fun_call _ mixed (by kernel_rfl) (by kernel_rfl) rr_loops (h.trans ?_)
    unfold rightR
    cases mayB c with
    | false=>rfl
    | true =>
      cases mayB n with
      | false=>rfl
      | true =>
        by_cases h1:(t.length:Int) > 8
        · rw [decide_eq_true h1,decide_eq_false (show ¬ t.length ≤ 8 by omega)]; rfl
        · by_cases h2:(d.length:Int) > 1024
          · rw [decide_eq_false h1,decide_eq_true h2,decide_eq_true (show t.length ≤ 8 by omega),decide_eq_false (show ¬ d.length ≤ 1024 by omega)]; rfl
          · rw [decide_eq_false h1,decide_eq_false h2,decide_eq_true (show t.length ≤ 8 by omega),decide_eq_true (show d.length ≤ 1024 by omega),decide_eq_true rfl,beq_self_eq_true]
            cases tagsB 0 t <;> rfl
  · cases hv
def rrE:Ent PR A:=⟨n_record_Right,_,rr_ok⟩
end Go.Crc
namespace Go.Crc
open Go.Vm Go.Pack Go.Rec
end Go.Crc
namespace Go.Crc
open Go.Vm Go.Pack Go.Rec
def cfgD:Cfg:=cfgOf [(n_pack_Num,[0]),(n_pack_Text,[0])] [n_pack_Num,n_pack_Text,n_crc_New,n_crc_Table_Put,n_pack_NewReader] []
end Go.Crc
