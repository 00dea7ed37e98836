/- Contracts of functions of this program. Conditions: none. -/
import Derived.Test.YtdnghpfmobnjlaaGreatProg
import Derived.Test.YtdnghpfmobnjlaaGreatVg
import Derived.Test.YtdnghpfmobnjlaaGreatVp
import Derived.Conc.MuLone
import Derived.Tactics
import Derived.Tactics2
import Derived.Defers
import Derived.Laws.Pointers
import Derived.Laws.LoneSync
import Derived.RegionTactic
import Derived.RegionCalls
import Derived.KernelRfl
import Derived.Below
set_option linter.unusedVariables false
set_option linter.unusedSimpArgs false
namespace Go.Vm
noncomputable abbrev PR:Program:=Go.Proofs.Tryz.prog
abbrev n_law_PaxosOne:Nat:=4
abbrev n_law_begun:Nat:=7
abbrev n_law_alive:Nat:=8
abbrev n_paxos_Proposer_Start:Nat:=9
abbrev n_paxos_Acceptor_Take:Nat:=10
abbrev n_paxos_Proposer_Heard:Nat:=11
abbrev n_paxos_Proposer_Chosen:Nat:=12
abbrev n_term_Same:Nat:=13
abbrev n_law_config:Nat:=14
abbrev n_law_world_step:Nat:=15
abbrev n_page_New:Nat:=16
abbrev n_paxos_NewAcceptor:Nat:=17
abbrev n_paxos_Acceptor_Promised:Nat:=19
abbrev n_paxos_Acceptor_Crash:Nat:=22
abbrev n_paxos_NewProposer:Nat:=31
abbrev n_paxos_Proposer_all:Nat:=32
abbrev n_message_Right:Nat:=33
abbrev n_paxos_copied:Nat:=34
abbrev n_paxos_Acceptor_write:Nat:=35
abbrev n_page_Store_Sync:Nat:=36
abbrev n_slices_Contains_int_int:Nat:=37
abbrev n_paxos_Proposer_enough:Nat:=38
abbrev n_slices_Equal_int_int:Nat:=39
abbrev n_slices_EqualFunc_int_int_int_int_rows:Nat:=40
abbrev n_law_world_comes:Nat:=41
abbrev n_page_Scan:Nat:=42
abbrev n_slices_Clone_byte_byte:Nat:=43
abbrev n_paxos_placed:Nat:=44
abbrev n_paxos_Acceptor_reread:Nat:=45
abbrev n_page_Store_Crash:Nat:=46
abbrev n_term_Right:Nat:=54
abbrev n_paxos_unlike:Nat:=55
abbrev n_slices_Clone_int_int:Nat:=56
abbrev n_message_within:Nat:=57
abbrev n_message_fits:Nat:=58
abbrev n_message_Same:Nat:=59
abbrev n_message_bare:Nat:=60
abbrev n_pack_Num:Nat:=61
abbrev n_term_Encode:Nat:=62
abbrev n_pack_Text:Nat:=63
abbrev n_page_Store_Append:Nat:=64
abbrev n_slices_Index_int_int:Nat:=65
abbrev n_page_frames:Nat:=66
abbrev n_page_Store_Frames:Nat:=67
abbrev n_paxos_Acceptor_read:Nat:=68
abbrev n_term_unlike:Nat:=79
abbrev n_term_Right_1:Nat:=80
abbrev n_slices_ContainsFunc_int_int_rows:Nat:=81
abbrev n_record_Right:Nat:=82
abbrev n_entry_Right:Nat:=83
abbrev n_message_configured:Nat:=84
abbrev n_record_Same:Nat:=85
abbrev n_entry_Same:Nat:=86
abbrev n_pack_right:Nat:=87
abbrev n_crc_New:Nat:=88
abbrev n_crc_Table_Put:Nat:=89
abbrev n_page_framed:Nat:=90
abbrev n_page_frames_1:Nat:=91
abbrev n_page_first:Nat:=92
abbrev n_pack_NewReader:Nat:=93
abbrev n_pack_Reader_Num:Nat:=94
abbrev n_pack_Reader_Text:Nat:=95
abbrev n_pack_Reader_End:Nat:=96
abbrev n_term_Decode:Nat:=97
abbrev n_slices_IndexFunc_int_int_rows:Nat:=113
abbrev n_record_may:Nat:=114
abbrev n_entry_within:Nat:=115
abbrev n_vector_Right:Nat:=116
abbrev n_crc_four:Nat:=117
abbrev n_crc_Table_Sum:Nat:=118
abbrev n_pack_Reader_Left:Nat:=119
abbrev n_pack_Reader_Err:Nat:=120
abbrev n_crc_Table_Cut:Nat:=121
abbrev n_pack_Reader_Num_1:Nat:=122
abbrev n_pack_Reader_take:Nat:=123
abbrev n_pack_Reader_fail:Nat:=124
abbrev n_term_nodes:Nat:=125
abbrev n_slices_ContainsFunc_int_int:Nat:=130
abbrev n_vector_Right_1:Nat:=131
abbrev n_vector_may:Nat:=132
abbrev n_sync_atomic_Int64_Add:Nat:=133
abbrev n_crc_Table_add:Nat:=134
abbrev n_slices_Equal_byte_byte:Nat:=135
abbrev n_slices_IndexFunc_int_int:Nat:=138
abbrev n_sync_atomic_AddInt64:Nat:=139
abbrev n_sync_Once_Do:Nat:=140
abbrev n_crc_Table_fill:Nat:=141
end Go.Vm
namespace Go.Proofs.CrcOnce
open Go.Conc.Locks
abbrev muL:MuLink:={ lock:=146,unlock:=147,ilock:=149,iunlock:=150,lockSlow:=157,unlockSlow:=160,disable:=153,enable:=155,acquire:=156,relMerge:=158,cas32:=154,add32:=159,tMutex:=204,tIMutex:=202,tPMutex:=238,tPIMutex:=241,tPI32:=243,tUP:=245,tNoCopy:=196,tU32:=198 }
theorem muLib:MuLib Tryz.prog muL:=by
  constructor <;> first | kernel_rfl | (intro w; kernel_rfl)
theorem store_deferred (a:Addr) (x:Value) (u:FrameMode) (w:World) (hc:w.cell? a = some x) (hz:w.frozen? a = false) :
    CallsD Tryz.prog 148 #[.pointer (some a),.bool true] u w fun e u' w'=>u' = u ∧ (e = .returned (.tuple #[]) ∧ w' = w.drew.setCell a (.int .u32 1)):=by
  have hc':w.drew.cell? a = some x:=by go_simp
  have hz':w.drew.frozen? a = false:=by go_simp
  have hst:=run_call_store (P:=Tryz.prog) Tryz.func151 (by kernel_rfl) (by kernel_rfl) (by kernel_rfl) (by kernel_rfl) (k:=.u32) (y:=1) hc' hz'
  go_enter_d Tryz.func148,Tryz.ntmps148
  go_wp2
  go_region_calls
  all_goals (go_end0; exact ⟨rfl,rfl⟩)
theorem loadb (a:Addr) (x:Int) (w:World) (hc:w.cell? a = some (.int .u32 x)) :
    Calls Tryz.prog 143 #[.pointer (some a)] w fun e w'=>e = .returned (.bool (x != 0)) ∧ w' = w:=by
  have hl:=run_call_load (P:=Tryz.prog) Tryz.func145 (by kernel_rfl) (by kernel_rfl) (by kernel_rfl) .u32 (by kernel_rfl) hc
  go_enter Tryz.func143,Tryz.ntmps143
  go_wp2
  refine bodyPost_ret (results_tmp rfl _ _ _) rfl ?_
  exact ⟨rfl,rfl⟩
set_option maxRecDepth 100000 in
set_option maxHeartbeats 1600000 in
theorem slow_mem (b:Nat) (w:World) (R:World → Prop) (h0:w.cell? ⟨b,0,none⟩ = some (.int .u32 0)) (h1:w.cell? ⟨b,1,none⟩ = some (.int .i32 0)) (f0:w.frozen? ⟨b,0,none⟩ = false) (f1:w.frozen? ⟨b,1,none⟩ = false)
    (hfill:Calls Tryz.prog 141 #[.pointer (some ⟨b,0,none⟩)] (w.setCell ⟨b,1,none⟩ (.int .i32 1)) fun e w2=>e = .returned (.tuple #[]) ∧ R w2)
    (hR:∀ w2,R w2 → w2.cell? ⟨b,0,none⟩ = some (.int .u32 0) ∧ w2.cell? ⟨b,1,none⟩ = some (.int .i32 1) ∧ w2.frozen? ⟨b,0,none⟩ = false ∧ w2.frozen? ⟨b,1,none⟩ = false) :
    Calls Tryz.prog 144 #[.pointer (some ⟨b,0,none⟩),.func (.func 141) #[.pointer (some ⟨b,0,none⟩)] #[]] w fun e w'=>e = .returned (.tuple #[]) ∧ ∃ w2,R w2 ∧
      w' = (w2.drew.setCell ⟨b,0,none⟩ (.int .u32 1)).setCell ⟨b,1,none⟩ (.int .i32 0):=by
  have hnot:∀ (x:Bool) (w:World),(Op.unary .not (.bool x)).run Tryz.prog w = .ok (.bool (!x)) w:=fun _ _=>rfl
  go_enter_defers Tryz.func144,Tryz.ntmps144
  go_wp2_with (go_at_call 146; refine (MuLone.lock_free muLib ⟨b,1,none⟩ _ (by go_simp) (by go_simp)).mono ?_; rintro e w' ⟨rfl,rfl⟩)
  go_wp2_with (go_at_call 143; refine (loadb ⟨b,0,none⟩ 0 _ ((World.cell?_setCell_other _ ⟨b,1,none⟩ ⟨b,0,none⟩ _ (by simp)).trans h0)).mono ?_; rintro e w' ⟨rfl,rfl⟩)
  go_wp2_with (go_at_call 141; refine hfill.mono ?_; rintro e w2 ⟨rfl,hw2⟩)
  obtain ⟨g0,g1,gf0,gf1⟩:=hR _ hw2
  refine leaves_cons (f:=148) (args:=#[.pointer (some ⟨b,0,none⟩),.bool true]) (by simp) (by simp [go_sem]) ?_
  refine (store_deferred ⟨b,0,none⟩ (.int .u32 0) .returning _ g0 gf0).mono ?_
  rintro e u' w'' ⟨rfl,rfl,rfl⟩
  refine leaves_cons (f:=147) (args:=#[.pointer (some ⟨b,1,none⟩)]) (by simp [settle]) (by simp [go_sem]) ?_
  refine (MuLone.unlock_deferred muLib ⟨b,1,none⟩ _ _ ?_ (by simp [gf1])).mono ?_
  · refine (World.cell?_setCell_other _ ⟨b,0,none⟩ ⟨b,1,none⟩ _ (by simp)).trans ?_
    rw [World.cell?_drew]
    exact g1
  rintro e u' w'' ⟨rfl,rfl,rfl⟩
  simp [Leaves,settle,results,Tryz.results144]
  exact ⟨_,hw2,rfl⟩
theorem do_first (b:Nat) (w:World) (R:World → Prop) (h0:w.cell? ⟨b,0,none⟩ = some (.int .u32 0)) (h1:w.cell? ⟨b,1,none⟩ = some (.int .i32 0)) (f0:w.frozen? ⟨b,0,none⟩ = false) (f1:w.frozen? ⟨b,1,none⟩ = false)
    (hfill:Calls Tryz.prog 141 #[.pointer (some ⟨b,0,none⟩)] (w.setCell ⟨b,1,none⟩ (.int .i32 1)) fun e w2=>e = .returned (.tuple #[]) ∧ R w2)
    (hR:∀ w2,R w2 → w2.cell? ⟨b,0,none⟩ = some (.int .u32 0) ∧ w2.cell? ⟨b,1,none⟩ = some (.int .i32 1) ∧ w2.frozen? ⟨b,0,none⟩ = false ∧ w2.frozen? ⟨b,1,none⟩ = false) :
    Calls Tryz.prog 140 #[.pointer (some ⟨b,0,none⟩),.func (.func 141) #[.pointer (some ⟨b,0,none⟩)] #[]] w fun e w'=>e = .returned (.tuple #[]) ∧ ∃ w2,R w2 ∧
      w' = (w2.drew.setCell ⟨b,0,none⟩ (.int .u32 1)).setCell ⟨b,1,none⟩ (.int .i32 0):=by
  have hnot:∀ (x:Bool) (w:World),(Op.unary .not (.bool x)).run Tryz.prog w = .ok (.bool (!x)) w:=fun _ _=>rfl
  go_enter Tryz.func140,Tryz.ntmps140
  go_wp2_with (go_at_call 143; refine (loadb ⟨b,0,none⟩ 0 _ h0).mono ?_; rintro e w' ⟨rfl,rfl⟩)
  go_wp2_with (go_at_call 144; refine (slow_mem b _ R h0 h1 f0 f1 hfill hR).mono ?_; rintro e w' ⟨rfl,hw'⟩)
  go_end0
  exact ⟨rfl,hw'⟩
theorem do_done (b:Nat) (w:World) (v:Value) (h0:w.cell? ⟨b,0,none⟩ = some (.int .u32 1)) :
    Calls Tryz.prog 140 #[.pointer (some ⟨b,0,none⟩),v] w fun e w'=>e = .returned (.tuple #[]) ∧ w' = w:=by
  have hnot:∀ (x:Bool) (w:World),(Op.unary .not (.bool x)).run Tryz.prog w = .ok (.bool (!x)) w:=fun _ _=>rfl
  go_enter Tryz.func140,Tryz.ntmps140
  go_wp2_with (go_at_call 143; refine (loadb ⟨b,0,none⟩ 1 _ h0).mono ?_; rintro e w' ⟨rfl,rfl⟩)
  go_end0
  exact ⟨rfl,rfl⟩
end Go.Proofs.CrcOnce
set_option maxRecDepth 100000
namespace Go.Crc
open Go.Vm
def zeros256:List AV:=repApp 256 [.int .u32 0]
def tab256:List AV:=mapN (fun i=>.int .u32 (tabI i)) (rangeFrom 256 0)
def pre0:List AV:=.int .u32 0 :: .int .i32 0 :: .int .u32 0 :: zeros256
def pre1:List AV:=.int .u32 1 :: .int .i32 0 :: .int .u32 0 :: tab256
def preL (t:List AV):List AV:=.int .u32 0 :: .int .i32 1 :: .int .u32 0 :: t
def K:Kinds:=fun k d cs=>k = 0 ∧ ∃ n,d = [n] ∧ (cs = app pre0 [.int .i64 n] ∨ cs = app pre1 [.int .i64 n])
abbrev A:AbsR:=absOf K
theorem mixed:PR.follows .mixedOrders = true:=by kernel_rfl
def cfgF:Cfg:=cfgOf [] [] [(n_crc_Table_fill,6,[0,4])]
def lfF:Nat → Option LoopSum:=lfOf [(6554,loopT [0,2,3,4,9] [0,2,3,4] fun vs H=>match vs,H with
  | [.ptr l i o,.int .i64 a,.int .u32 n,.int .i64 i',.int .i64 j],[] :: S=>.br (decide (j = 0)) (.yes (.exit 2,[.ptr l i o,.int .i64 a,.int .u32 ((steps 8 n.toNat:Nat):Int),.int .i64 i'],[] :: S,[])) .no
  | _,_=>.no)]
theorem fill_round (l i o:Nat) (a n i' j:Int) (S:Stack) (wr:Wr) (N:Nat) (k:Ex → List AV → Stack → Wr → Option Res) :
    LC PR (cfE (P:=PR) (A:=A) []) cfgF lfF n_crc_Table_fill 1 6554 [0,2,3,4,9] [0,2,3,4] (N + 1) [.ptr l i o,.int .i64 a,.int .u32 n,.int .i64 i',.int .i64 j] ([] :: S) wr k =
      (bif decide (j < 8) then
        (bif bitop .and .u32 n 1 == 1 then
          LC PR (cfE (P:=PR) (A:=A) []) cfgF lfF n_crc_Table_fill 1 6554 [0,2,3,4,9] [0,2,3,4] N [.ptr l i o,.int .i64 a,.int .u32 (bitop .xor .u32 (shiftR .u32 n 1) 3988292384),.int .i64 i',.int .i64 (IntKind.i64.wrap (j + 1))] ([] :: S) wr k
        else LC PR (cfE (P:=PR) (A:=A) []) cfgF lfF n_crc_Table_fill 1 6554 [0,2,3,4,9] [0,2,3,4] N [.ptr l i o,.int .i64 a,.int .u32 (shiftR .u32 n 1),.int .i64 i',.int .i64 (IntKind.i64.wrap (j + 1))] ([] :: S) wr k)
      else k (.exit 2) [.ptr l i o,.int .i64 a,.int .u32 n,.int .i64 i'] ([] :: S) wr):=by kernel_rfl
theorem step_int (m:Nat) (h:m < 2 ^ 32):(bitop .and .u32 (m:Int) 1 == 1) = Nat.beq (m % 2) 1 ∧ shiftR .u32 (m:Int) 1 = ((m / 2:Nat):Int) ∧ bitop .xor .u32 ((m / 2:Nat):Int) 3988292384 = ((m / 2 ^^^ 3988292384:Nat):Int):=by
  refine ⟨?_,?_,?_⟩
  · have:=bitop_and_u32 (a:=m) (b:=1) h (by decide)
    rw [show ((1:Nat):Int) = 1 from rfl] at this
    rw [this,Nat.and_one_is_mod]
    rcases Nat.mod_two_eq_zero_or_one m with h | h <;> rw [h] <;> rfl
  · have:=shiftR_nat .u32 m 1 (by decide)
    exact this
  · exact bitop_xor_u32 (a:=m / 2) (b:=3988292384) (by omega) (by decide)
theorem fill_loop (l i o:Nat) (a i':Int) (S:Stack) (wr:Wr) (k:Ex → List AV → Stack → Wr → Option Res):∀ (q j m:Nat),j + q = 8 → m < 2 ^ 32 →
    LC PR (cfE (P:=PR) (A:=A) []) cfgF lfF n_crc_Table_fill 1 6554 [0,2,3,4,9] [0,2,3,4] (q + 1) [.ptr l i o,.int .i64 a,.int .u32 (m:Int),.int .i64 i',.int .i64 (j:Int)] ([] :: S) wr k = k (.exit 2) [.ptr l i o,.int .i64 a,.int .u32 ((steps q m:Nat):Int),.int .i64 i'] ([] :: S) wr
  | 0,j,m,hj,hm=>by
    rw [fill_round,cond_ne (by simp; omega)]
    rfl
  | q + 1,j,m,hj,hm=>by
    obtain ⟨h1,h2,h3⟩:=step_int m hm
    rw [fill_round,cond_eq (by simp; omega),h1,h2,h3,wrap_i64 (n:=(j:Int) + 1) (by omega) (by omega),show ((j:Int) + 1) = ((j + 1:Nat):Int) by omega]
    have hs:∀ x,step m = x → steps (q + 1) m = steps q x:=fun x hx=>by simp only [steps,hx]
    cases hb:Nat.beq (m % 2) 1 with
    | true =>
      have he:step m = m / 2 ^^^ 3988292384:=by unfold step; rw [hb]; rfl
      rw [hs _ he,cond_true,fill_loop l i o a i' S wr k q (j + 1) _ (by omega) (by rw [← he]; exact step_lt hm)]
    | false =>
      have he:step m = m / 2:=by unfold step; rw [hb]; rfl
      rw [hs _ he,cond_false,fill_loop l i o a i' S wr k q (j + 1) _ (by omega) (by omega)]
theorem fill_eq (n:Int):body PR (cfE (P:=PR) (A:=A) []) cfgF lfF n_crc_Table_fill [.ptr 1 0 0] [[],[.cells (app (preL zeros256) [.int .i64 n])]] some = some (.tuple [],repApp 256 [(1,0)],[[],[.cells (app (preL tab256) [.int .i64 n])]]):=by kernel_rfl
theorem fill_sim {S:Stack} {l i:Nat} {n:Int} (hg:getH S l i = some (.cells (app (preL zeros256) [.int .i64 n]))):SimCall PR A n_crc_Table_fill [.ptr l i 0] S (.tuple [],[(l,i)],setH S l i (.cells (app (preL tab256) [.int .i64 n]))):=by
  have h:SimCall PR A n_crc_Table_fill [.ptr 1 0 0] [[],[.cells (app (preL zeros256) [.int .i64 n])]] (.tuple [],[(1,0)],[[],[.cells (app (preL tab256) [.int .i64 n])]]):=by
    refine SimCall.wr (fun_call [] mixed (by kernel_rfl) (by kernel_rfl) ?_ (fill_eq n)) fun l i h=>memWr_rep l i 1 0 256 h
    refine all_loops (ps:=[6,6554]) (by kernel_rfl) fun j p hj L hL=>?_
    match j,hj with
    | 0,hj =>
      simp at hj; subst hj
      cases hL
    | 1,hj =>
      simp at hj; subst hj
      cases hL
      refine loopT_ok (by decide) fun vs H wr ex vs' H' w hv ha hh=>?_
      split at hv
      · rename_i l i o a n i' j S
        obtain ⟨hj,hv⟩:=cond_none hv
        cases hv
        simp only [decide_eq_true_eq] at hj
        subst hj
        simp only [okAVs,okAV] at ha
        obtain ⟨h0,h1⟩:=u32_lt ha.2.2.1
        refine ⟨9,fun k=>?_⟩
        have:=fill_loop l i o a i' S wr k 8 0 n.toNat rfl h1
        rw [natCast_toNat h0] at this
        exact this
      · cases hv
  have:=frame1 (rest:=[]) rfl rfl (by kernel_rfl) (by kernel_rfl) h hg
  simpa [memWr] using this
def cntOf (p:List AV) (cs:List AV):Option Int:=match stripI p cs with | some [.int .i64 n]=>some n | _=>none
theorem cntOf_some {p cs:List AV} {n:Int} (h:cntOf p cs = some n):cs = app p [.int .i64 n]:=by
  unfold cntOf at h
  split at h
  · rename_i m hm
    cases h
    rw [app_eq]
    exact stripI_some hm
  · cases h
def isDone (cs:List AV):Bool:=match cs with | .int .u32 d :: _=>d == 1 | _=>false
def doC:Contract:=fun args S k=>match args with
  | [.ptr l i o,.func f [.ptr l' i' o'] []]=>bif (Nat.beq o 0 && Nat.beq o' 0) && ((Nat.beq l' l && Nat.beq i' i) && Nat.beq f n_crc_Table_fill) then
      (match getH S l i with
      | some (.cells cs)=>match isDone cs,cntOf pre0 cs with
        | true,_=>k (.tuple [],[],S)
        | false,some n=>k (.tuple [],[(l,i)],setH S l i (.cells (app pre1 [.int .i64 n])))
        | false,none=>none
      | _=>none) else none
  | _=>none
theorem argsDo {e:Env} {l i:Nat} {vs:Array Value} {b:Nat} (hb:rhoAt e.rho l i = some b) (h:ArgsR e [.ptr l i 0,.func n_crc_Table_fill [.ptr l i 0] []] vs.toList):vs = #[.pointer (some ⟨b,0,none⟩),.func (.func n_crc_Table_fill) #[.pointer (some ⟨b,0,none⟩)] #[]]:=by
  obtain ⟨h1,h2⟩:=h
  obtain ⟨l0⟩:=vs
  match l0,h1 with
  | [v0,v1],_ =>
    have g0:=h2 0 _ v0 rfl rfl
    have g1:=h2 1 _ v1 rfl rfl
    simp only [VR] at g0 g1
    obtain ⟨b',q1,q2⟩:=g0
    rw [hb] at q1; cases q1
    obtain ⟨va,vc,q3,q4,q5⟩:=g1
    rw [VRs.cons] at q4
    obtain ⟨x,s,e1,e2,e3⟩:=q4
    rw [VRs.nil] at e3 q5
    subst e3
    simp only [VR] at e2
    obtain ⟨b'',q6,q7⟩:=e2
    rw [hb] at q6; cases q6
    obtain ⟨va⟩:=va
    obtain ⟨vc⟩:=vc
    simp only at e1 q5
    subst e1; subst q5; subst q7
    rw [q2,q3,pval_lt (b:=b) (o:=0) rfl]
theorem do_sim0 {S:Stack} {l i:Nat} {n:Int} (hg:getH S l i = some (.cells (app pre0 [.int .i64 n]))):SimCall PR A n_sync_Once_Do [.ptr l i 0,.func n_crc_Table_fill [.ptr l i 0] []] S (.tuple [],[(l,i)],setH S l i (.cells (app pre1 [.int .i64 n]))):=by
  intro e vs w hw hH hA
  obtain ⟨b,hb,hcell⟩:=HR.cell hw hH hg
  obtain rfl:=argsDo hb hA
  obtain ⟨c0,_,f0⟩:=hcell 0 .u32 0 rfl
  obtain ⟨c1,_,f1⟩:=hcell 1 .i32 0 rfl
  obtain ⟨e1,k1,k2,k3,k4⟩:=store1 (o:=1) (k:=.i32) (n:=1) hw hH hg hb (by show 1 < (app pre0 [AV.int .i64 n]).length; rw [app_eq]; simp [pre0]) ⟨by decide,by decide⟩
  have hg1:getH (setH S l i (.cells (setAt (app pre0 [.int .i64 n]) 1 (.int .i32 1)))) l i = some (.cells (app (preL zeros256) [.int .i64 n])):=getH_setH_same _ _ _ _ _ hg
  have hf:=fill_sim hg1 e1 #[.pointer (some ⟨b,0,none⟩)] _ k1 k2 ⟨rfl,fun j x v hx hv=>by
    cases j with
    | zero =>
      simp at hx hv; subst hx; subst hv
      simp only [VR]
      exact ⟨b,k4 _ _ _ hb,rfl⟩
    | succ j=>simp at hx⟩
  have hc:=Invokes.calls Go.Proofs.Tryz.func141 (by kernel_rfl) rfl hf
  refine Invokes.of_calls Go.Proofs.Tryz.func140 (by kernel_rfl) rfl ?_
  refine (Go.Proofs.CrcOnce.do_first b w (fun w2=>∃ e2,WOK e2 w2 ∧ HR A e2 (setH S l i (.cells (app (preL tab256) [.int .i64 n]))) w2 ∧ Grow e1 (w.setCell ⟨b,1,none⟩ (.int .i32 1)) e2 w2 [(l,i)] ∧ RhoLe e1 e2) c0 c1 f0 f1 (hc.mono fun x w' hx=>?_) ?_).mono ?_
  · cases x with
    | returned v =>
      obtain ⟨e2,q1,q2,q3,q4,q5⟩:=hx
      simp only [VR] at q3
      obtain ⟨arr,rfl,q6⟩:=q3
      rw [VRs.nil] at q6
      obtain ⟨arr⟩:=arr
      simp only at q6
      subst q6
      rw [setH_setH] at q2
      exact ⟨rfl,e2,q1,q2,q4,q5⟩
    | panicked ch=>exact hx.elim
    | outgrown=>exact hx.elim
  · rintro w2 ⟨e2,q1,q2,q3,q4⟩
    obtain ⟨b2,hb2,hcell2⟩:=HR.cell q1 q2 (getH_setH_same _ _ _ _ _ hg)
    have:=q4 _ _ _ (k4 _ _ _ hb)
    rw [hb2] at this; cases this
    obtain ⟨g0,_,g1⟩:=hcell2 0 .u32 0 rfl
    obtain ⟨g2,_,g3⟩:=hcell2 1 .i32 1 rfl
    exact ⟨g0,g2,g1,g3⟩
  · rintro x w' ⟨rfl,w2,⟨e2,q1,q2,q3,q4⟩,rfl⟩
    have hb2:rhoAt e2.rho l i = some b:=q4 _ _ _ (k4 _ _ _ hb)
    obtain ⟨e3,r1,r2,r3,r4⟩:=store1 (w:=w2.drew) (o:=0) (k:=.u32) (n:=1) (drew_ok q1) q2.drewW (getH_setH_same _ _ _ _ _ hg) hb2 (by show 0 < (app (preL tab256) [AV.int .i64 n]).length; rw [app_eq]; simp [preL]) ⟨by decide,by decide⟩
    rw [setH_setH] at r2
    obtain ⟨e4,s1,s2,s3,s4⟩:=store1 (o:=1) (k:=.i32) (n:=0) r1 r2 (getH_setH_same _ _ _ _ _ hg) (r4 _ _ _ hb2) (by show 1 < (setAt (app (preL tab256) [AV.int .i64 n]) 0 (.int .u32 1)).length; rw [app_eq,setAt_eq]; simp [preL]) ⟨by decide,by decide⟩
    rw [setH_setH] at s2
    refine ⟨e4,s1,s2,?_,?_,fun l i b h=>s4 _ _ _ (r4 _ _ _ (q4 _ _ _ (k4 _ _ _ h)))⟩
    · simp only [VR]; exact ⟨#[],rfl,by simp [VRs]⟩
    · refine (((k3.trans q3 k4 fun _ _ h=>h).trans (Grow.drew e2 w2 [(l,i)]) (fun l i b h=>q4 _ _ _ (k4 _ _ _ h)) fun _ _ h=>h).trans r3 (fun l i b h=>q4 _ _ _ (k4 _ _ _ h)) fun _ _ h=>h).trans s3 (fun l i b h=>r4 _ _ _ (q4 _ _ _ (k4 _ _ _ h))) fun _ _ h=>h
theorem do_sim1 {S:Stack} {l i:Nat} {r:List AV} (hg:getH S l i = some (.cells (.int .u32 1 :: r))):SimCall PR A n_sync_Once_Do [.ptr l i 0,.func n_crc_Table_fill [.ptr l i 0] []] S (.tuple [],[],S):=by
  intro e vs w hw hH hA
  obtain ⟨b,hb,hcell⟩:=HR.cell hw hH hg
  obtain rfl:=argsDo hb hA
  obtain ⟨c0,_,f0⟩:=hcell 0 .u32 1 rfl
  refine Invokes.of_calls Go.Proofs.Tryz.func140 (by kernel_rfl) rfl ((Go.Proofs.CrcOnce.do_done b w _ c0).mono ?_)
  rintro x w' ⟨rfl,rfl⟩
  exact ⟨e,hw,hH,by simp only [VR]; exact ⟨#[],rfl,by simp [VRs]⟩,Grow.refl _ _ _,fun _ _ _ h=>h⟩
theorem doC_ok:Con PR A n_sync_Once_Do doC:=by
  intro args S k r hc
  unfold doC at hc ⊢
  split at hc
  · rename_i l i o f l' i' o'
    cases hb:((Nat.beq o 0 && Nat.beq o' 0) && ((Nat.beq l' l && Nat.beq i' i) && Nat.beq f n_crc_Table_fill)) with
    | false=>rw [hb] at hc; cases hc
    | true =>
      rw [hb] at hc
      simp only [cond_true] at hc ⊢
      simp only [Bool.and_eq_true,beq_iff] at hb
      obtain ⟨⟨rfl,rfl⟩,⟨rfl,rfl⟩,rfl⟩:=hb
      cases hg:getH S l' i' with
      | none=>rw [hg] at hc; cases hc
      | some x =>
        cases x with
        | abs _ _=>rw [hg] at hc; cases hc
        | map _=>rw [hg] at hc; cases hc
        | cells cs =>
          rw [hg] at hc
          simp only at hc ⊢
          cases hd:isDone cs with
          | true =>
            simp only [hd] at hc ⊢
            have:∃ r,cs = .int .u32 1 :: r:=by
              unfold isDone at hd
              split at hd
              · rename_i d r
                simp only [beq_iff_eq] at hd
                exact ⟨r,by rw [hd]⟩
              · cases hd
            obtain ⟨r',rfl⟩:=this
            exact ⟨_,fun _=>rfl,hc,do_sim1 hg,fun l i _=>.inl (copyvs_refl_ObE _)⟩
          | false =>
            simp only [hd] at hc ⊢
            cases hn:cntOf pre0 cs with
            | none=>rw [hn] at hc; cases hc
            | some n =>
              rw [hn] at hc
              simp only at hc ⊢
              obtain rfl:=cntOf_some hn
              refine ⟨_,fun _=>rfl,hc,do_sim0 hg,fun l i hm=>.inl ?_⟩
              have hne:l ≠ l' ∨ i ≠ i':=by
                simp only [memWr,Bool.or_false,Bool.and_eq_false_iff,Vm.beq_false] at hm
                exact hm
              simp only
              rw [getH_setH_ne _ _ _ _ _ _ hne]
              exact copyvs_refl_ObE _
  · cases hc
def doE:Ent PR A:=⟨n_sync_Once_Do,doC,doC_ok⟩
end Go.Crc
namespace Go.Crc
open Go.Vm
theorem setLast0 (c:Int) (v:AV):setAt (app pre0 [.int .i64 c]) 259 v = app pre0 [v]:=by kernel_rfl
theorem setLast1 (c:Int) (v:AV):setAt (app pre1 [.int .i64 c]) 259 v = app pre1 [v]:=by kernel_rfl
theorem nthLast0 (c:Int):(app pre0 [AV.int .i64 c])[259]? = some (.int .i64 c):=by kernel_rfl
theorem nthLast1 (c:Int):(app pre1 [AV.int .i64 c])[259]? = some (.int .i64 c):=by kernel_rfl
theorem ints0 (c:Int):intsB (app pre0 [.int .i64 c]) = true:=by kernel_rfl
theorem ints1 (c:Int):intsB (app pre1 [.int .i64 c]) = true:=by kernel_rfl
def addN:Ob → List AV → Tr (AV × Bool × Ob)
  | .abs 0 [c],[.int .i64 x]=>.yes (.int .i64 (IntKind.i64.wrap (c + x)),true,.abs 0 [IntKind.i64.wrap (c + x)])
  | _,_=>.no
theorem add64_ok:Con PR A n_sync_atomic_AddInt64 (objC 259 addN):=by
  refine objC_ok fun x rest v wrote x' hv=>?_
  unfold addN at hv
  split at hv
  · rename_i n y
    cases hv
    refine ⟨rfl,rfl,rfl,rfl,by simp,fun _ _=>abs1 fun cs hk=>?_⟩
    obtain ⟨_,_,hn,rfl | rfl⟩:=hk
    · cases hn
      refine ⟨_,⟨rfl,_,rfl,.inl rfl⟩,ints0 _,?_⟩
      have:=ext_add (P:=PR) (A:=A) Go.Proofs.Tryz.func139 (by kernel_rfl) (by kernel_rfl) (by kernel_rfl) .i64 (by kernel_rfl) (S:=[[],[.cells (app pre0 [.int .i64 n])]]) (l:=1) (i:=0) (o:=259) (x:=y) rfl (nthLast0 n)
      rw [setLast0] at this
      exact this
    · cases hn
      refine ⟨_,⟨rfl,_,rfl,.inr rfl⟩,ints1 _,?_⟩
      have:=ext_add (P:=PR) (A:=A) Go.Proofs.Tryz.func139 (by kernel_rfl) (by kernel_rfl) (by kernel_rfl) .i64 (by kernel_rfl) (S:=[[],[.cells (app pre1 [.int .i64 n])]]) (l:=1) (i:=0) (o:=259) (x:=y) rfl (nthLast1 n)
      rw [setLast1] at this
      exact this
  · cases hv
def add64E:Ent PR A:=⟨n_sync_atomic_AddInt64,_,add64_ok⟩
theorem memWr1 {l i:Nat}:∀ {wr:Wr},(∀ x ∈ wr,x = (1,0)) → memWr l i [(1,0)] = false → memWr l i wr = false
  | [],_,_=>rfl
  | x :: r,h,hm=>by
    have hx:=h x (by simp)
    subst hx
    have:=memWr1 (wr:=r) (fun y hy=>h y (by simp [hy])) hm
    simp only [memWr,Bool.or_false] at hm ⊢
    rw [hm,this]; rfl
def cfgC:Cfg:=cfgOf [] [n_slices_Clone_byte_byte] []
theorem i64Add_ok:Con PR A n_sync_atomic_Int64_Add (objC 259 addN):=by
  refine objC_ok fun x rest v wrote x' hv=>?_
  unfold addN at hv
  split at hv
  · rename_i c y
    cases hv
    refine ⟨rfl,rfl,rfl,rfl,by simp,fun _ _=>?_⟩
    have h:body PR (cfE [add64E]) cfgC (fun _=>none) n_sync_atomic_Int64_Add [.ptr 1 0 259,.int .i64 y] [[],[.abs 0 [c]]] some = some (.int .i64 (IntKind.i64.wrap (c + y)),[(1,0)],[[],[.abs 0 [IntKind.i64.wrap (c + y)]]]):=by kernel_rfl
    exact fun_call _ mixed (by kernel_rfl) (by kernel_rfl) (no_loops (by kernel_rfl)) h
  · cases hv
def i64AddE:Ent PR A:=⟨n_sync_atomic_Int64_Add,_,i64Add_ok⟩
def newF:List AV → Tr Ob
  | []=>.yes (.abs 0 [0])
  | _=>.no
theorem new_ok:Con PR A n_crc_New (newC newF):=by
  refine newC_ok fun args x hv ha l S=>?_
  unfold newF at hv
  split at hv
  · cases hv
    refine abs_new (cs':=app pre0 [.int .i64 0]) ⟨rfl,0,rfl,.inl rfl⟩ (ints0 0) ?_
    have h:body PR (cfE (P:=PR) (A:=A) []) (cfgOf [] [n_crc_New] []) (fun _=>none) n_crc_New [] (l :: S) some = some (.ptr 0 (lenN l) 0,[],app l [.cells (app pre0 [.int .i64 0])] :: S):=by kernel_rfl
    exact fun_call _ mixed (by kernel_rfl) (by kernel_rfl) (no_loops (by kernel_rfl)) h
  · cases hv
def newE:Ent PR A:=⟨n_crc_New,_,new_ok⟩
end Go.Crc
namespace Go.Crc
open Go.Vm
def lfA:Nat → Option LoopSum:=lfOf [(58,loopT [0,1,15,16,17] [1] fun vs H=>match vs,H with
  | [.ptr l i o,.int .u32 n,.slice (.int .u8) b .view,.int .i64 ln,.int .i64 j],[[],[],[.cells cs]]=>.br ((Nat.beq l 2 && Nat.beq i 0) && (Nat.beq o 0 && decide (j = 0))) (match cntOf pre1 cs with
      | some _=>.br (decide (ln = b.length)) (.yes (.exit 0,[.int .u32 ((crcFold n.toNat b:Nat):Int)],H,[])) .no
      | none=>.no) .no
  | _,_=>.no)]
noncomputable abbrev LA (N:Nat):=LC PR (cfE [doE]) cfgC lfA n_crc_Table_add 0 58 [0,1,15,16,17] [1] N
theorem add_round (n ln i:Int) (b:List Int) (cs:List AV) (wr:Wr) (N:Nat) (k:Ex → List AV → Stack → Wr → Option Res) :
    LA (N + 1) [.ptr 2 0 0,.int .u32 n,.slice (.int .u8) b .view,.int .i64 ln,.int .i64 i] [[],[],[.cells cs]] wr k =
      (bif decide (i < ln) then (at? b i).bind fun x =>
        bif true && (decide (0 ≤ bitop .xor .u8 (IntKind.u8.wrap n) x) && decide (bitop .xor .u8 (IntKind.u8.wrap n) x < ((256:Nat):Int))) then
          (intAt .u32 cs (3 + (bitop .xor .u8 (IntKind.u8.wrap n) x).toNat * 1)).bind fun v =>
            LA N [.ptr 2 0 0,.int .u32 (bitop .xor .u32 v (shiftR .u32 n 8)),.slice (.int .u8) b .view,.int .i64 ln,.int .i64 (IntKind.i64.wrap (i + 1))] [[],[],[.cells cs]] wr k
        else none
      else k (.exit 0) [.int .u32 n] [[],[],[.cells cs]] wr):=by kernel_rfl
theorem rangeFrom_get:∀ (n a i:Nat),i < n → (rangeFrom n a)[i]? = some (a + i)
  | 0,_,_,h=>by omega
  | n + 1,a,0,h=>by simp [rangeFrom]
  | n + 1,a,i + 1,h=>by
    simp only [rangeFrom,List.getElem?_cons_succ]
    rw [rangeFrom_get n (a + 1) i (by omega)]
    congr 1; omega
theorem tab_at (c:Int) (i:Nat) (h:i < 256):intAt .u32 (app pre1 [.int .i64 c]) (3 + i * 1) = some (tabI i):=by
  have h1:(app pre1 [AV.int .i64 c])[3 + i]? = some (.int .u32 (tabI i)):=by
    have e1:app pre1 [AV.int .i64 c] = [.int .u32 1,.int .i32 0,.int .u32 0] ++ (tab256 ++ [.int .i64 c]):=by rw [app_eq]; rfl
    have e2:tab256 = (rangeFrom 256 0).map fun i=>AV.int .u32 (tabI i):=by unfold tab256; rw [mapN_eq]
    have e3:tab256[i]? = some (.int .u32 (tabI i)):=by
      rw [e2,List.getElem?_map,rangeFrom_get 256 0 i h,Nat.zero_add]; rfl
    rw [e1,List.getElem?_append_right (by simp),List.getElem?_append_left (by
      have:=(List.getElem?_eq_some_iff.1 e3).1
      simpa using this)]
    simpa using e3
  unfold intAt
  rw [nth_eq,Nat.mul_one,h1]
  rfl
theorem add_step (m x:Nat) (hm:m < 2 ^ 32) (hx:x < 256):bitop .xor .u8 (IntKind.u8.wrap (m:Int)) (x:Int) = ((m % 256 ^^^ x:Nat):Int) ∧ (m % 256 ^^^ x) < 256 ∧ bitop .xor .u32 (tabI (m % 256 ^^^ x)) (shiftR .u32 (m:Int) 8) = ((crcByte m x:Nat):Int):=by
  have h1:m % 256 ^^^ x < 256:=Nat.xor_lt_two_pow (n:=8) (by omega) (by omega)
  refine ⟨?_,h1,?_⟩
  · rw [wrap_u8_nat]; exact bitop_xor_u8 (by omega) (by omega)
  · have h2:shiftR .u32 (m:Int) 8 = ((m / 256:Nat):Int):=shiftR_nat .u32 m 8 (by decide)
    rw [h2,byte_tab]
    exact bitop_xor_u32 (steps_lt 8 (by omega)) (by omega)
theorem add_loop (c:Int) (b:List Int) (hb:isBytes b) (hl:b.length ≤ maxInt) (wr:Wr) (k:Ex → List AV → Stack → Wr → Option Res):∀ (q j m:Nat),j + q = b.length → m < 2 ^ 32 →
    LA (q + 1) [.ptr 2 0 0,.int .u32 (m:Int),.slice (.int .u8) b .view,.int .i64 (b.length:Int),.int .i64 (j:Int)] [[],[],[.cells (app pre1 [.int .i64 c])]] wr k = k (.exit 0) [.int .u32 ((crcFold m (b.drop j):Nat):Int)] [[],[],[.cells (app pre1 [.int .i64 c])]] wr
  | 0,j,m,hj,hm=>by
    rw [add_round,cond_ne (by simp; omega),List.drop_of_length_le (by omega),crcFold_nil]
  | q + 1,j,m,hj,hm=>by
    obtain ⟨x,hx⟩:∃ x,b[j]? = some x:=⟨_,List.getElem?_eq_getElem (by omega)⟩
    have hxr:=hb x (List.mem_of_getElem? hx)
    obtain ⟨h1,h2,h3⟩:=add_step m x.toNat hm (by omega)
    rw [natCast_toNat hxr.1] at h1
    have hd:b.drop j = x :: b.drop (j + 1):=by
      have:=List.drop_eq_getElem_cons (l:=b) (i:=j) (by omega)
      rw [this]
      congr 1
      rw [List.getElem?_eq_getElem (by omega)] at hx
      exact Option.some.inj hx
    rw [add_round,cond_eq (by simp; omega),at_some hx,Option.bind_some,h1,cond_eq (by simp; omega),Int.toNat_natCast,tab_at c _ h2,Option.bind_some,h3,wrap_i64 (by omega) (by simp only [maxInt] at hl; omega),show ((j:Int) + 1) = ((j + 1:Nat):Int) by omega,
      add_loop c b hb hl wr k q (j + 1) _ (by omega) (crcByte_lt hm (by omega)),hd,crcFold_cons]
def addF:Ob → List AV → Tr (AV × Bool × Ob)
  | .abs 0 [c],[.int .u32 n,.slice (.int .u8) b .view]=>.yes (.int .u32 ((crcFold n.toNat b:Nat):Int),true,.abs 0 [c])
  | _,_=>.no
theorem add_loops:∀ x ∈ funLoops PR n_crc_Table_add,∀ L,lfA x.1 = some L → LoopOK (ntm PR n_crc_Table_add) (fun fr H wr k=>code PR (cfE [doE]) cfgC lfA (cfgC.live n_crc_Table_add) x.2 (2 * x.1) fr H wr k) L:=by
  refine one_loop (p:=58) rfl (by kernel_rfl) (loopT_ok (by decide) fun vs H wr ex vs' H' w hv ha hh=>?_)
  split at hv
  · rename_i l i o n b ln j cs
    obtain ⟨hc,hv2⟩:=Tr.br_no hv
    clear hv
    simp only [Bool.and_eq_true,beq_iff,decide_eq_true_eq] at hc
    obtain ⟨⟨rfl,rfl⟩,rfl,rfl⟩:=hc
    cases hn:cntOf pre1 cs with
    | none=>rw [hn] at hv2; cases hv2
    | some c =>
      rw [hn] at hv2
      obtain ⟨hln,hv3⟩:=Tr.br_no hv2
      simp only [decide_eq_true_eq] at hln
      subst hln
      cases hv3
      obtain rfl:=cntOf_some hn
      simp only [okAVs,okAV,okD] at ha
      obtain ⟨h0,h1⟩:=u32_lt ha.2.1
      have hb:isBytes b:=fun x hx=>by
        have:=ha.2.2.1.2 x hx
        simpa [IntKind.min,IntKind.max,IntKind.signed,IntKind.bits] using this
      refine ⟨b.length + 1,fun k=>?_⟩
      have:=add_loop c b hb ha.2.2.1.1 wr k b.length 0 n.toNat (by omega) h1
      rw [natCast_toNat h0] at this
      exact this
  · cases hv
theorem add_ok:Con PR A n_crc_Table_add (objC 0 addF):=by
  refine objC_ok fun x rest v wrote x' hv=>?_
  unfold addF at hv
  split at hv
  · rename_i c n b
    cases hv
    refine ⟨rfl,rfl,rfl,rfl,by simp,fun _ _=>abs1 fun cs hk=>?_⟩
    obtain ⟨_,c',hn,rfl | rfl⟩:=hk
    · cases hn
      refine ⟨app pre1 [.int .i64 c],⟨rfl,_,rfl,.inr rfl⟩,ints1 _,?_⟩
      have h:body PR (cfE [doE]) cfgC lfA n_crc_Table_add [.ptr 1 0 0,.int .u32 n,.slice (.int .u8) b .view] [[],[.cells (app pre0 [.int .i64 c])]] some = (bif decide ((b.length:Int) = (b.length:Int)) then some (.int .u32 ((crcFold n.toNat b:Nat):Int),[(1,0)],[[],[.cells (app pre1 [.int .i64 c])]]) else none):=by kernel_rfl
      rw [cond_eq (by simp)] at h
      exact fun_call _ mixed (by kernel_rfl) (by kernel_rfl) add_loops h
    · cases hn
      refine ⟨app pre1 [.int .i64 c],⟨rfl,_,rfl,.inr rfl⟩,ints1 _,?_⟩
      have h:body PR (cfE [doE]) cfgC lfA n_crc_Table_add [.ptr 1 0 0,.int .u32 n,.slice (.int .u8) b .view] [[],[.cells (app pre1 [.int .i64 c])]] some = (bif decide ((b.length:Int) = (b.length:Int)) then some (.int .u32 ((crcFold n.toNat b:Nat):Int),[],[[],[.cells (app pre1 [.int .i64 c])]]) else none):=by kernel_rfl
      rw [cond_eq (by simp)] at h
      refine SimCall.wr (fun_call _ mixed (by kernel_rfl) (by kernel_rfl) add_loops h) fun _ _ _=>rfl
  · cases hv
def addE:Ent PR A:=⟨n_crc_Table_add,_,add_ok⟩
theorem not_bit {s:Int} (h:IntKind.u32.min ≤ s ∧ s ≤ IntKind.u32.max):bitop .xor .u32 (if IntKind.u32.signed then -1 else IntKind.u32.max) s = ((4294967295 - s.toNat:Nat):Int):=by
  obtain ⟨h0,h1⟩:=u32_lt h
  have:=bitop_xor_u32 (a:=4294967295) (b:=s.toNat) (by decide) h1
  rw [natCast_toNat h0,not_u32 _ h1] at this
  exact this
theorem bytes_ok {b:List Int} (h:b.length ≤ maxInt ∧ ∀ x ∈ b,okD (.int .u8) x):isBytes b:=fun x hx=>by
  have:=h.2 x hx
  simpa [okD,IntKind.min,IntKind.max,IntKind.signed,IntKind.bits] using this
end Go.Crc
