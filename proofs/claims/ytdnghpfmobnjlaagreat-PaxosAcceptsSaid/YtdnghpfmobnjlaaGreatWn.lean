/- Contracts of functions of this program. Conditions: none. -/
import Derived.Test.YtdnghpfmobnjlaaGreatWm
import Derived.Test.YtdnghpfmobnjlaaGreatWp
import Derived.Test.YtdnghpfmobnjlaaGreatWh
set_option linter.unusedVariables false
set_option linter.unusedSimpArgs false
/- Messages that are small; scripts of calls. Conditions: none. A text of this seat's numbers. -/
set_option linter.unusedVariables false
set_option linter.unusedSimpArgs false
set_option maxRecDepth 100000
namespace Go.Crc
open Go.Vm Go.Pack Go.Rec Go.RowKit
abbrev ROpT:Ty := (.pair (.int .i64) (.pair (.int .i64) (.pair (.pair (.int .i64) (.pair (.int .i64) (.pair (.int .i64) (.pair (.int .i64) (.pair (.int .i64) (.pair (.int .i64) (.pair .bool (.pair (.pair (.pair (.int .i64) (.int .i64)) (.pair (.slice (.int .i64)) .str)) (.pair (.pair (.int .i64) (.pair (.int .i64) (.pair (.slice (.int .i64)) (.pair (.int .i64) (.pair (.int .i64) (.int .i64)))))) (.pair (.int .i64) (.pair (.int .i64) (.pair (.int .i64) (.pair (.slice (.int .i64)) (.slice (.slice (.int .i64)))))))))))))))) .bool)))
abbrev ROp := Int × Int × MsI × Bool
abbrev opM (x:ROp):Msg := toM x.2.2.1
abbrev opC (x:ROp):List AV := .int .i64 x.1 :: .int .i64 x.2.1 :: app (msgC (opM x)) [.bool x.2.2.2]
def opsOf:AV → Option (List ROp)
  | .slice (.pair (.int .i64) (.pair (.int .i64) (.pair (.pair (.int .i64) (.pair (.int .i64) (.pair (.int .i64) (.pair (.int .i64) (.pair (.int .i64) (.pair (.int .i64) (.pair .bool (.pair (.pair (.pair (.int .i64) (.int .i64)) (.pair (.slice (.int .i64)) .str)) (.pair (.pair (.int .i64) (.pair (.int .i64) (.pair (.slice (.int .i64)) (.pair (.int .i64) (.pair (.int .i64) (.int .i64)))))) (.pair (.int .i64) (.pair (.int .i64) (.pair (.int .i64) (.pair (.slice (.int .i64)) (.slice (.slice (.int .i64)))))))))))))))) .bool))) l .view => some l
  | _ => none
theorem opsOf_some {a:AV} {l:List ROp} (h:opsOf a = some l):a = .slice ROpT l .view := by
  unfold opsOf at h
  split at h
  · cases h; rfl
  · cases h
def shN:List (List Int) → Int → Int
  | [],n => n
  | x :: r,n => shN r (IntKind.i64.wrap (n + IntKind.i64.wrap ((x.length:Int) + 1)))
def fw0 (m:Msg):Int := IntKind.i64.wrap (IntKind.i64.wrap (IntKind.i64.wrap ((m.rd.length:Int) + (m.rt.length:Int)) + (m.e.2.2.1.length:Int)) + (m.cs.length:Int))
def smallM (m:Msg):Bool := decide (shN m.ch (fw0 m) ≤ 300)
def smlF (vs:List AV) (H:Stack):Tr (Ex × List AV × Stack × Wr) := match vs,H with
  | [.int .i64 n,.slice (.slice (.int .i64)) sh .view,.int .i64 q,.int .i64 j],[.cells cs] :: S =>
    .br (decide (q = sh.length) && decide (j = 0)) (.yes (.exit 0,[.int .i64 (shN sh n)],[.cells cs] :: S,[])) .no
  | _,_ => .no
def lfSml:Nat → Option LoopSum := lfOf [(58,loopT [3,27,28,29] [3] smlF)]
noncomputable abbrev LSml (N:Nat) := LC PR (cfE (P := PR) (A := A) []) cfgPx lfSml n_law_small 0 58 [3,27,28,29] [3] N
theorem sml_round (n:Int) (sh:List (List Int)) (q j:Int) (cs:List AV) (S:Stack) (wr:Wr) (N:Nat) (k:Ex → List AV → Stack → Wr → Option Res) :
    LSml (N + 1) [.int .i64 n,.slice RowT sh .view,.int .i64 q,.int .i64 j] ([.cells cs] :: S) wr k =
      (bif decide (j < q) then (at? sh j).bind fun x => LSml N [.int .i64 (IntKind.i64.wrap (n + IntKind.i64.wrap ((x.length:Int) + 1))),.slice RowT sh .view,.int .i64 q,.int .i64 (IntKind.i64.wrap (j + 1))] ([.cells cs] :: S) wr k
      else k (.exit 0) [.int .i64 n] ([.cells cs] :: S) wr) := by kernel_rfl
theorem sh_fold (E:Int → Option Res):∀ (r:List (List Int)) (j:Nat) (n:Int),foldK (fun _ (x:List Int) n k => k (IntKind.i64.wrap (n + IntKind.i64.wrap ((x.length:Int) + 1)))) E j r n = E (shN r n)
  | [],j,n => rfl
  | x :: r,j,n => sh_fold E r (j + 1) _
theorem sml_loops:∀ x ∈ funLoops PR n_law_small,∀ L,lfSml x.1 = some L → LoopOK (ntm PR n_law_small) (fun fr H wr k => code PR (cfE (P := PR) (A := A) []) cfgPx lfSml (cfgPx.live n_law_small) x.2 (2 * x.1) fr H wr k) L := by
  refine one_loop (p := 58) rfl (by kernel_rfl) (loopT_ok (by decide) fun vs H wr ex vs' H' w hv ha hh => ?_)
  unfold smlF at hv
  split at hv
  · rename_i n sh q j cs S
    obtain ⟨hc,hv2⟩ := Tr.br_no hv
    cases hv2
    simp only [Bool.and_eq_true,decide_eq_true_eq] at hc
    obtain ⟨h1,h2⟩ := hc
    subst h2
    simp only [okAVs,okAV] at ha
    have hl:sh.length ≤ maxInt := ha.2.1.1
    refine ⟨sh.length + 1,fun k => ?_⟩
    have := fold_loop (F := fun N j n => LSml N [.int .i64 n,.slice RowT sh .view,.int .i64 q,.int .i64 j] ([.cells cs] :: S) wr k) (xs := sh) (m := q) (step := fun _ (x:List Int) n k => k (IntKind.i64.wrap (n + IntKind.i64.wrap ((x.length:Int) + 1)))) (E := fun n => k (.exit 0) [.int .i64 n] ([.cells cs] :: S) wr) h1 hl (fun N j n => sml_round n sh q j cs S wr N k) sh.length 0 n (by omega)
    rw [List.drop_zero,sh_fold] at this
    exact this
  · cases hv
def smlC:List AV → Tr AV
  | [.agg mc] => match msgOf mc with
    | some m => .yes (.bool (smallM m))
    | none => .no
  | _ => .no
theorem sml_ok:Con PR A n_law_small (pureC smlC) := by
  refine pure_con (cfg := cfgPx) (lf := lfSml) [] mixed (by kernel_rfl) (by kernel_rfl) sml_loops fun args v hv ha S => ?_
  unfold smlC at hv
  split at hv
  · split at hv
    · rename_i m hm
      have := msgOf_some hm
      subst this
      cases hv
      have h:body PR (cfE (P := PR) (A := A) []) cfgPx lfSml n_law_small [msgA m] S some = (bif decide ((m.ch.length:Int) = (m.ch.length:Int)) && decide ((0:Int) = 0) then some (.bool (smallM m),[],S) else none) := by kernel_rfl
      rw [decide_eq_true rfl,decide_eq_true rfl] at h
      exact h
    · cases hv
  · cases hv
def smlE:Ent PR A := ⟨n_law_small,_,sml_ok⟩
end Go.Crc
/- The document's acceptors: what frames say. Conditions: none. A text of this seat's numbers. -/
set_option linter.unusedVariables false
set_option linter.unusedSimpArgs false
set_option maxRecDepth 100000
namespace Go.Crc
open Go.Vm Go.Pack Go.Rec Go.RowKit
def r13Bad (f:List Int):Bool := endR (ra3 f).1 != 0 || decide ((ra2 f).2 > (ra1 f).2)
def r13V (f:List Int):AcV := bif r13Bad f then av0 else bif (ra2 f).2 == 0 then ⟨(ra1 f).2,(ra2 f).2,0,[],[]⟩ else ⟨(ra1 f).2,(ra2 f).2,tdT (ra3 f).2,tdS (ra3 f).2,tdH (ra3 f).2⟩
def r13B (f:List Int) (sl:Int):Bool := bif r13Bad f then false else bif (ra2 f).2 == 0 then (ra3 f).2 == [] else (tdE (ra3 f).2 == 0 && tdT (ra3 f).2 == sl)
theorem tdE_nil:(tdE [] == 0) = false := by kernel_rfl
theorem r13_same (f:List Int) (sl:Int):r13B f sl = fvB f sl ∧ (fvB f sl = true → r13V f = fvV f) := by
  unfold r13B r13V fvB fvV r13Bad fvBad
  cases endR (ra3 f).1 != 0 with
  | true => exact ⟨rfl,(fun h => nomatch h)⟩
  | false =>
  cases decide ((ra2 f).2 > (ra1 f).2) with
  | true =>
    simp only [Bool.or_true,cond_true]
    exact ⟨trivial,(fun h => nomatch h)⟩
  | false =>
  cases h2:(ra2 f).2 == 0 with
  | true =>
    cases h3:(ra3 f).2 == [] with
    | true => exact ⟨rfl,fun _ => rfl⟩
    | false => exact ⟨rfl,(fun h => nomatch h)⟩
  | false =>
    cases h3:(ra3 f).2 == [] with
    | true =>
      have:(ra3 f).2 = [] := beq_iff_eq.1 h3
      rw [this,tdE_nil]
      exact ⟨rfl,(fun h => nomatch h)⟩
    | false => exact ⟨rfl,fun _ => rfl⟩
def rd13F:List AV → Tr AV
  | [.str f,.int .i64 sl] => .br (decide (f.length ≤ 1000000)) (.yes (.tuple [avA (r13V f),.bool (r13B f sl)])) .no
  | _ => .no
theorem rd13_eq (f:List Int) (sl:Int) (S:Stack):body PR (cfE (P := PR) (A := A) [rnE,rtE,rendE,tdrE]) cfgPx lf0 n_ref13_read [.str f,.int .i64 sl] S some =
    (bif endR (ra3 f).1 != 0 then some (.tuple [avA av0,.bool false],[],S) else bif decide ((ra2 f).2 > (ra1 f).2) then some (.tuple [avA av0,.bool false],[],S)
    else bif (ra2 f).2 == 0 then some (.tuple [avA ⟨(ra1 f).2,(ra2 f).2,0,[],[]⟩,.bool ((ra3 f).2 == [])],[],S)
    else bif decide ((ra3 f).2.length ≤ 140737488355328) then bif tdE (ra3 f).2 == 0 then some (.tuple [avA ⟨(ra1 f).2,(ra2 f).2,tdT (ra3 f).2,tdS (ra3 f).2,tdH (ra3 f).2⟩,.bool (tdT (ra3 f).2 == sl)],[],S) else some (.tuple [avA ⟨(ra1 f).2,(ra2 f).2,tdT (ra3 f).2,tdS (ra3 f).2,tdH (ra3 f).2⟩,.bool false],[],S) else none) := by kernel_rfl
theorem rd13_ok:Con PR A n_ref13_read (pureC rd13F) := by
  refine pure_con0 (cfg := cfgPx) [rnE,rtE,rendE,tdrE] mixed (by kernel_rfl) (by kernel_rfl) (by kernel_rfl) fun args v hv ha S => ?_
  unfold rd13F at hv
  split at hv
  · rename_i f sl
    obtain ⟨hc,hv2⟩ := Tr.br_no hv
    cases hv2
    refine (rd13_eq f sl S).trans ?_
    rw [decide_eq_true (show (ra3 f).2.length ≤ 140737488355328 by have := ra3_len f; omega)]
    unfold r13V r13B r13Bad
    cases endR (ra3 f).1 != 0 with
    | true => rfl
    | false =>
    cases decide ((ra2 f).2 > (ra1 f).2) with
    | true => rfl
    | false =>
    cases (ra2 f).2 == 0 with
    | true => rfl
    | false => cases tdE (ra3 f).2 == 0 <;> rfl
  · cases hv
def rd13E:Ent PR A := ⟨n_ref13_read,_,rd13_ok⟩
def smR (fl:List (List Int)):Bool := decide (fl.length ≤ 20000) && fl.all fun f => decide (f.length ≤ 100000)
abbrev avO (v:AcV) (lv:Lv):Ob := .cells [.int .i64 v.pr,.int .i64 v.ac,.int .i64 v.ct,.slice (.int .i64) v.cs lv,.slice RowT v.ch lv]
abbrev seat13 (id sl:Int) (F:List (List Int)) (y:Int) (f:Bool):List AV := [.int .i64 id,.int .i64 sl,.slice .str F .view,.int .i64 y,.bool f]
abbrev dAc (id sl:Int) (F:List (List Int)) (y:Int) (f:Bool):AV := .agg (seat13 id sl F y f)
def fvW13 (sl:Int):List (List Int) → Wr
  | [] => []
  | f :: r => app (fvW13 sl r) (bif fvB f sl then [(0,2),(0,3)] else [(0,3)])
theorem fvW13_all0 (sl:Int):∀ l,all0 (fvW13 sl l) = true
  | [] => rfl
  | f :: r => by
    unfold fvW13
    refine all0_app (fvW13_all0 sl r) ?_
    cases fvB f sl <;> rfl
def fvAny (sl:Int) (F:List (List Int)):Bool := F.any fun f => fvB f sl
theorem fvL_any (sl:Int):∀ (F:List (List Int)) (lv:Lv),fvL sl F lv = bif fvAny sl F then .view else lv
  | [],lv => rfl
  | f :: r,lv => by
    unfold fvL fvAny
    rw [List.any_cons]
    cases fvB f sl with
    | true =>
      rw [Bool.true_or,fvL_any sl r]
      show (bif fvAny sl r then Lv.view else .view) = .view
      cases fvAny sl r <;> rfl
    | false => rw [Bool.false_or]; exact fvL_any sl r lv
def of13F (vs:List AV) (H:Stack):Tr (Ex × List AV × Stack × Wr) := match vs,H with
  | [.ptr 0 0 0,.ptr 0 1 0,.ptr 0 2 0,.int .i64 i],[.cells [.int .i64 id,.int .i64 sl,.slice .str F .view,.int .i64 y,.bool f],.cells [.int .i64 q1,.int .i64 q2,.int .i64 q3,.slice (.int .i64) q4 .own,.slice (.slice (.int .i64)) q5 .own],.cells [.int .i64 pr,.int .i64 ac,.int .i64 ct,.slice (.int .i64) c .own,.slice (.slice (.int .i64)) ch .own]] :: S =>
    .br (decide (i = 0) && smR F) (.br (fvAny sl F) (.yes (.exit 0,[.ptr 0 1 0,.ptr 0 2 0],[.cells (seat13 id sl F y f),avO ⟨q1,q2,q3,q4,q5⟩ .own,avO (fvR sl F ⟨pr,ac,ct,c,ch⟩) .view] :: S,fvW13 sl F))
      (.yes (.exit 0,[.ptr 0 1 0,.ptr 0 2 0],[.cells (seat13 id sl F y f),avO ⟨q1,q2,q3,q4,q5⟩ .own,avO (fvR sl F ⟨pr,ac,ct,c,ch⟩) .own] :: S,fvW13 sl F))) .no
  | _,_ => .no
def lfOf13:Nat → Option LoopSum := lfOf [(58,loopT [1,2,3,4] [2,3] of13F)]
noncomputable abbrev LOf (N:Nat) := LC PR (cfE (P := PR) (A := A) [rd13E]) cfgPx lfOf13 n_ref13_Of 0 58 [1,2,3,4] [2,3] N
theorem of13_round (id sl:Int) (F:List (List Int)) (y:Int) (f:Bool) (q v:AcV) (lv:Lv) (i:Int) (S:Stack) (wr:Wr) (N:Nat) (k:Ex → List AV → Stack → Wr → Option Res) :
    LOf (N + 1) [.ptr 0 0 0,.ptr 0 1 0,.ptr 0 2 0,.int .i64 i] ([.cells (seat13 id sl F y f),avO q .own,avO v lv] :: S) wr k =
      (bif decide (i < (F.length:Int)) then (at? F i).bind fun x => bif decide (x.length ≤ 1000000) then
        bif r13B x sl then LOf N [.ptr 0 0 0,.ptr 0 1 0,.ptr 0 2 0,.int .i64 (IntKind.i64.wrap (i + 1))] ([.cells (seat13 id sl F y f),avO q .own,avO (r13V x) .view] :: S) (app [(0,2),(0,3)] wr) k
        else LOf N [.ptr 0 0 0,.ptr 0 1 0,.ptr 0 2 0,.int .i64 (IntKind.i64.wrap (i + 1))] ([.cells (seat13 id sl F y f),avO q .own,avO v lv] :: S) (app [(0,3)] wr) k else none
      else k (.exit 0) [.ptr 0 1 0,.ptr 0 2 0] ([.cells (seat13 id sl F y f),avO q .own,avO v lv] :: S) wr) := by kernel_rfl
theorem of13_loop (id sl:Int) (F:List (List Int)) (y:Int) (f:Bool) (hF:smR F = true) (q:AcV) (S:Stack) (k:Ex → List AV → Stack → Wr → Option Res):∀ (n j:Nat) (v:AcV) (lv:Lv) (wr:Wr),j + n = F.length →
    LOf (n + 1) [.ptr 0 0 0,.ptr 0 1 0,.ptr 0 2 0,.int .i64 (j:Int)] ([.cells (seat13 id sl F y f),avO q .own,avO v lv] :: S) wr k =
      k (.exit 0) [.ptr 0 1 0,.ptr 0 2 0] ([.cells (seat13 id sl F y f),avO q .own,avO (fvR sl (F.drop j) v) (fvL sl (F.drop j) lv)] :: S) (app (fvW13 sl (F.drop j)) wr) := by
  unfold smR at hF
  simp only [Bool.and_eq_true,decide_eq_true_eq,List.all_eq_true] at hF
  obtain ⟨hl,hf⟩ := hF
  intro n
  induction n with
  | zero =>
    intro j v lv wr hj
    have hd:F.drop j = [] := List.drop_of_length_le (by omega)
    rw [of13_round,cond_ne (decide_eq_false (by omega)),hd]
    rfl
  | succ n ih =>
    intro j v lv wr hj
    have hlt:j < F.length := by omega
    have hw := wrap_next hlt (show F.length ≤ maxInt by simp only [maxInt]; omega)
    have hd:F.drop j = F[j] :: F.drop (j + 1) := List.drop_eq_getElem_cons hlt
    have hx:F[j]? = some F[j] := List.getElem?_eq_getElem hlt
    have hfx := hf F[j] (List.getElem_mem hlt)
    rw [of13_round,cond_eq (decide_eq_true (by omega)),hw,hd,at_some hx,Option.bind_some]
    generalize F[j] = x at hfx hx
    obtain ⟨d1,d2⟩ := r13_same x sl
    rw [decide_eq_true (show x.length ≤ 1000000 by omega),d1]
    simp only [fvR,fvL,fvW13]
    cases hb:fvB x sl with
    | true =>
      have hi := ih (j + 1) (fvV x) .view (app [(0,2),(0,3)] wr) (by omega)
      rw [d2 hb]
      simp only [cond_true]
      rw [show app (app (fvW13 sl (F.drop (j + 1))) [(0,2),(0,3)]) wr = app (fvW13 sl (F.drop (j + 1))) (app [(0,2),(0,3)] wr) by simp only [app_eq,List.append_assoc]]
      exact hi
    | false =>
      have hi := ih (j + 1) v lv (app [(0,3)] wr) (by omega)
      simp only [cond_true,cond_false]
      rw [show app (app (fvW13 sl (F.drop (j + 1))) [(0,3)]) wr = app (fvW13 sl (F.drop (j + 1))) (app [(0,3)] wr) by simp only [app_eq,List.append_assoc]]
      exact hi
theorem of13_loops:∀ x ∈ funLoops PR n_ref13_Of,∀ L,lfOf13 x.1 = some L → LoopOK (ntm PR n_ref13_Of) (fun fr H wr k => code PR (cfE (P := PR) (A := A) [rd13E]) cfgPx lfOf13 (cfgPx.live n_ref13_Of) x.2 (2 * x.1) fr H wr k) L := by
  refine one_loop (p := 58) rfl (by kernel_rfl) (loopT_ok (by decide) fun vs H wr ex vs' H' w hv ha hh => ?_)
  unfold of13F at hv
  split at hv
  · rename_i i id sl F y f q1 q2 q3 q4 q5 pr ac ct c ch S
    obtain ⟨hc,hv2⟩ := Tr.br_no hv
    clear hv
    simp only [Bool.and_eq_true,decide_eq_true_eq] at hc
    obtain ⟨rfl,h2⟩ := hc
    refine ⟨F.length + 1,fun k => ?_⟩
    have := of13_loop id sl F y f h2 ⟨q1,q2,q3,q4,q5⟩ S k F.length 0 ⟨pr,ac,ct,c,ch⟩ .own wr (by omega)
    rw [List.drop_zero,fvL_any] at this
    refine this.trans ?_
    rcases Tr.br_or hv2 with ⟨he,h4⟩ | ⟨he,h4⟩
    · cases h4; rw [he]; rfl
    · cases h4; rw [he]; rfl
  · cases hv
def of13C:List AV → Tr AV
  | [.agg [.int .i64 id,.int .i64 sl,.slice .str F .view,.int .i64 y,.bool f]] => .br (smR F) (.yes (avA (fvR sl F av0))) .no
  | _ => .no
theorem of13_ok:Con PR A n_ref13_Of (pureC of13C) := by
  refine pureC_ok fun args v hv ha S => ?_
  unfold of13C at hv
  split at hv
  · rename_i id sl F y f
    obtain ⟨hc,hv2⟩ := Tr.br_no hv
    cases hv2
    have h:body PR (cfE (P := PR) (A := A) [rd13E]) cfgPx lfOf13 n_ref13_Of [dAc id sl F y f] S some =
      (bif decide ((0:Int) = 0) && smR F then bif fvAny sl F then some (avA (fvR sl F av0),outer ((0,1) :: app (fvW13 sl F) []),S) else some (avA (fvR sl F av0),outer ((0,1) :: app (fvW13 sl F) []),S) else none) := by kernel_rfl
    have e1:outer ((0,1) :: app (fvW13 sl F) []) = [] := by
      show outer (app (fvW13 sl F) []) = []
      rw [outer_app0 _ _ (fvW13_all0 sl F)]; rfl
    refine fun_call _ mixed (by kernel_rfl) (by kernel_rfl) of13_loops (h.trans ?_)
    rw [hc,e1]
    cases fvAny sl F <;> rfl
  · cases hv
def of13E:Ent PR A := ⟨n_ref13_Of,_,of13_ok⟩
def pl13F:List AV → Tr AV
  | [.int .i64 i,.int .i64 s] => .yes (.bool (placedB i s))
  | _ => .no
theorem pl13_ok:Con PR A n_ref13_Placed (pureC pl13F) := by
  refine pure_con0 (cfg := cfgPx) [] mixed (by kernel_rfl) (by kernel_rfl) (by kernel_rfl) fun args v hv ha S => ?_
  unfold pl13F at hv
  split at hv
  · rename_i i s
    cases hv
    have h:body PR (cfE (P := PR) (A := A) []) cfgPx lf0 n_ref13_Placed [.int .i64 i,.int .i64 s] S some = (bif decide (i ≥ 0) then bif decide (i ≤ 15) then bif decide (s ≥ 1) then some (.bool (decide (s ≤ 64)),[],S) else some (.bool false,[],S) else some (.bool false,[],S) else some (.bool false,[],S)) := by kernel_rfl
    refine h.trans ?_
    unfold placedB
    rw [show decide (i < 16) = decide (i ≤ 15) from decide_eq_decide.2 (by omega)]
    cases decide (i ≥ 0) <;> cases decide (i ≤ 15) <;> cases decide (s ≥ 1) <;> rfl
  · cases hv
def pl13E:Ent PR A := ⟨n_ref13_Placed,_,pl13_ok⟩
end Go.Crc
