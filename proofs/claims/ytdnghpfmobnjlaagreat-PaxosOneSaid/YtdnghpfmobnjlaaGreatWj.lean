/- Contracts of functions of this program. Conditions: none. -/
import Derived.Test.YtdnghpfmobnjlaaGreatWd
import Derived.Test.YtdnghpfmobnjlaaGreatVp
import Derived.Test.YtdnghpfmobnjlaaGreatVg
set_option linter.unusedVariables false
set_option linter.unusedSimpArgs false
set_option maxRecDepth 100000
namespace Go.Crc
open Go.Vm Go.Pack Go.Rec
def cfgG:Cfg:=cfgOf [(n_pack_Num,[0]),(n_pack_Text,[0])] [n_pack_Num,n_pack_Text,n_crc_New,n_crc_Table_Put,n_pack_NewReader] []
def leftF:Ob → List AV → Tr (AV × Bool × Ob)
  | .cells [.slice (.int .u8) b .view,.int .i64 e],[]=>.yes (.int .i64 b.length,false,.cells [.slice (.int .u8) b .view,.int .i64 e])
  | _,_=>.no
theorem left_ok:Con PR A n_pack_Reader_Left (objC 0 leftF):=by
  refine objC_ok fun x rest v wrote x' hv=>?_
  unfold leftF at hv
  split at hv
  · rename_i b e
    cases hv
    refine ⟨rfl,rfl,rfl,rfl,by simp,fun ha _=>?_⟩
    have h:body PR (cfE (P:=PR) (A:=A) []) cfgG (fun _=>none) n_pack_Reader_Left [.ptr 1 0 0] [[],[.cells [.slice (.int .u8) b .view,.int .i64 e]]] some = some (.int .i64 b.length,[],[[],[.cells [.slice (.int .u8) b .view,.int .i64 e]]]):=by kernel_rfl
    exact fun_call _ mixed (by kernel_rfl) (by kernel_rfl) (no_loops (by kernel_rfl)) h
  · cases hv
def leftE:Ent PR A:=⟨n_pack_Reader_Left,_,left_ok⟩
def errF:Ob → List AV → Tr (AV × Bool × Ob)
  | .cells [.slice (.int .u8) b .view,.int .i64 e],[]=>.yes (.int .i64 e,false,.cells [.slice (.int .u8) b .view,.int .i64 e])
  | _,_=>.no
theorem err_ok':Con PR A n_pack_Reader_Err (objC 0 errF):=by
  refine objC_ok fun x rest v wrote x' hv=>?_
  unfold errF at hv
  split at hv
  · rename_i b e
    cases hv
    refine ⟨rfl,rfl,rfl,rfl,by simp,fun ha _=>?_⟩
    have h:body PR (cfE (P:=PR) (A:=A) []) cfgG (fun _=>none) n_pack_Reader_Err [.ptr 1 0 0] [[],[.cells [.slice (.int .u8) b .view,.int .i64 e]]] some = some (.int .i64 e,[],[[],[.cells [.slice (.int .u8) b .view,.int .i64 e]]]):=by kernel_rfl
    exact fun_call _ mixed (by kernel_rfl) (by kernel_rfl) (no_loops (by kernel_rfl)) h
  · cases hv
def errE':Ent PR A:=⟨n_pack_Reader_Err,_,err_ok'⟩
def framedF:List AV → Tr AV
  | [.slice (.int .u8) b .view]=>.br (decide (b.length ≤ 65536)) (.yes (.slice (.int .u8) (frB b) .view)) .no
  | _=>.no
theorem framed_ok:Con PR A n_page_framed (pureC framedF):=by
  refine pure_con0 (cfg:=cfgG) [ptextE,newE,putE] mixed (by kernel_rfl) (by kernel_rfl) (by kernel_rfl) fun args v hv ha S=>?_
  unfold framedF at hv
  split at hv
  · rename_i b
    obtain ⟨h1,hv2⟩:=Tr.br_no hv
    cases hv2
    simp only [decide_eq_true_eq] at h1
    have h:body PR (cfE [ptextE,newE,putE]) cfgG lf0 n_page_framed [.slice (.int .u8) b .view] S some =
      (bif decide ((bif decide ((b.length:Int) > 65536) then [] else [] ++ num (b.length:Int) ++ b).length + 4 ≤ 140737488355328) then
        some (.slice (.int .u8) (crcPut (bif decide ((b.length:Int) > 65536) then [] else [] ++ num (b.length:Int) ++ b)) .view,[],S) else none):=by kernel_rfl
    refine h.trans ?_
    rw [decide_eq_false (show ¬ (b.length:Int) > 65536 by omega)]
    simp only [cond_false,List.nil_append]
    have:=num_len (b.length:Int)
    rw [cond_eq (by simp only [List.length_append,decide_eq_true_eq]; omega)]
    rfl
  · cases hv
def framedE:Ent PR A:=⟨n_page_framed,_,framed_ok⟩
def firstV (b:List Int):AV:=.tuple [.slice (.int .u8) (fX b) .view,.int .i64 (fM b),.bool (fOK b)]
def firstF:List AV → Tr AV
  | [.slice (.int .u8) b .view]=>.br (decide (b.length ≤ 140737488355328)) (.yes (firstV b)) .no
  | _=>.no
theorem first_ok:Con PR A n_page_first (pureC firstF):=by
  refine pure_con0 (cfg:=cfgG) [newReaderE,textE,leftE,errE',newE,cutE] mixed (by kernel_rfl) (by kernel_rfl) (by kernel_rfl) fun args v hv ha S=>?_
  unfold firstF at hv
  split at hv
  · rename_i b
    obtain ⟨h1,hv2⟩:=Tr.br_no hv
    cases hv2
    simp only [decide_eq_true_eq] at h1
    simp only [okAVs,okAV] at ha
    have hb:isBytes b:=ha.1.2
    have h:body PR (cfE [newReaderE,textE,leftE,errE',newE,cutE]) cfgG lf0 n_page_first [.slice (.int .u8) b .view] S some =
      (bif decide (b.length ≤ 140737488355328) then
        bif (fR b).1.e != 0 then some (.tuple [.slice (.int .u8) [] .view,.int .i64 0,.bool false],[],S)
        else bif decide (IntKind.i64.wrap (IntKind.i64.wrap ((b.length:Int) - ((fR b).1.b.length:Int)) + 4) > (b.length:Int)) then some (.tuple [.slice (.int .u8) [] .view,.int .i64 0,.bool false],[],S)
        else bif (decide (0 ≤ IntKind.i64.wrap (IntKind.i64.wrap ((b.length:Int) - ((fR b).1.b.length:Int)) + 4)) && decide (IntKind.i64.wrap (IntKind.i64.wrap ((b.length:Int) - ((fR b).1.b.length:Int)) + 4) ≤ (b.length:Int))) && decide (IntKind.i64.wrap (IntKind.i64.wrap ((b.length:Int) - ((fR b).1.b.length:Int)) + 4) = IntKind.i64.wrap (IntKind.i64.wrap ((b.length:Int) - ((fR b).1.b.length:Int)) + 4)) then
          bif decide (((b.take (IntKind.i64.wrap (IntKind.i64.wrap ((b.length:Int) - ((fR b).1.b.length:Int)) + 4)).toNat).drop 0).length ≤ 140737488355328) then
            some (.tuple [.slice (.int .u8) (fR b).2 .view,.int .i64 (IntKind.i64.wrap (IntKind.i64.wrap ((b.length:Int) - ((fR b).1.b.length:Int)) + 4)),
              .bool (crcOK ((b.take (IntKind.i64.wrap (IntKind.i64.wrap ((b.length:Int) - ((fR b).1.b.length:Int)) + 4)).toNat).drop 0))],[],S)
          else none else none
      else none):=by kernel_rfl
    refine h.trans ?_
    rw [cond_eq (decide_eq_true h1)]
    unfold firstV fX fM fOK fE
    cases he:((fR b).1.e != 0) with
    | true=>rfl
    | false =>
      simp only [bne_eq_false_iff_eq] at he
      obtain ⟨_,e⟩:=text_inv (s:=⟨b,0⟩) (lim:=65536) hb he
      have hl:(fR b).1.b.length ≤ b.length:=by
        have:=congrArg List.length e
        simp only [List.length_append] at this
        show (textR ⟨b,0⟩ 65536).1.b.length ≤ _
        omega
      have hw:IntKind.i64.wrap (IntKind.i64.wrap ((b.length:Int) - ((fR b).1.b.length:Int)) + 4) = fN b:=by
        rw [wrap_i64 (n:=(b.length:Int) - _) (by omega) (by omega),wrap_i64 (by omega) (by omega)]; rfl
      have h0:0 ≤ fN b:=by unfold fN; omega
      rw [hw]
      simp only [cond_false,Bool.not_false,Bool.true_and,List.drop_zero]
      by_cases hg:fN b > (b.length:Int)
      · rw [decide_eq_true hg]; rfl
      · rw [decide_eq_false hg,decide_eq_true h0,decide_eq_true (show fN b ≤ (b.length:Int) by omega)]
        simp only [cond_false,Bool.not_false,Bool.true_and,cond_true,decide_true]
        rw [cond_eq (by simp only [List.length_take,decide_eq_true_eq]; omega)]
  · cases hv
def firstE:Ent PR A:=⟨n_page_first,_,first_ok⟩
end Go.Crc
namespace Go.Crc
open Go.Vm Go.Pack Go.Rec Go.RowKit
def framesF:List AV → Stack → Tr Res
  | [.slice (.int .u8) b .view],l :: S=>.yes (.func n_page_frames_1 [] [.ptr 0 (lenN l) 0],[],app l [.cells [.slice (.int .u8) b .view]] :: S)
  | _,_=>.no
theorem frames_ok:Con PR A n_page_frames (shapeC framesF):=by
  refine shapeC_ok fun args S res hv=>?_
  unfold framesF at hv
  split at hv
  · rename_i b l S
    cases hv
    refine ⟨fun ha hh=>?_,fun l' i' _=>?_⟩
    · have h:body PR (cfE (P:=PR) (A:=A) []) cfgG (fun _=>none) n_page_frames [.slice (.int .u8) b .view] (l :: S) some = some (.func n_page_frames_1 [] [.ptr 0 (lenN l + 0) 0],[],app l [.cells [.slice (.int .u8) b .view]] :: S):=by kernel_rfl
      exact fun_call _ mixed (by kernel_rfl) (by kernel_rfl) (no_loops (by kernel_rfl)) h
    · cases l' with
      | succ l'=>exact .inl (copyvs_refl_ObE _)
      | zero =>
        simp only [headLen,lenN_eq]
        rcases Nat.lt_or_ge i' l.length with hi | hi
        · left
          simp only [getH,nth_eq,app_eq]
          rw [List.getElem?_append_left hi]
          exact copyvs_refl_ObE _
        · exact .inr ⟨trivial,hi⟩
  · cases hv
def framesE:Ent PR A:=⟨n_page_frames,_,frames_ok⟩
noncomputable abbrev rg (k:Nat):Array Oper:=ropsAt PR n_page_frames_1 k
theorem fr_body0:(PR.funcs[n_page_frames_1]?).map (fun fn=>(fn.body,fn.ntmps,fn.results.toList)) = some (some (.seq (.region 0 (rg 0) false) (.block 0 (.loop (.seq (.seq (.region 1 (rg 1) false) (.cond (.tmp 10) .skip (.exit 0))) (.block 1 (.seq (.region 2 (rg 2) false) (.seq (.region 3 (rg 3) false) (.seq (.region 4 (rg 4) false) (.cond (.tmp 30) .ret .skip))))))))),31,[]):=by kernel_rfl
theorem fr_body:∃ fn,PR.funcs[n_page_frames_1]? = some fn ∧ fn.body = some (.seq (.region 0 (rg 0) false) (.block 0 (.loop (.seq (.seq (.region 1 (rg 1) false) (.cond (.tmp 10) .skip (.exit 0))) (.block 1 (.seq (.region 2 (rg 2) false) (.seq (.region 3 (rg 3) false) (.seq (.region 4 (rg 4) false) (.cond (.tmp 30) .ret .skip))))))))) ∧ fn.ntmps = 31 ∧ fn.results = #[]:=by
  have h:=fr_body0
  cases hf:PR.funcs[n_page_frames_1]? with
  | none=>rw [hf] at h; cases h
  | some fn =>
    rw [hf] at h
    simp only [Option.map_some,Option.some.injEq,Prod.mk.injEq] at h
    exact ⟨fn,rfl,h.1,h.2.1,Array.toList_inj.1 h.2.2⟩
def ysF:Nat → List (List Int) → List (List AV)
  | _,[]=>[]
  | at_,x :: r=>[.slice (.int .u8) x .view,.int .i64 ((at_ + (frB x).length:Nat):Int)] :: ysF (at_ + (frB x).length) r
noncomputable abbrev cfF:CallK:=cfE (P:=PR) (A:=A) [firstE]
theorem hcfF:CfOK PR A cfF:=cfE_ok _
def fr13 (i:Nat) (n:Int):Fr:=mkFr [1,3] [.ptr 0 i 0,.int .i64 n]
theorem opsB_rg:opsB 31 (rg 0).toList = true ∧ opsB 31 (rg 1).toList = true ∧ opsB 31 (rg 2).toList = true ∧ opsB 31 (rg 3).toList = true ∧ opsB 31 (rg 4).toList = true:=⟨by kernel_rfl,by kernel_rfl,by kernel_rfl,by kernel_rfl,by kernel_rfl⟩
theorem noDst_rg:noDst [0] (rg 0).toList = true ∧ noDst [0] (rg 1).toList = true ∧ noDst [0] (rg 2).toList = true ∧ noDst [0] (rg 3).toList = true ∧ noDst [0] (rg 4).toList = true:=⟨by kernel_rfl,by kernel_rfl,by kernel_rfl,by kernel_rfl,by kernel_rfl⟩
theorem rg0_eq (i:Nat) (H:Stack) (wr:Wr):region PR cfF cfgG false (rg 0).toList (mkFr [1] [.ptr 0 i 0]) H wr (kp [1,3]) = some (.tuple [.ptr 0 i 0,.int .i64 0],wr,H):=by kernel_rfl
theorem rg3_eq (i:Nat) (n m:Int) (x:List Int) (g:Bool) (H:Stack) (wr:Wr):region PR cfF cfgG false (rg 3).toList (mkFr [1,3,4,5,6] [.ptr 0 i 0,.int .i64 n,.slice (.int .u8) x .view,.int .i64 m,.bool g]) H wr (kp [1,3,4,6]) = some (.tuple [.ptr 0 i 0,.int .i64 (IntKind.i64.wrap (n + m)),.slice (.int .u8) x .view,.bool g],wr,H):=by kernel_rfl
theorem rg4_no (i:Nat) (n:Int) (x:List Int) (H:Stack) (wr:Wr):region PR cfF cfgG false (rg 4).toList (mkFr [1,3,4,6] [.ptr 0 i 0,.int .i64 n,.slice (.int .u8) x .view,.bool false]) H wr (kp [30]) = some (.tuple [.bool true],wr,H):=by kernel_rfl
theorem rg4_a (i:Nat) (n:Int) (x:List Int) (H:Stack):(Vm.steps PR cfF cfgG false (rg 4).toList [0,1,2] (rs0 (mkFr [1,3,4,6] [.ptr 0 i 0,.int .i64 n,.slice (.int .u8) x .view,.bool true]) H)).map (fun s=>(pickAll s.fr [1,3,4,24],s.H,s.wr)) = some ([.ptr 0 i 0,.int .i64 n,.slice (.int .u8) x .view,.bool false],H,[]):=by kernel_rfl
theorem rg4_b (i:Nat) (n:Int) (g:Bool) (H:Stack):(Vm.steps PR cfF cfgG false (rg 4).toList [7,8] (rs0 (mkFr [1,3,24,28] [.ptr 0 i 0,.int .i64 n,.bool false,.bool g]) H)).map (fun s=>(pickAll s.fr [1,3,30],s.H,s.wr)) = some ([.ptr 0 i 0,.int .i64 n,.bool !g],H,[]):=by kernel_rfl
theorem rg4_size:(rg 4).size = 9:=by kernel_rfl
theorem op3:∃ o,(rg 4).toList[3]? = some o ∧ o.op = .move (.tmp 0) ∧ o.dst = some 25 ∧ o.guard = some (2,false):=by
  have h:((rg 4).toList[3]?).map (fun o=>(o.op,o.dst,o.guard)) = some (.move (.tmp 0),some 25,some (2,false)):=by kernel_rfl
  cases ho:(rg 4).toList[3]? with
  | none=>rw [ho] at h; cases h
  | some o=>rw [ho] at h; simp only [Option.map_some,Option.some.injEq,Prod.mk.injEq] at h; exact ⟨o,rfl,h⟩
theorem op4:∃ o,(rg 4).toList[4]? = some o ∧ o.op = .move (.tmp 4) ∧ o.dst = some 26 ∧ o.guard = some (2,false):=by
  have h:((rg 4).toList[4]?).map (fun o=>(o.op,o.dst,o.guard)) = some (.move (.tmp 4),some 26,some (2,false)):=by kernel_rfl
  cases ho:(rg 4).toList[4]? with
  | none=>rw [ho] at h; cases h
  | some o=>rw [ho] at h; simp only [Option.map_some,Option.some.injEq,Prod.mk.injEq] at h; exact ⟨o,rfl,h⟩
theorem op5:∃ o,(rg 4).toList[5]? = some o ∧ o.op = .move (.tmp 3) ∧ o.dst = some 27 ∧ o.guard = some (2,false):=by
  have h:((rg 4).toList[5]?).map (fun o=>(o.op,o.dst,o.guard)) = some (.move (.tmp 3),some 27,some (2,false)):=by kernel_rfl
  cases ho:(rg 4).toList[5]? with
  | none=>rw [ho] at h; cases h
  | some o=>rw [ho] at h; simp only [Option.map_some,Option.some.injEq,Prod.mk.injEq] at h; exact ⟨o,rfl,h⟩
theorem op6:∃ o c,(rg 4).toList[6]? = some o ∧ o.op = .call c ∧ c.callee = .value (.tmp 25) ∧ c.args = #[.tmp 26,.tmp 27] ∧ o.dst = some 28 ∧ o.guard = some (2,false):=by
  have h:((rg 4).toList[6]?).map (fun o=>((match o.op with | .call c=>some (c.callee,c.args) | _=>none),o.dst,o.guard)) = some (some (.value (.tmp 25),#[.tmp 26,.tmp 27]),some 28,some (2,false)):=by kernel_rfl
  cases ho:(rg 4).toList[6]? with
  | none=>rw [ho] at h; cases h
  | some o =>
    rw [ho] at h
    simp only [Option.map_some,Option.some.injEq,Prod.mk.injEq] at h
    obtain ⟨h1,h2,h3⟩:=h
    cases hop:o.op with
    | call c =>
      rw [hop] at h1
      simp only [Option.some.injEq,Prod.mk.injEq] at h1
      exact ⟨o,c,rfl,hop,h1.1,h1.2,h2,h3⟩
    | _=>rw [hop] at h1; cases h1
theorem wanted2 {o:Oper} (hg:o.guard = some (2,false)) {fr:Fr} (hf:fr 24 = .bool false) (H:Stack):wantedV (rg 4).toList (rs0 fr H) o.guard = some true:=by
  have h:((rg 4).toList[2]?).map (fun o=>o.dst) = some (some 24):=by kernel_rfl
  rw [hg]
  unfold wantedV
  simp only [nth_eq]
  cases ho:(rg 4).toList[2]? with
  | none=>rw [ho] at h; cases h
  | some o2 =>
    rw [ho] at h
    simp only [Option.map_some,Option.some.injEq] at h
    simp only [h]
    show (match (rs0 fr H).fr 24 with | .bool b=>some (b == false) | .tuple []=>some false | _=>none) = some true
    rw [show (rs0 fr H).fr 24 = .bool false from hf]
    rfl
def muF (b:List Int) (a:Act) (W:World):Nat:=match Act.at a 3 with | .int _ n=>b.length - n.toNat | _=>0
theorem results_nil {fn:Func} (h:fn.results = #[]) (tmps:Array Value) (w:World):∃ v,(results fn tmps).run PR w = .ok v w:=by
  unfold results
  rw [h]
  simp only [Array.mapM_empty,Sem.run_bind,Sem.run_pure,Result.andThen_ok,pure_bind]
  exact ⟨_,rfl⟩
theorem frames_iter {i:Nat} {b:List Int} (hb:isBytes b) (hl:b.length ≤ 140737488355328) {box:Stack → Prop}
    (E1:∀ H wr (j:Nat),box H → region PR cfF cfgG false (rg 1).toList (fr13 i j) H wr (kp [1,3,10]) = some (.tuple [.ptr 0 i 0,.int .i64 j,.bool (decide ((j:Int) < (b.length:Int)))],wr,H))
    (E2:∀ H wr (j:Nat),box H → j ≤ b.length → region PR cfF cfgG false (rg 2).toList (fr13 i j) H wr (kp [1,3,4,5,6]) = some (.tuple [.ptr 0 i 0,.int .i64 j,.slice (.int .u8) (fX (b.drop j)) .view,.int .i64 (fM (b.drop j)),.bool (fOK (b.drop j))],wr,H)) :
    IterOK PR A n_page_frames_1 [.ptr 0 i 0] box (ysF 0 (scanL b)):=by
  intro e0 w0 l D rec go Hf wrf H wr hruns hbox e W vc hM hvc
  obtain ⟨fn,hf,hbd,hnt,hres⟩:=fr_body
  obtain ⟨p,s1,q1,q2,q3⟩:=VRs.cons.1 hvc
  have hvc':vc = #[p]:=by
    have:=VRs.nil.1 q3
    subst this
    exact Array.toList_inj.1 (by rw [q1])
  subst hvc'
  refine calls_of_wp hf hbd ?_
  rw [hnt]
  generalize ha0:({ tmps:=(#[.func (.yield l) #[] #[]] ++ #[p]) ++ Array.replicate (31 - (#[.func (.yield l) #[] #[]] ++ #[p]:Array Value).size) undef,defers:=[] }:Act) = a0
  have h0:Act.at a0 0 = .func (.yield l) #[] #[]:=by subst ha0; simp [Act.at]
  have h1:Act.at a0 1 = p:=by subst ha0; simp [Act.at]
  have hd0:a0.defers = []:=by subst ha0; rfl
  have hs0:a0.tmps.size = 31:=by subst ha0; simp
  have hfr0:FRel 31 e (mkFr [1] [.ptr 0 i 0]) a0:=by
    refine ⟨hs0,fun t ht=>?_⟩
    simp only [mkFr]
    by_cases h:t = 1
    · subst h; rw [upd_same,h1]; exact VR.weak (by simpa using q2)
    · rw [upd_ne _ _ h]; simp [VR]
  have hpost:∀ a W,a.defers = [] → (∃ e',Mid A e0 w0 l D (goes rec go) Hf wrf e' W) → bodyPost PR fn (fun en W'=>∃ v e',en = .returned v ∧ Mid A e0 w0 l D (goes rec go) Hf wrf e' W') .normal a W ∧ bodyPost PR fn (fun en W'=>∃ v e',en = .returned v ∧ Mid A e0 w0 l D (goes rec go) Hf wrf e' W') .ret a W:=by
    intro a W hda ⟨e',hm⟩
    obtain ⟨v,hv⟩:=results_nil hres a.tmps W
    exact ⟨⟨hda,v,hv,v,e',rfl,hm⟩,⟨hda,v,hv,v,e',rfl,hm⟩⟩
  refine wp_seq (wp_mono (region_pick (K:=fun t=>t ∈ [0]) hcfF opsB_rg.1 (noDst_ok noDst_rg.1) (rg0_eq i H wr) hM hfr0) fun x a1 W1 hq=>?_)
  obtain ⟨rfl,e1,hM1,hfr1,hk1⟩:=hq
  refine wp_block (wp_loop (fun a W=>∃ (e:Env) (j:Nat) (H:Stack) (wr:Wr),j ≤ b.length ∧ Mid A e0 w0 l D (rec .ready none) H wr e W ∧ FRel 31 e (fr13 i j) a ∧ Act.at a 0 = .func (.yield l) #[] #[] ∧ a.defers = [] ∧ box H ∧ Runs PR A e0 w0 l D rec box go Hf wrf (ysF j (scanL (b.drop j))) H wr) (muF b)
    ⟨e1,0,H,wr,Nat.zero_le _,hM1,hfr1,(hk1.slot 0 (by simp)).trans h0,hk1.defers.trans hd0,hbox,by rw [List.drop_zero]; exact hruns⟩ fun a W hJ=>?_)
  clear hM hM1 hfr0 hfr1 hk1 hruns hbox ha0 h0 h1 hd0 hs0 hvc q1 q2 q3
  obtain ⟨e2,j,H2,wr2,hj,hM2,hfr2,hy2,hd2,hb2,hr2⟩:=hJ
  have hmu:muF b a W = b.length - j:=by
    have:=hfr2.val 3 (by decide)
    have h3:fr13 i j 3 = .int .i64 j:=rfl
    rw [h3] at this
    simp only [VR] at this
    unfold muF
    rw [this.1]
    simp
  refine wp_seq (wp_seq (wp_mono (region_pick (K:=fun t=>t ∈ [0]) hcfF opsB_rg.2.1 (noDst_ok noDst_rg.2.1) (E1 H2 wr2 j hb2) hM2 hfr2) fun x a3 W3 hq=>?_))
  obtain ⟨rfl,e3,hM3,hfr3,hk3⟩:=hq
  have hc:=hfr3.val 10 (by decide)
  rw [show mkFr [1,3,10] [AV.ptr 0 i 0,.int .i64 (j:Int),.bool (decide ((j:Int) < (b.length:Int)))] 10 = .bool (decide ((j:Int) < (b.length:Int))) from rfl] at hc
  simp only [VR] at hc
  refine wp_cond (t:=decide ((j:Int) < (b.length:Int))) hc ?_
  have hbj:isBytes (b.drop j):=drop_bytes hb j
  have hstep:=scanL_step hbj
  by_cases hlt:j < b.length
  · rw [decide_eq_true (show (j:Int) < (b.length:Int) by omega),if_pos rfl]
    refine wp_skip ?_
    have hfr3':FRel 31 e3 (fr13 i j) a3:=by
      have:=hfr3.pick (ls:=[1,3])
      exact this
    refine wp_block (wp_seq (wp_mono (region_pick (K:=fun t=>t ∈ [0]) hcfF opsB_rg.2.2.1 (noDst_ok noDst_rg.2.2.1) (E2 H2 wr2 j hb2 hj) hM3 hfr3') fun x a4 W4 hq=>?_))
    obtain ⟨rfl,e4,hM4,hfr4,hk4⟩:=hq
    refine wp_seq (wp_mono (region_pick (K:=fun t=>t ∈ [0]) hcfF opsB_rg.2.2.2.1 (noDst_ok noDst_rg.2.2.2.1) (rg3_eq i j _ _ _ H2 wr2) hM4 hfr4) fun x a5 W5 hq=>?_)
    obtain ⟨rfl,e5,hM5,hfr5,hk5⟩:=hq
    have hy5:Act.at a5 0 = .func (.yield l) #[] #[]:=(hk5.slot 0 (by simp)).trans ((hk4.slot 0 (by simp)).trans ((hk3.slot 0 (by simp)).trans hy2))
    have hd5:a5.defers = []:=hk5.defers.trans (hk4.defers.trans (hk3.defers.trans hd2))
    cases hok:fOK (b.drop j) with
    | false =>
      rw [hok] at hfr5 hstep
      rw [hstep] at hr2
      simp only [cond_false,ysF,Runs] at hr2
      obtain ⟨rfl,rfl,rfl⟩:=hr2
      refine wp_seq (wp_mono (region_pick (K:=fun t=>t ∈ [0]) hcfF opsB_rg.2.2.2.2 (noDst_ok noDst_rg.2.2.2.2) (rg4_no i _ _ _ _) hM5 hfr5) fun x a6 W6 hq=>?_)
      obtain ⟨rfl,e6,hM6,hfr6,hk6⟩:=hq
      have hc:=hfr6.val 30 (by decide)
      rw [show mkFr [30] [AV.bool true] 30 = .bool true from rfl] at hc
      simp only [VR] at hc
      refine wp_cond_true hc (wp_ret ?_)
      exact (hpost a6 W6 (hk6.defers.trans hd5) ⟨e6,hM6⟩).2
    | true =>
      rw [hok] at hfr5 hstep
      obtain ⟨g1,g2,g3⟩:=fOK_inv hbj hok
      have h4:=frB_ge (fX (b.drop j))
      have hlen:j + (frB (fX (b.drop j))).length ≤ b.length:=by
        have:=congrArg List.length g2
        rw [List.length_append,List.length_drop] at this
        omega
      rw [hstep] at hr2
      simp only [cond_true,ysF] at hr2
      rw [g3,Int.toNat_natCast,List.drop_drop] at hr2
      have hn:IntKind.i64.wrap ((j:Int) + fM (b.drop j)) = ((j + (frB (fX (b.drop j))).length:Nat):Int):=by
        rw [g3,wrap_i64 (by omega) (by omega)]; omega
      rw [hn] at hfr5
      generalize hx:fX (b.drop j) = x at hr2 hfr5 hlen h4 hn
      generalize hjn:j + (frB x).length = jn at hr2 hfr5 hlen
      refine wp_seq ((wpIn_wide (n:=0)).1 (wpIn_region ?_))
      rw [rg4_size]
      refine steps_pick (ks:=[0,1,2]) (k2:=[3,4,5,6,7,8]) (K:=fun t=>t ∈ [0]) hcfF opsB_rg.2.2.2.2 (noDst_ok noDst_rg.2.2.2.2) (rg4_a i jn x H2) hM5 hfr5 fun e6 a6 W6 hM6 hfr6 hk6=>?_
      have hy6:Act.at a6 0 = .func (.yield l) #[] #[]:=(hk6.slot 0 (by simp)).trans hy5
      obtain ⟨o3,p1,p2,p3,p4⟩:=op3
      obtain ⟨o4,p5,p6,p7,p8⟩:=op4
      obtain ⟨o5,p9,p10,p11,p12⟩:=op5
      obtain ⟨o6,c6,r1,r2,r3,r4,r5,r6⟩:=op6
      have z6:=hfr6.size
      refine hand_mid hM6 hfr6 p1 p2 p3 (by decide) opsB_rg.2.2.2.2 (wanted2 p4 rfl H2) fun e7 hM7 hfr7=>?_
      refine hand_mid hM7 hfr7 p5 p6 p7 (by decide) opsB_rg.2.2.2.2 (wanted2 p8 rfl H2) fun e8 hM8 hfr8=>?_
      refine hand_mid hM8 hfr8 p9 p10 p11 (by decide) opsB_rg.2.2.2.2 (wanted2 p12 rfl H2) fun e9 hM9 hfr9=>?_
      generalize ha9:(((a6.put (some 25) (Act.at a6 0)).put (some 26) (Act.at (a6.put (some 25) (Act.at a6 0)) 4)).put (some 27) (Act.at ((a6.put (some 25) (Act.at a6 0)).put (some 26) (Act.at (a6.put (some 25) (Act.at a6 0)) 4)) 3)) = a9 at hfr9
      have zp:∀ (a:Act) (d:Nat) (v:Value),(a.put (some d) v).tmps.size = a.tmps.size:=fun a d v=>by simp [Act.put]
      have hat:∀ t,Act.at a9 t = if t = 27 then Act.at a6 3 else if t = 26 then Act.at a6 4 else if t = 25 then Act.at a6 0 else Act.at a6 t:=by
        intro t
        rw [← ha9,Act.at_put _ _ _ _ (by rw [zp,zp,z6]; decide),Act.at_put _ _ 3 _ (by rw [zp,z6]; decide),Act.at_put _ _ 3 _ (by rw [z6]; decide),Act.at_put _ _ t _ (by rw [zp,z6]; decide),Act.at_put _ _ 4 _ (by rw [z6]; decide),Act.at_put _ _ t _ (by rw [z6]; decide)]
        rfl
      have hd9:a9.defers = []:=by
        rw [← ha9]
        exact hk6.defers.trans hd5
      have hy9:Act.at a9 25 = .func (.yield l) #[] #[]:=by rw [hat]; exact hy6
      have hv4:=hfr9.val 4 (by decide)
      have hv3:=hfr9.val 3 (by decide)
      rw [hat] at hv4 hv3
      have hxs:VRs e9 none 0 [.slice (.int .u8) x .view,.int .i64 (jn:Int)] (c6.args.map a9.eval).toList:=by
        rw [r4,Array.toList_map]
        show VRs e9 none 0 [.slice (.int .u8) x .view,.int .i64 (jn:Int)] [Act.at a9 26,Act.at a9 27]
        rw [hat 26,hat 27]
        refine VRs.cons.2 ⟨_,_,rfl,?_,VRs.cons.2 ⟨_,_,rfl,?_,VRs.nil.2 rfl⟩⟩
        · exact VR.strip_to (fun _ _ _ h=>h) (ClLe.refl _) hv4
        · exact VR.strip_to (fun _ _ _ h=>h) (ClLe.refl _) hv3
      have fin:∀ (g:Bool) (e10:Env) (a10:Act) (W10:World) (H':Stack) (wr':Wr),Mid A e0 w0 l D (goes rec g) H' wr' e10 W10 → FRel 31 e10 (mkFr [1,3,24,28] [.ptr 0 i 0,.int .i64 (jn:Int),.bool false,.bool g]) a10 → Act.at a10 0 = .func (.yield l) #[] #[] → a10.defers = [] →
          (g = true → box H' ∧ Runs PR A e0 w0 l D rec box go Hf wrf (ysF jn (scanL (b.drop jn))) H' wr') → (g = false → go = false ∧ H' = Hf ∧ wr' = wrf) →
          wpOpsIn (fen none) 0 PR (rg 4) (Exit.then ((Code.cond (.tmp 30) .ret .skip).wp PR (Exit.inBlock 1 (Exit.then (fun a' w'=>(∃ (e:Env) (j:Nat) (H:Stack) (wr:Wr),j ≤ b.length ∧ Mid A e0 w0 l D (rec .ready none) H wr e w' ∧ FRel 31 e (fr13 i j) a' ∧ Act.at a' 0 = .func (.yield l) #[] #[] ∧ a'.defers = [] ∧ box H ∧ Runs PR A e0 w0 l D rec box go Hf wrf (ysF j (scanL (b.drop j))) H wr) ∧ muF b a' w' < muF b a W) (Exit.inBlock 0 (bodyPost PR fn fun en W'=>∃ v e',en = .returned v ∧ Mid A e0 w0 l D (goes rec go) Hf wrf e' W'))))) (Exit.inBlock 1 (Exit.then (fun a' w'=>(∃ (e:Env) (j:Nat) (H:Stack) (wr:Wr),j ≤ b.length ∧ Mid A e0 w0 l D (rec .ready none) H wr e w' ∧ FRel 31 e (fr13 i j) a' ∧ Act.at a' 0 = .func (.yield l) #[] #[] ∧ a'.defers = [] ∧ box H ∧ Runs PR A e0 w0 l D rec box go Hf wrf (ysF j (scanL (b.drop j))) H wr) ∧ muF b a' w' < muF b a W) (Exit.inBlock 0 (bodyPost PR fn fun en W'=>∃ v e',en = .returned v ∧ Mid A e0 w0 l D (goes rec go) Hf wrf e' W'))))) [7,8] a10 W10:=by
        intro g e10 a10 W10 H' wr' hM10 hfr10 hy10 hd10 hg1 hg2
        refine steps_pick (ks:=[7,8]) (k2:=[]) (K:=fun t=>t ∈ [0]) hcfF opsB_rg.2.2.2.2 (noDst_ok noDst_rg.2.2.2.2) (rg4_b i jn g H') hM10 hfr10 fun e11 a11 W11 hM11 hfr11 hk11=>?_
        have hc:=hfr11.val 30 (by decide)
        rw [show mkFr [1,3,30] [AV.ptr 0 i 0,.int .i64 (jn:Int),.bool !g] 30 = .bool !g from rfl] at hc
        simp only [VR] at hc
        cases g with
        | false =>
          obtain ⟨rfl,rfl,rfl⟩:=hg2 rfl
          exact wp_cond_true hc (wp_ret (hpost a11 W11 (hk11.defers.trans hd10) ⟨e11,hM11⟩).2)
        | true =>
          obtain ⟨k1,k2⟩:=hg1 rfl
          refine wp_cond_false hc (wp_skip ⟨⟨e11,jn,H',wr',hlen,hM11,hfr11.pick (ls:=[1,3]),(hk11.slot 0 (by simp)).trans hy10,hk11.defers.trans hd10,k1,k2⟩,?_⟩)
          have hv:=hfr11.val 3 (by decide)
          rw [show mkFr [1,3,30] [AV.ptr 0 i 0,.int .i64 (jn:Int),.bool !true] 3 = .int .i64 (jn:Int) from rfl] at hv
          simp only [VR] at hv
          rw [hmu]
          unfold muF
          rw [hv.1]
          simp only [Int.toNat_natCast]
          omega
      have hfr10:∀ (g:Bool) (e10:Env),FRel 31 e10 (upd (fun t=>strip (upd (upd (upd (mkFr [1,3,4,24] [.ptr 0 i 0,.int .i64 (jn:Int),.slice (.int .u8) x .view,.bool false]) 25 .undef) 26 .undef) 27 .undef t)) 28 (.bool g)) (a9.put (some 28) (.bool g)) → FRel 31 e10 (mkFr [1,3,24,28] [.ptr 0 i 0,.int .i64 (jn:Int),.bool false,.bool g]) (a9.put (some 28) (.bool g)):=fun g e10 h=>h.pick (ls:=[1,3,24,28])
      have hy10:∀ v,Act.at (a9.put (some 28) v) 0 = .func (.yield l) #[] #[]:=fun v=>by rw [Act.at_put _ _ _ _ (by rw [hfr9.size]; decide),hat]; exact hy6
      rcases hr2 with ⟨H1,wr1,hY,hb1,hr1⟩ | ⟨hgo,hY⟩
      · refine yield_mid hM9 hfr9 r1 r2 r3 r5 opsB_rg.2.2.2.2 (wanted2 r6 rfl H2) hy9 (by decide) hxs hY fun e10 W10 hM10 hf10=>?_
        exact fin true e10 _ W10 H1 wr1 hM10 (hfr10 true e10 hf10) (hy10 _) hd9 (fun _=>⟨hb1,hr1⟩) (fun h=>by cases h)
      · refine yield_mid hM9 hfr9 r1 r2 r3 r5 opsB_rg.2.2.2.2 (wanted2 r6 rfl H2) hy9 (by decide) hxs hY fun e10 W10 hM10 hf10=>?_
        exact fin false e10 _ W10 Hf wrf hM10 (hfr10 false e10 hf10) (hy10 _) hd9 (fun h=>by cases h) (fun _=>⟨hgo,rfl,rfl⟩)
  · rw [decide_eq_false (show ¬ (j:Int) < (b.length:Int) by omega),if_neg (by decide)]
    have hnil:scanL (b.drop j) = []:=by rw [List.drop_of_length_le (by omega)]; rfl
    rw [hnil] at hr2
    simp only [ysF,Runs] at hr2
    obtain ⟨rfl,rfl,rfl⟩:=hr2
    refine wp_exit ?_
    exact (hpost a3 W3 (hk3.defers.trans hd2) ⟨e3,hM3⟩).1
end Go.Crc
namespace Go.Crc
open Go.Vm Go.Pack Go.Rec Go.RowKit
abbrev TRow:Ty:=.slice (.int .u8)
def boxO (b:List Int):Ob:=.cells [.slice (.int .u8) b .view]
def boxS (b:List Int) (H:Stack):Prop:=∃ (l:List (List Int)) (n:Int) (S:Stack),H = [.cells [.slice TRow l .own],.cells [.int .i64 n],boxO b] :: S
theorem rg1_S (b:List Int) (c0 c1:Ob) (j:Nat) (S:Stack) (wr:Wr):region PR cfF cfgG false (rg 1).toList (fr13 2 j) ([c0,c1,boxO b] :: S) wr (kp [1,3,10]) = some (.tuple [.ptr 0 2 0,.int .i64 j,.bool (decide ((j:Int) < (b.length:Int)))],wr,[c0,c1,boxO b] :: S):=by kernel_rfl
theorem rg2_S (b:List Int) (c0 c1:Ob) (j:Nat) (S:Stack) (wr:Wr):region PR cfF cfgG false (rg 2).toList (fr13 2 j) ([c0,c1,boxO b] :: S) wr (kp [1,3,4,5,6]) =
    (bif decide (0 ≤ (j:Int)) && decide ((j:Int) ≤ (b.length:Int)) then bif decide (((b.take b.length).drop (j:Int).toNat).length ≤ 140737488355328) then some (.tuple [.ptr 0 2 0,.int .i64 j,.slice (.int .u8) (fX ((b.take b.length).drop (j:Int).toNat)) .view,.int .i64 (fM ((b.take b.length).drop (j:Int).toNat)),.bool (fOK ((b.take b.length).drop (j:Int).toNat))],wr,[c0,c1,boxO b] :: S) else none else none):=by kernel_rfl
theorem rg2_ok {b:List Int} {j:Nat} (hl:b.length ≤ 140737488355328) (hj:j ≤ b.length) (x:List Int → Option Res):(bif decide (0 ≤ (j:Int)) && decide ((j:Int) ≤ (b.length:Int)) then bif decide (((b.take b.length).drop (j:Int).toNat).length ≤ 140737488355328) then x ((b.take b.length).drop (j:Int).toNat) else none else none) = x (b.drop j):=by
  rw [cond_eq (by simp only [Bool.and_eq_true,decide_eq_true_eq]; omega),List.take_of_length_le (Nat.le_refl _),Int.toNat_natCast,cond_eq (by simp only [List.length_drop,decide_eq_true_eq]; omega)]
theorem iter_S {b:List Int} (hb:isBytes b) (hl:b.length ≤ 140737488355328):IterOK PR A n_page_frames_1 [.ptr 0 2 0] (boxS b) (ysF 0 (scanL b)):=by
  refine frames_iter hb hl (fun H wr j h=>?_) fun H wr j h hj=>?_
  · obtain ⟨l,n,S,rfl⟩:=h
    exact rg1_S b _ _ j S wr
  · obtain ⟨l,n,S,rfl⟩:=h
    refine (rg2_S b _ _ j S wr).trans (rg2_ok hl hj fun z=>some (.tuple [.ptr 0 2 0,.int .i64 j,.slice (.int .u8) (fX z) .view,.int .i64 (fM z),.bool (fOK z)],wr,[.cells [.slice TRow l .own],.cells [.int .i64 n],boxO b] :: S))
noncomputable abbrev cfSc:CallK:=cfE (P:=PR) (A:=A) [framesE]
def scF (vs:List AV) (H:Stack):Tr (Ex × List AV × Stack × Wr):=match vs,H with
  | [.func g [] [.ptr 0 2 0],.ptr 0 0 0,.ptr 0 1 0],[.cells [.slice (.slice (.int .u8)) [] .own],.cells [.int .i64 0],.cells [.slice (.int .u8) b .view]] :: S =>
    .br (decide (g = n_page_frames_1)) (.br (decide (b.length ≤ 1000000)) (.yes (.normal,[.ptr 0 0 0,.ptr 0 1 0],[.cells [.slice TRow (scanL b) .own],.cells [.int .i64 (scanN b)],boxO b] :: S,repApp (scanL b).length [(0,1),(0,0)])) .no) .no
  | _,_=>.no
def lfSc:Nat → Option LoopSum:=lfOf [(122,loopT [9,4,5] [4,5] scF)]
noncomputable abbrev rfSc:Code:=rcode PR n_page_Scan 0
theorem rfSc_eq:rfSc = .rangeFunc (.tmp 9) #[10,11] (rAs rfSc) (rBd rfSc):=by kernel_rfl
abbrev vsSc (f:AV):List AV:=[f,.ptr 0 0 0,.ptr 0 1 0]
theorem sc_round (c:List AV) (x:List Int) (e n:Int) (l:List (List Int)) (bx:Ob) (S:Stack) (wr:Wr) :
    roundE PR cfSc cfgG lfSc (cfgG.live n_page_Scan) (rAs rfSc) (rBd rfSc) 122 (frR [9,4,5] (vsSc (.func n_page_frames_1 [] c)) 10 11 [.slice (.int .u8) x .view,.int .i64 e]) ([.cells [.slice TRow l .own],.cells [.int .i64 n],bx] :: S) wr =
      (bif decide ((l.length + 1) * 24 ≤ 140737488355328) then some (.bool true,(0,1) :: (0,0) :: wr,[.cells [.slice TRow (l ++ [x]) .own],.cells [.int .i64 e],bx] :: S) else none):=by kernel_rfl
theorem ys_form {xs:List AV}:∀ {L:List (List Int)} {at_:Nat},xs ∈ ysF at_ L → ∃ x e,xs = [.slice (.int .u8) x .view,.int .i64 e]
  | [],at_,h=>by cases h
  | y :: L,at_,h=>by
    rw [ysF] at h
    rcases List.mem_cons.1 h with rfl | h
    · exact ⟨_,_,rfl⟩
    · exact ys_form h
theorem catF_count (l:List (List Int)):4 * l.length ≤ (catF l).length:=by
  induction l with
  | nil=>simp
  | cons x r ih=>simp only [List.length_cons,catF,List.length_append]; have:=frB_ge x; omega
theorem sc_run (c:List AV) (bx:Ob) (S:Stack):∀ (L:List (List Int)) (at_:Nat) (l:List (List Int)) (wr:Wr),(l.length + L.length) * 24 ≤ 140737488355328 →
    runV (fun xs H wr=>roundE PR cfSc cfgG lfSc (cfgG.live n_page_Scan) (rAs rfSc) (rBd rfSc) 122 (frR [9,4,5] (vsSc (.func n_page_frames_1 [] c)) 10 11 xs) H wr) (ysF at_ L) ([.cells [.slice TRow l .own],.cells [.int .i64 (at_:Int)],bx] :: S) wr =
      some (true,app (repApp L.length [(0,1),(0,0)]) wr,[.cells [.slice TRow (l ++ L) .own],.cells [.int .i64 ((at_ + (catF L).length:Nat):Int)],bx] :: S)
  | [],at_,l,wr,h=>by simp [ysF,runV,repApp,app,catF]
  | x :: L,at_,l,wr,h=>by
    simp only [List.length_cons] at h
    rw [ysF,runV]
    rw [sc_round,cond_eq (by simp only [decide_eq_true_eq]; omega)]
    simp only
    rw [sc_run c bx S L (at_ + (frB x).length) (l ++ [x]) _ (by simp only [List.length_append,List.length_cons,List.length_nil]; omega),List.length_cons,rep_more,catF,List.length_append,List.append_assoc]
    simp only [app,List.cons_append,List.nil_append,Nat.add_assoc]
theorem sc_ranges:∀ x ∈ funRanges PR n_page_Scan,∀ L,lfSc x.1 = some L → RangeOK PR A (ntm PR n_page_Scan) x.2 L:=by
  refine one_range (p:=122) rfl (by kernel_rfl) ?_
  show RangeOK PR A _ rfSc _
  rw [rfSc_eq]
  refine rangeOK_of (cf:=cfSc) (cfg:=cfgG) (lf:=lfSc) (lv:=cfgG.live n_page_Scan) (p:=122) (gf:=n_page_frames_1) (cfE_ok _) (by kernel_rfl) (by kernel_rfl) (by rw [show ntm PR n_page_Scan = 19 from by kernel_rfl]; decide) (by rw [show ntm PR n_page_Scan = 19 from by kernel_rfl]; decide) (by rw [show ntm PR n_page_Scan = 19 from by kernel_rfl]; decide) (by kernel_rfl) (by obtain ⟨fn,h1,h2,_⟩:=fr_body; exact ⟨fn,_,h1,h2⟩) fun vs H ex vs' H' w hv ha hh=>?_
  unfold scF at hv
  split at hv
  · rename_i g b S
    obtain ⟨hg,hv2⟩:=Tr.br_no hv
    clear hv
    obtain ⟨hl,hv3⟩:=Tr.br_no hv2
    clear hv2
    cases hv3
    simp only [decide_eq_true_eq] at hg hl
    subst hg
    have hb:isBytes b:=by
      have:=hh 0 2 _ rfl
      simp only [okAVs,okAV] at this
      exact this.1.2
    refine ⟨[.ptr 0 2 0],_,true,ysF 0 (scanL b),boxS b,rfl,rfl,rfl,iter_S hb (by omega),⟨[],0,S,rfl⟩,fun wr=>?_,fun xs hxs H wr wr' H' he hbx=>?_,fun xs hxs=>?_⟩
    · have hc:=scan_count hb
      have:=sc_run [.ptr 0 2 0] (boxO b) S (scanL b) 0 [] wr (by simp only [List.length_nil]; omega)
      simp only [List.nil_append,Nat.zero_add] at this
      exact this
    · obtain ⟨l,n,S',rfl⟩:=hbx
      obtain ⟨x,e,rfl⟩:=ys_form hxs
      rw [sc_round] at he
      cases hd:decide ((l.length + 1) * 24 ≤ 140737488355328) with
      | false=>rw [hd] at he; cases he
      | true=>rw [hd] at he; cases he; exact ⟨_,_,_,rfl⟩
    · obtain ⟨x,e,rfl⟩:=ys_form hxs
      exact ⟨_,_,rfl⟩
  · cases hv
def scanV (b:List Int):AV:=.tuple [.slice TRow (scanL b) .view,.int .i64 (scanN b)]
def scanC:List AV → Tr AV
  | [.slice (.int .u8) b .view]=>.br (decide (b.length ≤ 1000000)) (.yes (scanV b)) .no
  | _=>.no
theorem scan_ok:Con PR A n_page_Scan (pureC scanC):=by
  refine pureC_ok fun args v hv ha S=>?_
  unfold scanC at hv
  split at hv
  · rename_i b
    obtain ⟨hl,hv2⟩:=Tr.br_no hv
    cases hv2
    have h:body PR cfSc cfgG lfSc n_page_Scan [.slice (.int .u8) b .view] S some = (bif decide (b.length ≤ 1000000) then some (scanV b,outer (app (repApp (scanL b).length [(0,1),(0,0)]) [(0,1)]),S) else none):=by kernel_rfl
    rw [cond_eq hl,outer_app0 _ _ (all0_rep rfl _)] at h
    exact fun_callR _ mixed (by kernel_rfl) (by kernel_rfl) (no_loops (by kernel_rfl)) sc_ranges h
  · cases hv
def scanE:Ent PR A:=⟨n_page_Scan,_,scan_ok⟩
end Go.Crc
namespace Go.Crc
open Go.Vm Go.Pack Go.Rec Go.RowKit
def lvG:Lv → Bool
  | .own=>true
  | .full=>true
  | _=>false
abbrev stOb (b:List Int) (lv:Lv) (n:Int) (o:Bool):Ob:=.cells [.slice (.int .u8) b lv,.int .i64 n,.bool o]
def stLenF:Ob → List AV → Tr (AV × Bool × Ob)
  | .cells [.slice (.int .u8) b lv,.int .i64 n,.bool o],[]=>.br (lvG lv) (.yes (.int .i64 b.length,false,stOb b lv n o)) .no
  | _,_=>.no
theorem lvG_cases {lv:Lv} (h:lvG lv = true):lv = .own ∨ lv = .full:=by
  cases lv <;> first | exact .inl rfl | exact .inr rfl | cases h
def stSyncF:Ob → List AV → Tr (AV × Bool × Ob)
  | .cells [.slice (.int .u8) b lv,.int .i64 n,.bool o],[]=>.br (lvG lv) (.yes (.tuple [],true,stOb b lv (bif o then n else b.length) o)) .no
  | _,_=>.no
theorem stSync_ok:Con PR A n_page_Store_Sync (objC 0 stSyncF):=by
  refine objC_ok fun x rest v wrote x' hv=>?_
  unfold stSyncF at hv
  split at hv
  · rename_i b lv n o
    obtain ⟨hc,hv2⟩:=Tr.br_no hv
    cases hv2
    refine ⟨rfl,rfl,rfl,rfl,by simp,fun ha _=>?_⟩
    have h:body PR (cfE (P:=PR) (A:=A) []) cfgG (fun _=>none) n_page_Store_Sync [.ptr 1 0 0] [[],[stOb b lv n o]] some = (bif !o then some (.tuple [],[(1,0)],[[],[stOb b lv b.length o]]) else some (.tuple [],[],[[],[stOb b lv n o]])):=by
      rcases lvG_cases hc with rfl | rfl
      · kernel_rfl
      · kernel_rfl
    cases o with
    | true=>exact SimCall.wr (fun_call _ mixed (by kernel_rfl) (by kernel_rfl) (no_loops (by kernel_rfl)) h) fun l i hm=>rfl
    | false=>exact fun_call _ mixed (by kernel_rfl) (by kernel_rfl) (no_loops (by kernel_rfl)) h
  · cases hv
def stSyncE:Ent PR A:=⟨n_page_Store_Sync,_,stSync_ok⟩
def stFrF:Ob → List AV → Tr (AV × Bool × Ob)
  | .cells [.slice (.int .u8) b lv,.int .i64 n,.bool o],[]=>.br (lvG lv && decide (b.length ≤ 1000000)) (.yes (.slice TRow (scanL b) .view,false,stOb b lv n o)) .no
  | _,_=>.no
theorem stFr_ok:Con PR A n_page_Store_Frames (objC 0 stFrF):=by
  refine objC_ok fun x rest v wrote x' hv=>?_
  unfold stFrF at hv
  split at hv
  · rename_i b lv n o
    obtain ⟨hc,hv2⟩:=Tr.br_no hv
    cases hv2
    simp only [Bool.and_eq_true] at hc
    refine ⟨rfl,rfl,rfl,rfl,by simp,fun ha _=>?_⟩
    have h:body PR (cfE (P:=PR) (A:=A) [scanE]) cfgG (fun _=>none) n_page_Store_Frames [.ptr 1 0 0] [[],[stOb b lv n o]] some = (bif decide (b.length ≤ 1000000) then some (.slice TRow (scanL b) .view,[],[[],[stOb b lv n o]]) else none):=by
      rcases lvG_cases hc.1 with rfl | rfl
      · kernel_rfl
      · kernel_rfl
    rw [cond_eq hc.2] at h
    exact fun_call _ mixed (by kernel_rfl) (by kernel_rfl) (no_loops (by kernel_rfl)) h
  · cases hv
def stFrE:Ent PR A:=⟨n_page_Store_Frames,_,stFr_ok⟩
def appOK (b x:List Int) (o:Bool):Bool:=!o && (decide (x.length ≤ 65536) && decide (b.length + (frB x).length ≤ 65536))
def stApF:Ob → List AV → Tr (AV × Bool × Ob)
  | .cells [.slice (.int .u8) b lv,.int .i64 n,.bool o],[.slice (.int .u8) x .view]=>.br (lvG lv && decide (b.length ≤ 1000000)) (.br (appOK b x o) (.yes (.tuple [.int .i64 b.length,.int .i64 0],true,stOb (b ++ frB x) .own n o)) (.yes (.tuple [.int .i64 0,.int .i64 (bif o then 81 else 80)],false,stOb b lv n o))) .no
  | _,_=>.no
theorem stAp_ok:Con PR A n_page_Store_Append (objC 0 stApF):=by
  refine objC_ok fun z rest v wrote z' hv=>?_
  unfold stApF at hv
  split at hv
  · rename_i b lv n o x
    obtain ⟨hc,hv2⟩:=Tr.br_no hv
    clear hv
    simp only [Bool.and_eq_true,decide_eq_true_eq] at hc
    obtain ⟨hc,hl⟩:=hc
    have h:body PR (cfE (P:=PR) (A:=A) [framedE]) cfgG (fun _=>none) n_page_Store_Append [.ptr 1 0 0,.slice (.int .u8) x .view] [[],[stOb b lv n o]] some =
      (bif o then some (.tuple [.int .i64 0,.int .i64 81],[],[[],[stOb b lv n o]])
      else bif decide ((x.length:Int) > 65536) then some (.tuple [.int .i64 0,.int .i64 80],[],[[],[stOb b lv n o]])
      else bif decide (x.length ≤ 65536) then
        bif decide (IntKind.i64.wrap ((b.length:Int) + ((frB x).length:Int)) > 65536) then some (.tuple [.int .i64 0,.int .i64 80],[],[[],[stOb b lv n o]])
        else bif decide ((b.length + (frB x).length) * 1 ≤ 140737488355328) then some (.tuple [.int .i64 b.length,.int .i64 0],[(1,0)],[[],[stOb (b ++ frB x) .own n o]]) else none
      else none):=by
      rcases lvG_cases hc with rfl | rfl
      · kernel_rfl
      · kernel_rfl
    have h2:body PR (cfE (P:=PR) (A:=A) [framedE]) cfgG (fun _=>none) n_page_Store_Append [.ptr 1 0 0,.slice (.int .u8) x .view] [[],[stOb b lv n o]] some =
        bif appOK b x o then some (.tuple [.int .i64 b.length,.int .i64 0],[(1,0)],[[],[stOb (b ++ frB x) .own n o]]) else some (.tuple [.int .i64 0,.int .i64 (bif o then 81 else 80)],[],[[],[stOb b lv n o]]):=by
      rw [h]
      unfold appOK
      cases o with
      | true=>rfl
      | false =>
        by_cases h1:x.length ≤ 65536
        · have:=frB_le h1
          rw [decide_eq_false (show ¬ (x.length:Int) > 65536 by omega),decide_eq_true h1,wrap_i64 (by omega) (by omega)]
          by_cases h3:b.length + (frB x).length ≤ 65536
          · rw [decide_eq_true h3,decide_eq_false (show ¬ ((b.length:Int) + ((frB x).length:Int) > 65536) by omega),cond_false,cond_false,cond_true,cond_false,cond_eq (decide_eq_true (by omega))]; rfl
          · rw [decide_eq_false h3,decide_eq_true (show ((b.length:Int) + ((frB x).length:Int) > 65536) by omega)]; rfl
        · rw [decide_eq_true (show (x.length:Int) > 65536 by omega),decide_eq_false h1]; rfl
    rcases Tr.br_or hv2 with ⟨he,h4⟩ | ⟨he,h4⟩
    · cases h4
      rw [he] at h2
      refine ⟨rfl,rfl,rfl,rfl,by simp,fun ha _=>?_⟩
      exact fun_call _ mixed (by kernel_rfl) (by kernel_rfl) (no_loops (by kernel_rfl)) h2
    · cases h4
      rw [he] at h2
      refine ⟨rfl,rfl,rfl,rfl,by simp,fun ha _=>?_⟩
      exact fun_call _ mixed (by kernel_rfl) (by kernel_rfl) (no_loops (by kernel_rfl)) h2
  · cases hv
def stApE:Ent PR A:=⟨n_page_Store_Append,_,stAp_ok⟩
def crN (b:List Int) (n k:Int):Int:=n + min (max k 0) ((b.length:Int) - n)
def crT (b:List Int) (n k:Int):List Int:=b.take (crN b n k).toNat
def crB (b:List Int) (n k:Int):List Int:=b.take (scanN (crT b n k)).toNat
def stCrF:Ob → List AV → Tr (AV × Bool × Ob)
  | .cells [.slice (.int .u8) b lv,.int .i64 n,.bool o],[.int .i64 k]=>.br (lvG lv && (decide (b.length ≤ 1000000) && (decide (0 ≤ n) && decide (n ≤ (b.length:Int))))) (.yes (.tuple [],true,stOb (crB b n k) .full (scanN (crT b n k)) false)) .no
  | _,_=>.no
def crM (b:List Int) (n k:Int):Int:=IntKind.i64.wrap (n + (if IntKind.i64.wrap ((b.length:Int) - n) < (if 0 > k then 0 else k) then IntKind.i64.wrap ((b.length:Int) - n) else (if 0 > k then 0 else k)))
theorem crM_eq {b:List Int} {n k:Int} (hl:b.length ≤ 1000000) (h2:0 ≤ n) (h3:n ≤ (b.length:Int)):crM b n k = crN b n k:=by
  unfold crM crN
  rw [wrap_i64 (n:=(b.length:Int) - n) (by omega) (by omega),wrap_i64 (by omega) (by omega)]
  omega
theorem stCr_ok:Con PR A n_page_Store_Crash (objC 0 stCrF):=by
  refine objC_ok fun x rest v wrote x' hv=>?_
  unfold stCrF at hv
  split at hv
  · rename_i b lv n o k
    obtain ⟨hc,hv2⟩:=Tr.br_no hv
    cases hv2
    simp only [Bool.and_eq_true,decide_eq_true_eq] at hc
    obtain ⟨hc,h1,h2,h3⟩:=hc
    refine ⟨rfl,rfl,rfl,rfl,by simp,fun ha hh=>?_⟩
    have hb:isBytes b:=by
      have:=hh 1 0 _ rfl
      simp only [okAVs,okAV] at this
      exact this.1.2
    have h:body PR (cfE (P:=PR) (A:=A) [scanE]) cfgG (fun _=>none) n_page_Store_Crash [.ptr 1 0 0,.int .i64 k] [[],[stOb b lv n o]] some =
      (bif (decide (0 ≤ crM b n k) && decide (crM b n k ≤ (b.length:Int))) && decide (crM b n k = crM b n k) then
        bif decide (((b.take (crM b n k).toNat).drop 0).length ≤ 1000000) then
          bif (decide (0 ≤ scanN ((b.take (crM b n k).toNat).drop 0)) && decide (scanN ((b.take (crM b n k).toNat).drop 0) ≤ (b.length:Int))) && decide (scanN ((b.take (crM b n k).toNat).drop 0) = scanN ((b.take (crM b n k).toNat).drop 0)) then
            some (.tuple [],[(1,0),(1,0),(1,0)],[[],[stOb ((b.take (scanN ((b.take (crM b n k).toNat).drop 0)).toNat).drop 0) .full (scanN ((b.take (crM b n k).toNat).drop 0)) false]])
          else none else none else none):=by
      rcases lvG_cases hc with rfl | rfl
      · kernel_rfl
      · kernel_rfl
    rw [crM_eq h1 h2 h3,List.drop_zero] at h
    have hn:0 ≤ crN b n k ∧ crN b n k ≤ (b.length:Int):=by unfold crN; omega
    have hs:=scanN_le (take_bytes hb (crN b n k).toNat)
    have hlt:(b.take (crN b n k).toNat).length ≤ b.length:=by rw [List.length_take]; omega
    rw [cond_eq (by simp [hn.1,hn.2]),cond_eq (by simp only [decide_eq_true_eq]; omega),cond_eq (by simp only [Bool.and_eq_true,decide_eq_true_eq,and_true]; omega),List.drop_zero] at h
    exact SimCall.wr (fun_call _ mixed (by kernel_rfl) (by kernel_rfl) (no_loops (by kernel_rfl)) h) fun l i hm=>memWr1 (by simp) hm
  · cases hv
def cfgW:Cfg:=cfgOf [] [n_slices_Clone_byte_byte] []
def nwB (b:List Int):List Int:=(b.take 65536).take (scanN (b.take 65536)).toNat
def stNwF:List AV → Tr Ob
  | [.slice (.int .u8) b .view]=>.yes (stOb (nwB b) .own (scanN (b.take 65536)) false)
  | _=>.no
theorem stNw_ok:Con PR A n_page_New (newC stNwF):=by
  refine newC_ok fun args x hv ha l S=>?_
  unfold stNwF at hv
  split at hv
  · rename_i b
    cases hv
    simp only [okAVs,okAV] at ha
    have hb:isBytes b:=ha.1.2
    have hlen:(b.length:Int) ≤ 9223372036854775807:=by have:=ha.1.1; simp only [maxInt] at this; omega
    have h:body PR (cfE (P:=PR) (A:=A) [scanE,cloneE]) cfgW (fun _=>none) n_page_New [.slice (.int .u8) b .view] (l :: S) some =
      (bif decide (0 ≤ (if 65536 < (b.length:Int) then (65536:Int) else (b.length:Int))) && decide ((if 65536 < (b.length:Int) then (65536:Int) else (b.length:Int)) ≤ (b.length:Int)) then
        bif decide (((b.take (if 65536 < (b.length:Int) then (65536:Int) else (b.length:Int)).toNat).drop 0).length ≤ 1000000) then
          bif (decide (0 ≤ scanN ((b.take (if 65536 < (b.length:Int) then (65536:Int) else (b.length:Int)).toNat).drop 0)) && decide (scanN ((b.take (if 65536 < (b.length:Int) then (65536:Int) else (b.length:Int)).toNat).drop 0) ≤ (((b.take (if 65536 < (b.length:Int) then (65536:Int) else (b.length:Int)).toNat).drop 0).length:Int))) && decide (scanN ((b.take (if 65536 < (b.length:Int) then (65536:Int) else (b.length:Int)).toNat).drop 0) = scanN ((b.take (if 65536 < (b.length:Int) then (65536:Int) else (b.length:Int)).toNat).drop 0)) then
            bif decide ((((((b.take (if 65536 < (b.length:Int) then (65536:Int) else (b.length:Int)).toNat).drop 0).take (scanN ((b.take (if 65536 < (b.length:Int) then (65536:Int) else (b.length:Int)).toNat).drop 0)).toNat).drop 0)).length ≤ 140737488355328) then
              some (.ptr 0 (lenN l + 0) 0,[],app l [stOb ((((b.take (if 65536 < (b.length:Int) then (65536:Int) else (b.length:Int)).toNat).drop 0).take (scanN ((b.take (if 65536 < (b.length:Int) then (65536:Int) else (b.length:Int)).toNat).drop 0)).toNat).drop 0) .own (scanN ((b.take (if 65536 < (b.length:Int) then (65536:Int) else (b.length:Int)).toNat).drop 0)) false] :: S)
            else none else none else none else none):=by kernel_rfl
    have e:b.take (if 65536 < (b.length:Int) then (65536:Int) else (b.length:Int)).toNat = b.take 65536:=by
      by_cases h:65536 < (b.length:Int)
      · rw [if_pos h]; rfl
      · rw [if_neg h,Int.toNat_natCast,List.take_of_length_le (Nat.le_refl _),List.take_of_length_le (by omega)]
    have hlt:(b.take 65536).length ≤ 65536:=by rw [List.length_take]; omega
    have hs:=scanN_le (take_bytes hb 65536)
    rw [cond_eq (by simp only [Bool.and_eq_true,decide_eq_true_eq]; omega),e,List.drop_zero,cond_eq (by simp only [decide_eq_true_eq]; omega),cond_eq (by simp only [Bool.and_eq_true,decide_eq_true_eq,and_true]; omega),List.drop_zero,cond_eq (by simp only [List.length_take,decide_eq_true_eq]; omega)] at h
    exact fun_call _ mixed (by kernel_rfl) (by kernel_rfl) (no_loops (by kernel_rfl)) h
  · cases hv
def stNwE:Ent PR A:=⟨n_page_New,_,stNw_ok⟩
end Go.Crc
namespace Go.Crc
open Go.Vm Go.Pack Go.Rec Go.RowKit
theorem app_keeps (z:List Ob) (y:List Ob) (S:Stack):∀ l i,memWr l i [] = false → ObE (getH (app z y :: S) l i) (getH (z :: S) l i) ∨ (l = 0 ∧ headLen (z :: S) ≤ i)
  | l + 1,i,_=>.inl (copyvs_refl_ObE _)
  | 0,i,_=>by
    simp only [headLen,lenN_eq]
    rcases Nat.lt_or_ge i z.length with hi | hi
    · left
      simp only [getH,nth_eq,app_eq]
      rw [List.getElem?_append_left hi]
      exact copyvs_refl_ObE _
    · exact .inr ⟨trivial,hi⟩
def stCr2F:Ob → List AV → Tr (AV × Bool × Ob)
  | .cells [.slice (.int .u8) b .own,.int .i64 n,.bool o],[.int .i64 k]=>.br (decide (b.length ≤ 1000000) && (decide (0 ≤ n) && decide (n ≤ (b.length:Int)))) (.yes (.tuple [],true,stOb (crB b n k) .own (scanN (crT b n k)) false)) .no
  | _,_=>.no
theorem stCr2_ok:Con PR A n_page_Store_Crash (objC 0 stCr2F):=by
  refine objC_ok fun x rest v wrote x' hv=>?_
  unfold stCr2F at hv
  split at hv
  · rename_i b n o k
    obtain ⟨hc,hv2⟩:=Tr.br_no hv
    cases hv2
    refine ⟨rfl,rfl,rfl,rfl,by simp,fun ha hh=>?_⟩
    obtain ⟨res,h1,h2,h3,_⟩:=stCr_ok [.ptr 1 0 0,.int .i64 k] [[],[stOb b .own n o]] some (.tuple [],[(1,0)],[[],[stOb (crB b n k) .full (scanN (crT b n k)) false]]) (by
      have:objC 0 stCrF [.ptr 1 0 0,.int .i64 k] [[],[stOb b .own n o]] some = (bif decide (b.length ≤ 1000000) && (decide (0 ≤ n) && decide (n ≤ (b.length:Int))) then some (.tuple [],[(1,0)],[[],[stOb (crB b n k) .full (scanN (crT b n k)) false]]) else none):=by kernel_rfl
      rw [this,hc]; rfl)
    cases h2
    have:=SimCall.weak (l:=1) (i:=0) (cs':=[.slice (.int .u8) (crB b n k) .own,.int .i64 (scanN (crT b n k)),.bool false]) h3 rfl ⟨.sl _ _ _ _ rfl,.refl _,.refl _,trivial⟩
    exact this
  · cases hv
def stCr2E:Ent PR A:=⟨n_page_Store_Crash,_,stCr2_ok⟩
end Go.Crc
namespace Go.Crc
open Go.Vm Go.Pack Go.Rec Go.RowKit
def dcN (l:List (List Int)) (y k:Int):Nat:=y.toNat + wholeF (l.drop y.toNat) k.toNat
theorem nwB_nil:nwB [] = []:=by simp [nwB]
structure Inv (b:List Int) (n:Int) (l:List (List Int)) (y:Nat):Prop where
  cat:b = catF l
  small:smallF l
  len:b.length ≤ 65536
  le:y ≤ l.length
  syn:n = ((catF (l.take y)).length:Int)
theorem cat_split (l:List (List Int)) (y:Nat):catF l = catF (l.take y) ++ catF (l.drop y):=by rw [← catF_app,List.take_append_drop]
theorem cat_le (l:List (List Int)) (y:Nat):(catF (l.take y)).length ≤ (catF l).length:=by
  have:=congrArg List.length (cat_split l y)
  rw [List.length_append] at this
  omega
theorem Inv.bounds {b:List Int} {n:Int} {l:List (List Int)} {y:Nat} (h:Inv b n l y):b.length ≤ 1000000 ∧ 0 ≤ n ∧ n ≤ (b.length:Int):=by
  have h1:=h.len
  have h2:=cat_le l y
  have h3:=h.syn
  have h4:=congrArg List.length h.cat
  exact ⟨by omega,by omega,by omega⟩
theorem Inv.take {b:List Int} {n:Int} {l:List (List Int)} {y:Nat} (h:Inv b n l y):b.take n.toNat = catF (l.take y):=by
  rw [h.syn,Int.toNat_natCast]
  exact take_pre (h.cat.trans (cat_split l y))
theorem nw_cat {l:List (List Int)} (hs:smallF l) (hl:(catF l).length ≤ 65536):nwB (catF l) = catF l ∧ scanN ((catF l).take 65536) = ((catF l).length:Int):=by
  have e:(catF l).take 65536 = catF l:=List.take_of_length_le hl
  have e2:scanN (catF l) = ((catF l).length:Int):=by unfold scanN; rw [scan_cat hs]
  unfold nwB
  rw [e,e2,Int.toNat_natCast,List.take_of_length_le (Nat.le_refl _)]
  exact ⟨rfl,rfl⟩
theorem Inv.anew {b:List Int} {n:Int} {l:List (List Int)} {y:Nat} (h:Inv b n l y):Inv (nwB (b.take n.toNat)) (scanN ((b.take n.toNat).take 65536)) (l.take y) y:=by
  rw [h.take]
  have hs:smallF (l.take y):=fun x hx=>h.small x (List.mem_of_mem_take hx)
  have hl:(catF (l.take y)).length ≤ 65536:=by have:=cat_le l y; have:=h.len; rw [h.cat] at this; omega
  obtain ⟨e1,e2⟩:=nw_cat hs hl
  rw [e1,e2]
  have hly:(l.take y).length = y:=by rw [List.length_take]; have:=h.le; omega
  exact ⟨rfl,hs,hl,by omega,by rw [List.take_take,Nat.min_self]⟩
theorem crash_l {l:List (List Int)} (hs:smallF l) {y:Nat} (hy:y ≤ l.length) (k:Int):scanL (crT (catF l) ((catF (l.take y)).length:Int) k) = l.take (y + wholeF (l.drop y) k.toNat):=by
  have hsa:smallF (l.take y):=fun x hx=>hs x (List.mem_of_mem_take hx)
  have hsb:smallF (l.drop y):=fun x hx=>hs x (List.mem_of_mem_drop hx)
  have ht:crT (catF l) ((catF (l.take y)).length:Int) k = catF (l.take y) ++ (catF (l.drop y)).take k.toNat:=by
    unfold crT crN
    have hlen:(catF l).length = (catF (l.take y)).length + (catF (l.drop y)).length:=by rw [cat_split l y,List.length_append]
    have e:(((catF (l.take y)).length:Int) + min (max k 0) (((catF l).length:Int) - ((catF (l.take y)).length:Int))).toNat = (catF (l.take y)).length + min k.toNat (catF (l.drop y)).length:=by omega
    rw [e]
    conv=>lhs; rw [cat_split l y]
    rw [List.take_length_add_append]
    congr 1
    rcases Nat.le_total k.toNat (catF (l.drop y)).length with h | h
    · rw [Nat.min_eq_left h]
    · rw [Nat.min_eq_right h,List.take_of_length_le (Nat.le_refl _),List.take_of_length_le h]
  rw [ht,scan_app hsa (take_bytes (catF_bytes hsb) _),scan_whole _ _ hsb,List.take_add]
theorem Inv.crash {b:List Int} {n:Int} {l:List (List Int)} {y:Nat} (h:Inv b n l y) (k:Int):Inv (crB b n k) (scanN (crT b n k)) (l.take (dcN l (y:Int) k)) (dcN l (y:Int) k):=by
  have hN:dcN l (y:Int) k = y + wholeF (l.drop y) k.toNat:=by unfold dcN; rw [Int.toNat_natCast]
  have hw:=wholeF_le (l.drop y) k.toNat
  rw [List.length_drop] at hw
  have hle:=h.le
  have hc:=h.cat
  have hn:=h.syn
  subst hc hn
  have e:=crash_l h.small h.le k
  unfold crB scanN
  rw [e,← hN,Int.toNat_natCast,take_pre (cat_split l (dcN l (y:Int) k))]
  have hln:(l.take (dcN l (y:Int) k)).length = dcN l (y:Int) k:=by rw [List.length_take]; omega
  refine ⟨rfl,fun x hx=>h.small x (List.mem_of_mem_take hx),?_,by omega,by rw [List.take_take,Nat.min_self]⟩
  have:=cat_le l (dcN l (y:Int) k)
  have:=h.len
  omega
theorem Inv.app {b:List Int} {n:Int} {l:List (List Int)} {y:Nat} (h:Inv b n l y) {x:List Int} {o:Bool} (hx:isBytes x) (ha:appOK b x o = true):Inv (b ++ frB x) n (l ++ [x]) y:=by
  unfold appOK at ha
  simp only [Bool.and_eq_true,decide_eq_true_eq] at ha
  refine ⟨by rw [catF_app,h.cat]; simp [catF],fun z hz=>?_,by rw [List.length_append]; exact ha.2.2,by have:=h.le; rw [List.length_append]; omega,by rw [List.take_append_of_le_length h.le]; exact h.syn⟩
  rcases List.mem_append.1 hz with hz | hz
  · exact h.small z hz
  · rw [List.mem_singleton.1 hz]; exact ⟨ha.2.1,hx⟩
theorem Inv.sync {b:List Int} {n:Int} {l:List (List Int)} {y:Nat} (h:Inv b n l y):Inv b (b.length:Int) l l.length :=
  ⟨h.cat,h.small,h.len,Nat.le_refl _,by rw [List.take_of_length_le (Nat.le_refl _),← h.cat]⟩
theorem Inv.new {b:List Int} (hb:isBytes b):Inv (nwB b) (scanN (b.take 65536)) (scanL (b.take 65536)) (scanL (b.take 65536)).length:=by
  have hbt:=take_bytes hb 65536
  have hn:nwB b = catF (scanL (b.take 65536)):=by unfold nwB; exact scan_take hbt
  have hlt:(b.take 65536).length ≤ 65536:=by rw [List.length_take]; omega
  have hN:=scanN_le hbt
  refine ⟨hn,scan_small _ _ (Nat.le_refl _) hbt,?_,Nat.le_refl _,by rw [List.take_of_length_le (Nat.le_refl _)]; rfl⟩
  rw [hn]
  unfold scanN at hN
  omega
theorem Inv.frames {b:List Int} {n:Int} {l:List (List Int)} {y:Nat} (h:Inv b n l y):scanL b = l:=by rw [h.cat]; exact scan_cat h.small
end Go.Crc
namespace Go.Crc
open Go.Vm Go.Pack Go.Rec Go.RowKit
structure RpS where
  id:Int
  te:Int
  l:List En
  se:Bool
  b:List Int
  n:Int
  o:Bool
def clGo (z:RpS):Bool:=!z.se && appOK z.b [0] z.o
def clZ (z:RpS):RpS:=bif clGo z then { z with b:=z.b ++ frB [0],se:=true } else z
def csR (z:RpS) (k:Int):RpS:={ z with l:=(rpR (scanL (crB z.b z.n k)) [] false).1,se:=(rpR (scanL (crB z.b z.n k)) [] false).2.1,b:=crB z.b z.n k,n:=scanN (crT z.b z.n k),o:=false }
structure RpInv (z:RpS) (F:List (List Int)) (y:Nat):Prop where
  st:Inv z.b z.n F y
  rd:rpR F [] false = (z.l,z.se,true)
theorem RpInv.chn {z:RpS} {F:List (List Int)} {y:Nat} (h:RpInv z F y):Chn z.l:=by
  have:=rpR_chn F (L:=[]) false chn_nil
  rw [h.rd] at this
  exact this
def goodR (z:RpS):Bool:=decide (z.l.length ≤ 20000) && (decide (z.b.length ≤ 65536) && (decide (0 ≤ z.n) && (decide (z.n ≤ (z.b.length:Int)) && decide (chP 0 [] z.l = z.l.length))))
theorem goodR_iff {z:RpS}:goodR z = true ↔ z.l.length ≤ 20000 ∧ z.b.length ≤ 65536 ∧ 0 ≤ z.n ∧ z.n ≤ (z.b.length:Int) ∧ Chn z.l:=by
  unfold goodR
  simp only [Bool.and_eq_true,decide_eq_true_eq,Chn]
theorem RpInv.good {z:RpS} {F:List (List Int)} {y:Nat} (h:RpInv z F y):goodR z = true:=by
  have h1:=rpR_len F [] false
  rw [h.rd] at h1
  simp only [List.length_nil] at h1
  have h2:=catF_count F
  have h3:=congrArg List.length h.st.cat
  obtain ⟨k1,k2,k3⟩:=h.st.bounds
  have k4:=h.st.len
  exact goodR_iff.2 ⟨by omega,k4,k2,k3,h.chn⟩
theorem RpInv.cl {z:RpS} {F:List (List Int)} {y:Nat} (h:RpInv z F y) (hg:clGo z = true):RpInv (clZ z) (F ++ [[0]]) y:=by
  have hg':=hg
  unfold clGo at hg
  simp only [Bool.and_eq_true,Bool.not_eq_true'] at hg
  have hr:=h.rd
  rw [hg.1] at hr
  unfold clZ
  rw [hg']
  exact ⟨h.st.app (fun x hx=>by simp at hx; omega) hg.2,rpR_seal hr⟩
theorem RpInv.cs {z:RpS} {F:List (List Int)} {y:Nat} (h:RpInv z F y) (k:Int):RpInv (csR z k) (F.take (dcN F (y:Int) k)) (dcN F (y:Int) k):=by
  have hc:=h.st.crash k
  refine ⟨hc,?_⟩
  have hf:=hc.frames
  have ht:=rpR_take (L:=[]) (s:=false) (by rw [h.rd]) (dcN F (y:Int) k) (F:=F)
  unfold csR
  simp only
  rw [hf]
  exact Prod.ext rfl (Prod.ext rfl ht)
theorem RpInv.off {z:RpS} {F:List (List Int)} {y:Nat} (h:RpInv z F y) (is:Bool):RpInv { z with o:=is } F y:=⟨h.st,h.rd⟩
end Go.Crc
