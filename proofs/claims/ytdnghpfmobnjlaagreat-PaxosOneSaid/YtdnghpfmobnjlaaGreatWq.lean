/- Contracts of functions of this program. Conditions: none. -/
import Derived.Test.YtdnghpfmobnjlaaGreatWo
set_option linter.unusedVariables false
set_option linter.unusedSimpArgs false
set_option maxRecDepth 100000
namespace Go.Crc
open Go.Vm Go.Pack Go.Rec Go.RowKit
theorem own_tail {e:Env} {p:Option Pl} {q:Option (Nat → Pl)} {T:Ty} {xs:List T.interp} {ad:Option Addr} {len cap l:Nat} (h:VR e p q (.slice T xs .own) (.slice ad len cap)) (hl:l ≤ len):VR e p q (.slice T (xs.drop l) .own) (Go.sliced ad l len cap T.size):=by
  simp only [VR] at h ⊢
  obtain ⟨hS,hL⟩:=h
  have hS2:=hS
  obtain ⟨a',len',cap',e1,g1,g2,g3,g4,g5⟩:=hS2
  cases e1
  refine ⟨?_,?_⟩
  · have:=hS.sliced (l:=l) (h:=len) (m:=cap) hl (Nat.le_refl _) g2 (Nat.le_refl _)
    rwa [show xs.take len = xs from List.take_of_length_le (by omega)] at this
  · rcases hL with ⟨a,n,e1⟩ | ⟨b,off,len',cap',n,pl,e1,e2,e3,e4,e5⟩
    · cases e1
      exact .inl ⟨_,_,rfl⟩
    · cases e1
      by_cases hc:cap = l
      · subst hc
        have:len = cap:=by omega
        subst this
        exact .inl ⟨_,_,rfl⟩
      · right
        unfold Go.sliced
        rw [if_neg hc]
        have hk:=Nat.sub_mul cap l T.size
        have hk2:=Nat.sub_mul len l T.size
        have m1:=Nat.mul_le_mul_right T.size (show l ≤ len from hl)
        have m2:=Nat.mul_le_mul_right T.size (show l ≤ cap by omega)
        refine ⟨b,off + l * T.size,len - l,cap - l,n,pl,by simp [Addr.add_eq],e2,e3,by omega,fun o ho=>e5 o (by omega)⟩
theorem field_run {t ft:TypeId} {f off b q:Nat} {w:World} (hf:fieldOff PR t f = some (off,ft)) (hz:Nat.blt 0 (sizeB PR ft) = true):(Instr.fieldAt t (.pointer (some ⟨b,q,none⟩)) f).run PR w = .ok (.pointer (some ⟨b,q + off,none⟩)) w:=by
  have hz':0 < sizeB PR ft:=(blt_iff _ _).1 hz
  have hinfo:∃ i,PR.info? ft = some i ∧ i.size ≠ 0:=by
    unfold sizeB at hz'
    cases hi:PR.info? ft with
    | none=>rw [hi] at hz'; simp at hz'
    | some i=>rw [hi] at hz'; exact ⟨i,rfl,by simp only at hz'; omega⟩
  obtain ⟨i0,hi0,hi1⟩:=hinfo
  unfold fieldOff at hf
  split at hf
  · rename_i fs hfs
    split at hf
    · rename_i fd hfd
      obtain ⟨hok,hf⟩:=cond_none hf
      cases hf
      rw [nth_eq] at hfd
      have hfd':fs[f]? = some fd:=by simpa using hfd
      simp only [Instr.fieldAt,Sem.run_bind,run_underlying hfs,Result.andThen_ok,hfd',Instr.sureAddr,Sem.run_pure,fieldPlace,sizeOf,typeInfo,run_program,hi0,if_neg hi1,Addr.add_eq]
    · cases hf
  · cases hf
noncomputable def ops10:Array Oper:=regAtP PR n_law_PaxosOne 256410
abbrev sh10L:Array (Op × Nat × Option Nat × Option (Nat × Bool)):=#[(.move (.tmp 3),22,some 42,none),(.move (.tmp 3),22,some 43,none),(.nilCheck (.tmp 43),0,some 44,none),(.fieldAddr 34 (.tmp 44) 2,0,some 45,none),(.load 27 (.tmp 45),27,some 46,none),(.move (.tmp 3),22,some 47,none),(.nilCheck (.tmp 47),0,some 48,none),(.fieldAddr 34 (.tmp 48) 2,0,some 49,none),(.load 27 (.tmp 49),27,some 50,none),(.call ⟨.builtin .len,#[.tmp 50],#[27]⟩,3,some 51,none),(.binOp .sub 3 (.tmp 51) (.const (.int .i64 300)) 3,3,some 52,none),(.slice 27 (.tmp 46) (some (.tmp 52)) none none,27,some 53,none),(.nilCheck (.tmp 42),0,some 54,none),(.fieldAddr 34 (.tmp 54) 2,0,some 55,none),(.store 27 (.tmp 55) (.tmp 53),0,none,none)]
theorem sh10:ops10.map (fun o=>(o.op,o.type,o.dst,o.guard)) = sh10L:=by kernel_rfl
theorem dr10:drawB PR ops10.toList = true:=by kernel_rfl
theorem mu10:mustAll ops10 14 = true:=by kernel_rfl
theorem ob10:opsB (ntm PR n_law_PaxosOne) ops10.toList = true:=by kernel_rfl
theorem sz10:ops10.size = 15:=by
  have:=congrArg Array.size sh10
  simpa using this
theorem op10 {i:Nat} {o:Oper} (h:ops10[i]? = some o):sh10L[i]? = some (o.op,o.type,o.dst,o.guard):=by
  have:=congrArg (fun z:Array (Op × TypeId × Option Tmp × Option (Nat × Bool))=>z[i]?) sh10
  simp only [Array.getElem?_map,h,Option.map_some] at this
  exact this.symm
theorem m10:(mustB ops10 2 1 = true ∧ mustB ops10 3 2 = true ∧ mustB ops10 4 3 = true ∧ mustB ops10 6 5 = true) ∧ (mustB ops10 7 6 = true ∧ mustB ops10 8 7 = true ∧ mustB ops10 9 8 = true ∧ mustB ops10 10 9 = true) ∧ (mustB ops10 11 4 = true ∧ mustB ops10 11 10 = true ∧ mustB ops10 12 0 = true ∧ mustB ops10 13 12 = true) :=
  ⟨⟨by kernel_rfl,by kernel_rfl,by kernel_rfl,by kernel_rfl⟩,⟨by kernel_rfl,by kernel_rfl,by kernel_rfl,by kernel_rfl⟩,⟨by kernel_rfl,by kernel_rfl,by kernel_rfl,by kernel_rfl⟩⟩
theorem t27:PR.underlying 27 = some (.slice 48):=by kernel_rfl
theorem s48:sizeB PR 48 = MsT.size:=by kernel_rfl
theorem ok48:okT PR 48 = true:=by kernel_rfl
theorem ok27:okT PR 27 = true:=by kernel_rfl
theorem f34:fieldOff PR 34 2 = some (2,27):=by kernel_rfl
theorem z27:Nat.blt 0 (sizeB PR 27) = true:=by kernel_rfl
theorem d10_dst {i:Nat} {o:Oper} (hi:i < 14) (ho:ops10[i]? = some o):o.guard = none ∧ o.dst = some (42 + i):=by
  have h:=op10 ho
  cases o
  match i,hi with
  | 0,_ | 1,_ | 2,_ | 3,_ | 4,_ | 5,_ | 6,_ | 7,_ | 8,_ | 9,_ | 10,_ | 11,_ | 12,_ | 13,_=>cases h; exact ⟨rfl,rfl⟩
def V10 (b:Nat) (base:Option Addr) (len cap:Nat):Nat → Value
  | 3=>.pointer (some ⟨b,0 + 2,none⟩)
  | 4=>.slice base len cap
  | 7=>.pointer (some ⟨b,0 + 2,none⟩)
  | 8=>.slice base len cap
  | 9=>goInt len
  | 10=>.int .i64 (IntKind.i64.wrap ((len:Int) - 300))
  | 11=>Go.sliced base (len - 300) len cap MsT.size
  | 13=>.pointer (some ⟨b,0 + 2,none⟩)
  | _=>.pointer (some ⟨b,0,none⟩)
theorem at_new10 {V:Nat → Value} {a a':Act} {D:List Nat} (hA:AtD ops10 V a D a') {i:Nat} (hi:i ∈ D) (h7:i < 14):Act.at a' (42 + i) = V i :=
  have h9:i < ops10.size:=by rw [sz10]; omega
  hA.new i hi _ _ (Array.getElem?_eq_getElem h9) (d10_dst h7 (Array.getElem?_eq_getElem h9)).2
theorem at_old10 {V:Nat → Value} {a a':Act} {D:List Nat} (hA:AtD ops10 V a D a') (hD:∀ i ∈ D,i < 14) {t:Nat} (ht:t < 42):Act.at a' t = Act.at a t :=
  hA.old t fun i hi o ho=>by rw [(d10_dst (hD i hi) ho).2]; intro e; have:=Option.some.inj e; omega
end Go.Crc
namespace Go.Crc
open Go.Vm Go.Pack Go.Rec Go.RowKit
set_option maxHeartbeats 1000000 in
theorem step10 {a a':Act} {w:World} {base:Option Addr} {len cap b:Nat} {D:List Nat} {i:Nat} {o:Oper}
    (h3:Act.at a 3 = .pointer (some ⟨b,0,none⟩)) (hload:(loadVar 27 ⟨b,0 + 2,none⟩).run PR w = .ok (.slice base len cap) w) (hle:len ≤ cap) (h300:300 < len) (hmax:cap ≤ maxInt)
    (hi:i < 14) (ho:ops10[i]? = some o) (hD:∀ j ∈ D,j < 14) (hdep:∀ j,Must ops10 j i → j ∈ D) (hA:AtD ops10 (V10 b base len cap) a D a') :
    (execOp a'.eval o).run PR w = .ok (.value (V10 b base len cap i)) w:=by
  have h:=op10 ho
  have hs3:Act.at a' 3 = _:=(at_old10 hA hD (by decide)).trans h3
  match i,hi with
  | 0,_ =>
    cases o with
    | mk dst op ty pos after guard =>
    cases h
    have e:∀ (z:Act) (pos:String) (after:Array Edge),(execOp z.eval { dst:=some 42,op:=.move (.tmp 3),type:=22,pos:=pos,after:=after,guard:=none }).run PR w = .ok (.value (Act.at z 3)) w:=fun z pos after=>rfl
    rw [e,hs3]; rfl
  | 1,_ =>
    cases o with
    | mk dst op ty pos after guard =>
    cases h
    have e:∀ (z:Act) (pos:String) (after:Array Edge),(execOp z.eval { dst:=some 43,op:=.move (.tmp 3),type:=22,pos:=pos,after:=after,guard:=none }).run PR w = .ok (.value (Act.at z 3)) w:=fun z pos after=>rfl
    rw [e,hs3]; rfl
  | 2,_ =>
    have hs:Act.at a' 43 = .pointer (some ⟨b,0,none⟩):=at_new10 hA (hdep 1 (must_of m10.1.1)) (by decide)
    cases o with
    | mk dst op ty pos after guard =>
    cases h
    unfold execOp
    simp only [show a'.eval (.tmp 43) = .pointer (some ⟨b,0,none⟩) from hs]
    rfl
  | 3,_ =>
    have hs:Act.at a' 44 = .pointer (some ⟨b,0,none⟩):=at_new10 hA (hdep 2 (must_of m10.1.2.1)) (by decide)
    cases o with
    | mk dst op ty pos after guard =>
    cases h
    refine exec_v (S:=Instr.fieldAt 34 (a'.eval (.tmp 44)) 2) rfl ?_
    rw [show a'.eval (.tmp 44) = .pointer (some ⟨b,0,none⟩) from hs]
    exact field_run f34 z27
  | 4,_ =>
    have hs:Act.at a' 45 = .pointer (some ⟨b,0 + 2,none⟩):=at_new10 hA (hdep 3 (must_of m10.1.2.2.1)) (by decide)
    cases o with
    | mk dst op ty pos after guard =>
    cases h
    exact exec_load (x:=.tmp 45) rfl (show a'.eval (.tmp 45) = _ from hs) hload
  | 5,_ =>
    cases o with
    | mk dst op ty pos after guard =>
    cases h
    have e:∀ (z:Act) (pos:String) (after:Array Edge),(execOp z.eval { dst:=some 47,op:=.move (.tmp 3),type:=22,pos:=pos,after:=after,guard:=none }).run PR w = .ok (.value (Act.at z 3)) w:=fun z pos after=>rfl
    rw [e,hs3]; rfl
  | 6,_ =>
    have hs:Act.at a' 47 = .pointer (some ⟨b,0,none⟩):=at_new10 hA (hdep 5 (must_of m10.1.2.2.2)) (by decide)
    cases o with
    | mk dst op ty pos after guard =>
    cases h
    unfold execOp
    simp only [show a'.eval (.tmp 47) = .pointer (some ⟨b,0,none⟩) from hs]
    rfl
  | 7,_ =>
    have hs:Act.at a' 48 = .pointer (some ⟨b,0,none⟩):=at_new10 hA (hdep 6 (must_of m10.2.1.1)) (by decide)
    cases o with
    | mk dst op ty pos after guard =>
    cases h
    refine exec_v (S:=Instr.fieldAt 34 (a'.eval (.tmp 48)) 2) rfl ?_
    rw [show a'.eval (.tmp 48) = .pointer (some ⟨b,0,none⟩) from hs]
    exact field_run f34 z27
  | 8,_ =>
    have hs:Act.at a' 49 = .pointer (some ⟨b,0 + 2,none⟩):=at_new10 hA (hdep 7 (must_of m10.2.1.2.1)) (by decide)
    cases o with
    | mk dst op ty pos after guard =>
    cases h
    exact exec_load (x:=.tmp 49) rfl (show a'.eval (.tmp 49) = _ from hs) hload
  | 9,_ =>
    have hs:Act.at a' 50 = .slice base len cap:=at_new10 hA (hdep 8 (must_of m10.2.1.2.2.1)) (by decide)
    cases o with
    | mk dst op ty pos after guard =>
    cases h
    refine len_run (x:=.tmp 50) (t:=27) rfl rfl rfl rfl ?_
    show (Builtin.len_ #[27] 3 #[Act.at a' 50]).run PR _ = _
    rw [hs]
    have ht':PR.underlying 27 = some (.slice (PR.elem 27)):=by rw [elem_of t27]; exact t27
    exact run_len_slice (P:=PR) w 27 3 base len cap ht'
  | 10,_ =>
    have hs:Act.at a' 51 = goInt len:=at_new10 hA (hdep 9 (must_of m10.2.1.2.2.2)) (by decide)
    cases o with
    | mk dst op ty pos after guard =>
    cases h
    have e:∀ (z:Act) (n:Int) (pos:String) (after:Array Edge),Act.at z 51 = .int .i64 n → (execOp z.eval { dst:=some 52,op:=.binOp .sub 3 (.tmp 51) (.const (.int .i64 300)) 3,type:=3,pos:=pos,after:=after,guard:=none }).run PR w = .ok (.value (.int .i64 (IntKind.i64.wrap (n - 300)))) w:=fun z n pos after hz=>by
      unfold execOp
      simp only [show z.eval (.tmp 51) = .int .i64 n from hz]
      rfl
    exact e a' (len:Int) _ _ hs
  | 11,_ =>
    have hs:Act.at a' 46 = .slice base len cap:=at_new10 hA (hdep 4 (must_of m10.2.2.1)) (by decide)
    have hs2:Act.at a' 52 = .int .i64 (IntKind.i64.wrap ((len:Int) - 300)):=at_new10 hA (hdep 10 (must_of m10.2.2.2.1)) (by decide)
    have hwr:IntKind.i64.wrap ((len:Int) - 300) = ((len - 300:Nat):Int):=by
      simp only [maxInt] at hmax
      rw [wrap_i64 (by omega) (by omega)]; omega
    cases o with
    | mk dst op ty pos after guard =>
    cases h
    refine exec_v (S:=Instr.sliceAt 27 (a'.eval (.tmp 46)) (some (a'.eval (.tmp 52))) none none) rfl ?_
    have ht':PR.underlying 27 = some (.slice (PR.elem 27)):=by rw [elem_of t27]; exact t27
    obtain ⟨dd,hd48⟩:=okT_iff ok48
    have hso:(sizeOf (PR.elem 27)).run PR w = .ok MsT.size w:=by rw [elem_of t27,← s48]; exact sizeOf_run w hd48
    rw [show a'.eval (.tmp 46) = .slice base len cap from hs,show a'.eval (.tmp 52) = .int .i64 (IntKind.i64.wrap ((len:Int) - 300)) from hs2,hwr,run_sliceAt_slice (P:=PR) w 27 _ _ _ _ ht',run_slice_l (P:=PR) w 27 base len cap ht' .i64 ((len - 300:Nat):Int) (by omega) (by omega),hso]
    rfl
  | 12,_ =>
    have hs:Act.at a' 42 = .pointer (some ⟨b,0,none⟩):=at_new10 hA (hdep 0 (must_of m10.2.2.2.2.1)) (by decide)
    cases o with
    | mk dst op ty pos after guard =>
    cases h
    unfold execOp
    simp only [show a'.eval (.tmp 42) = .pointer (some ⟨b,0,none⟩) from hs]
    rfl
  | 13,_ =>
    have hs:Act.at a' 54 = .pointer (some ⟨b,0,none⟩):=at_new10 hA (hdep 12 (must_of m10.2.2.2.2.2)) (by decide)
    cases o with
    | mk dst op ty pos after guard =>
    cases h
    refine exec_v (S:=Instr.fieldAt 34 (a'.eval (.tmp 54)) 2) rfl ?_
    rw [show a'.eval (.tmp 54) = .pointer (some ⟨b,0,none⟩) from hs]
    exact field_run f34 z27
end Go.Crc
namespace Go.Crc
open Go.Vm Go.Pack Go.Rec Go.RowKit
abbrev d10:List Nat:=[42,43,44,45,46,47,48,49,50,51,52,53,54,55]
abbrev wayO (ra rp:List AV) (la lp:Lv) (l:List MsI) (lv:Lv):Ob:=.cells [.row ra la,.row rp lp,.slice MsT l lv]
abbrev fr10 (fr:Fr) (l:List MsI):Fr:=fun t=>bif Nat.beq t 46 then .slice MsT l .view else bif Nat.beq t 55 then .ptr 0 0 2 else hidL d10 fr t
abbrev als10:Als:=fun t=>bif Nat.beq t 46 then some (.cell 0 0 2) else none
abbrev rs10 (fr:Fr) (l:List MsI) (H:Stack):RS:=⟨fr10 fr l,als10,H,[],noLds⟩
theorem tk10 (fr:Fr) (l:List MsI) (ra rp:List AV) (la lp:Lv) (os:List Ob) (S:Stack):tk PR (rs10 fr l ((wayO ra rp la lp l .own :: os) :: S)) 27 (.tmp 46) = (.slice MsT l .own,rs10 fr l ((wayO ra rp la lp l .view :: os) :: S)):=by kernel_rfl
abbrev rs10b (fr:Fr) (l l2:List MsI) (H:Stack):RS:=⟨upd (fr10 fr l) 53 (.slice MsT l2 .own),setAl 53 none als10,H,[],noLds⟩
theorem st10 (fr:Fr) (l l2:List MsI) (ra rp:List AV) (la lp:Lv) (os:List Ob) (S:Stack):Vm.steps PR (cfE EOn) (cfgN ops10.toList cfgPx) true ops10.toList [14] (rs10b fr l l2 ((wayO ra rp la lp l .view :: os) :: S)) =
    some ⟨upd (upd (fr10 fr l) 53 (.slice MsT l2 .own)) 53 (.slice MsT l2 .view),killOb 0 0 (setAl 53 none als10),(wayO ra rp la lp l2 .own :: os) :: S,[(0,0)],noLds⟩:=by kernel_rfl
def E10:Hook (Option (List Cf)):=fun fr H wr γ k=>match fr 3,H with
  | .ptr 0 0 0,(.cells [.row ra la,.row rp lp,.slice (.pair (.int .i64) (.pair (.int .i64) (.pair (.int .i64) (.pair (.int .i64) (.pair (.int .i64) (.pair (.int .i64) (.pair .bool (.pair (.pair (.pair (.int .i64) (.int .i64)) (.pair (.slice (.int .i64)) .str)) (.pair (.pair (.int .i64) (.pair (.int .i64) (.pair (.slice (.int .i64)) (.pair (.int .i64) (.pair (.int .i64) (.int .i64)))))) (.pair (.int .i64) (.pair (.int .i64) (.pair (.int .i64) (.pair (.slice (.int .i64)) (.slice (.slice (.int .i64)))))))))))))))) l .own] :: os) :: S=>bif decide (300 < l.length) then k .normal (hidL d10 fr) ((wayO ra rp la lp (l.drop (l.length - 300)) .own :: os) :: S) ((0,0) :: wr) γ else none
  | _,_=>none
theorem put_self {a:Act} {d:Nat} {v:Value} (h:Act.at a d = v) (hd:d < a.tmps.size):a.put (some d) v = a:=by
  unfold Act.put
  simp only
  have:a.tmps.setIfInBounds d v = a.tmps:=by
    apply Array.ext
    · simp
    · intro i h1 h2
      rw [Array.getElem_setIfInBounds]
      split
      · rename_i hid
        subst hid
        rw [← h]
        unfold Act.at
        rw [Array.getD_eq_getD_getElem?,Array.getElem?_eq_getElem h2]
        rfl
      · rfl
  rw [this]
theorem load10 {e:Env} {fr:Fr} {a:Act} {w:World} {n:Nat} {ra rp:List AV} {la lp:Lv} {l:List MsI} {os:List Ob} {S:Stack} (hC:CR n A e fr ((wayO ra rp la lp l .own :: os) :: S) a w) (h3n:3 < n) (hfr:fr 3 = .ptr 0 0 0) (w':World) (hw:w'.heap = w.heap) :
    ∃ b base len cap,Act.at a 3 = .pointer (some ⟨b,0,none⟩) ∧ rhoAt e.rho 0 0 = some b ∧ w'.cell? ⟨b,2,none⟩ = some (.slice base len cap) ∧ (loadVar 27 ⟨b,0 + 2,none⟩).run PR w' = .ok (.slice base len cap) w' ∧ l.length = len ∧ len ≤ cap ∧ cap ≤ maxInt ∧ VR e none none (.slice MsT l .view) (.slice base len cap):=by
  have h3:=hC.fr.val 3 h3n
  rw [hfr] at h3
  simp only [VR] at h3
  obtain ⟨b,hb,hv3⟩:=h3
  rw [pval_lt rfl] at hv3
  obtain ⟨b',hb',c,ty,fz,h1,h2,h3',h4,h5⟩:=hC.hr.ob 0 0 _ rfl
  rw [hb] at hb'; cases hb'
  obtain ⟨dd,hd27⟩:=okT_iff ok27
  have h1':w'.heap[b]? = some (.cells c ty fz):=by rw [hw]; exact h1
  obtain ⟨u,hr,hcase⟩:=loadVar_sim (P:=PR) (b:=b) (off0:=0) (off:=2) (us:=c.toList) (t:=27) (v:=.slice MsT l .own) w' hd27 (by kernel_rfl) h4 (fun i u hu=>cell_of_cells h1' i u hu)
  have hag:isAggB PR 27 = false:=by kernel_rfl
  rcases hcase with ⟨hno,_⟩ | ⟨_,_,hu⟩
  · rw [hag] at hno; cases hno
  · have hvr:=h5 2 _ u rfl hu
    rw [show e.dr 0 = e by simp [Env.dr]] at hvr
    simp only [VR] at hvr
    obtain ⟨hS,_⟩:=hvr
    have hS2:=hS
    obtain ⟨base,len,cap,rfl,g1,g2,g3,g4,g5⟩:=hS2
    refine ⟨b,base,len,cap,hv3,hb,?_,hr,g1,g2,g3,?_⟩
    · have:=cell_of_cells h1' 2 _ hu
      exact this
    · simp only [VR]; exact ⟨hS,trivial⟩
end Go.Crc
namespace Go.Crc
open Go.Vm Go.Pack Go.Rec Go.RowKit
theorem d10_mem {t:Nat} (h:memN t d10 = false):t < 42 ∨ 55 < t:=by
  rcases Nat.lt_or_ge t 42 with h1 | h1
  · exact .inl h1
  · rcases Nat.lt_or_ge 55 t with h2 | h2
    · exact .inr h2
    · exfalso
      have h7:t = 42 ∨ t = 43 ∨ t = 44 ∨ t = 45 ∨ t = 46 ∨ t = 47 ∨ t = 48 ∨ t = 49 ∨ t = 50 ∨ t = 51 ∨ t = 52 ∨ t = 53 ∨ t = 54 ∨ t = 55:=by omega
      rcases h7 with rfl | rfl | rfl | rfl | rfl | rfl | rfl | rfl | rfl | rfl | rfl | rfl | rfl | rfl <;> cases h
theorem dst10:mapN (·.dst) ops10.toList = [some 42,some 43,some 44,some 45,some 46,some 47,some 48,some 49,some 50,some 51,some 52,some 53,some 54,some 55,none]:=by kernel_rfl
theorem keep10 {t:Nat} (h:memN t d10 = false):∀ o ∈ ops10.toList,o.dst ≠ some t:=fun o ho e=>by
  have hm:some t ∈ mapN (·.dst) ops10.toList:=by
    rw [mapN_eq,List.mem_map]; exact ⟨o,ho,e⟩
  rw [dst10] at hm
  have:t ∈ d10:=by simpa using hm
  rw [(memN_iff t d10).2 this] at h; cases h
set_option maxHeartbeats 4000000 in
theorem end10 {e0:Env} {a0:Act} {w0:World} {fr:Fr} {ra rp:List AV} {la lp:Lv} {l:List MsI} {os:List Ob} {S:Stack} {γ:Option (List Cf)} {e:Env} {a a':Act} {wd:World} {b:Nat} {base:Option Addr} {cap:Nat} {D:List Nat}
    (hCd:CR (ntm PR n_law_PaxosOne) A e fr ((wayO ra rp la lp l .own :: os) :: S) a wd) (hG:GL e0 w0 e wd) (hK:Kept K0 a0 w0 e a wd) (hR:GRc w0.heap.size γ e a wd) (hb:rhoAt e.rho 0 0 = some b) (hcell:wd.cell? ⟨b,2,none⟩ = some (.slice base l.length cap)) (hle:l.length ≤ cap) (h300:300 < l.length)
    (hvr:VR e none none (.slice MsT l .view) (.slice base l.length cap)) (hall:∀ i,i ∈ D ↔ i < 14) (hA:AtD ops10 (V10 b base l.length cap) a D a') :
    wpOps PR ops10 (CPostG (GRc w0.heap.size) (ntm PR n_law_PaxosOne) A e0 a0 w0 .normal (hidL d10 fr) ((wayO ra rp la lp (l.drop (l.length - 300)) .own :: os) :: S) γ) [14] a' wd:=by
  have hD:∀ i ∈ D,i < 14:=fun i hi=>(hall i).1 hi
  have h46:Act.at a' 46 = .slice base l.length cap:=at_new10 hA ((hall 4).2 (by decide)) (by decide)
  have h53:Act.at a' 53 = Go.sliced base (l.length - 300) l.length cap MsT.size:=at_new10 hA ((hall 11).2 (by decide)) (by decide)
  have h55:Act.at a' 55 = .pointer (some ⟨b,0 + 2,none⟩):=at_new10 hA ((hall 13).2 (by decide)) (by decide)
  have hold:∀ t,memN t d10 = false → Act.at a' t = Act.at a t:=fun t ht=>hA.old t fun i hi o ho=>by
    rw [(d10_dst (hD i hi) ho).2]
    intro hh
    have:=Option.some.inj hh
    have:=hD i hi
    have:=d10_mem ht
    omega
  have hsz:a'.tmps.size = 95:=hA.size.trans (hCd.fr.size.trans nt1)
  -- what is known
  have hRR:RR (ntm PR n_law_PaxosOne) A e (rs10 fr l ((wayO ra rp la lp l .own :: os) :: S)) a' wd:=by
    refine ⟨hCd.wok,hCd.hr,⟨hA.size.trans hCd.fr.size,fun t ht=>?_⟩,fun t src ht hs=>?_⟩
    · show VR e _ _ (fr10 fr l t) _
      by_cases t46:t = 46
      · subst t46
        rw [h46]
        exact hvr.weak
      · by_cases t55:t = 55
        · subst t55
          rw [h55]
          show VR e _ _ (.ptr 0 0 2) _
          simp only [VR]
          exact ⟨b,hb,(pval_lt rfl).symm⟩
        · have e1:fr10 fr l t = hidL d10 fr t:=by
            show (bif Nat.beq t 46 then _ else bif Nat.beq t 55 then _ else _) = _
            rw [beq_false.2 t46,beq_false.2 t55]; rfl
          rw [e1]
          unfold hidL
          cases hm:memN t d10 with
          | true=>simp only [cond_true,VR]
          | false =>
            simp only [cond_false]
            rw [hold t hm]
            exact hCd.fr.val t ht
    · have hs2:als10 t = some src:=hs
      by_cases t46:t = 46
      · subst t46
        cases hs2
        exact ⟨b,hb,by rw [h46]; exact hcell⟩
      · have:als10 t = none:=by
          show (bif Nat.beq t 46 then _ else _) = _
          rw [beq_false.2 t46]; rfl
        rw [this] at hs2; cases hs2
  obtain ⟨f,hf,hio,k1,k2,k3,k4⟩:=tk_sim (P:=PR) hRR 0 27 (x:=.tmp 46) (by show 46 < ntm PR n_law_PaxosOne; rw [nt1]; decide)
  rw [tk10] at k1 k2
  have k2':VR (e.ren f) (some (.io 0 0)) (some fun j=>.io 0 (j + 1)) (.slice MsT l .own) (.slice base l.length cap):=by rw [← h46]; exact k2
  have k5:=own_tail k2' (l:=l.length - 300) (by omega)
  have e11:ops10[11]? = some (ops10[11]'(by rw [sz10]; decide)):=Array.getElem?_eq_getElem _
  have hd11:=(d10_dst (by decide) e11).2
  obtain ⟨e2,m1,m2,m3⟩:=k1.putOp (o:=ops10[11]'(by rw [sz10]; decide)) (fun d hd=>by rw [hd11] at hd; cases hd; rw [nt1]; decide) k5 (l:=none) (fun src hs=>(nomatch hs))
  have hact:a'.put (ops10[11]'(by rw [sz10]; decide)).dst (Go.sliced base (l.length - 300) l.length cap MsT.size) = a':=by
    rw [hd11]
    exact put_self h53 (by rw [hsz]; decide)
  rw [hact] at m1
  have hput:Vm.put (ops10[11]'(by rw [sz10]; decide)) (rs10 fr l ((wayO ra rp la lp l .view :: os) :: S)) (.slice MsT (l.drop (l.length - 300)) .own) none = rs10b fr l (l.drop (l.length - 300)) ((wayO ra rp la lp l .view :: os) :: S):=by
    unfold Vm.put
    rw [hd11]
  rw [hput] at m1
  refine steps_sim (cf:=cfE EOn) (cfE_ok EOn) ob10 (K:=fun t=>∀ o ∈ ops10.toList,o.dst ≠ some t) (fun o ho d hd hK=>hK o ho hd) [14] e2 _ a' wd _ m1 (st10 fr l _ ra rp la lp os S) _ fun a3 w3 hP=>?_
  obtain ⟨e3,p1,p2,p3,p4⟩:=hP
  have hgrow:=((Grow.ren (f:=f) hf.hid e wd [(0,0)]).trans (m2.weaken (wr':=[(0,0)]) (fun _ _ h=>by first | rfl | (simp [memWr]))) (fun _ _ _ h=>h) (fun _ _ h=>h)).trans p2 (fun x i b hb=>m3 _ _ _ hb) (fun _ _ h=>h)
  refine ⟨trivial,e3,⟨p1.wok,p1.hr,⟨p1.fr.size,fun z hz=>?_⟩⟩,hG.grow hgrow.one,⟨fun _ hh=>hh.elim,?_⟩,?_⟩
  · unfold hidL
    cases hm:memN z d10 with
    | true=>simp only [cond_true,VR]
    | false =>
      simp only [cond_false]
      have:=p1.fr.val z hz
      have hz2:=d10_mem hm
      have e1:upd (upd (fr10 fr l) 53 (.slice MsT (l.drop (l.length - 300)) .own)) 53 (.slice MsT (l.drop (l.length - 300)) .view) z = fr z:=by
        rw [upd_ne _ _ (by omega),upd_ne _ _ (by omega)]
        show (bif Nat.beq z 46 then _ else bif Nat.beq z 55 then _ else hidL d10 fr z) = _
        rw [beq_false.2 (by omega),beq_false.2 (by omega)]
        unfold hidL
        rw [hm]; rfl
      have e2:(⟨upd (upd (fr10 fr l) 53 (.slice MsT (l.drop (l.length - 300)) .own)) 53 (.slice MsT (l.drop (l.length - 300)) .view),killOb 0 0 (setAl 53 none als10),(wayO ra rp la lp (l.drop (l.length - 300)) .own :: os) :: S,[(0,0)],noLds⟩:RS).fr z = fr z:=e1
      rw [e2] at this
      exact this
  · obtain ⟨ms,q1,q2,q3⟩:=hK.marks
    refine ⟨ms,(p4.defers.trans hA.defers).trans q1,q2,fun D' hD'=>?_⟩
    obtain ⟨n1,n2,n3⟩:=q3 D' hD'
    obtain ⟨g1,g2,_⟩:=hgrow.stay D' (Array.getElem?_eq_some_iff.1 n2).1 (.inl n3)
    exact ⟨n1,g1.trans n2,g2.trans n3⟩
  · refine grc_stable w0.heap.size γ e a wd e3 a3 w3 _ hR hgrow.one fun t ht=>?_
    have ht:t = 5:=ht
    subst ht
    exact (p4.slot 5 (keep10 rfl)).trans (hold 5 rfl)
end Go.Crc
namespace Go.Crc
open Go.Vm Go.Pack Go.Rec Go.RowKit
theorem gl_drew {e0 e:Env} {w0 w:World} (h:GL e0 w0 e w):GL e0 w0 e { w with drawn:=w.drawn + 1 }:=⟨h.os,h.tape,h.output,h.size,h.blk⟩
theorem grc_drew {m0:Nat} {γ:Option (List Cf)} {e:Env} {a:Act} {w:World} (h:GRc m0 γ e a w):GRc m0 γ e a { w with drawn:=w.drawn + 1 }:=by
  cases γ with
  | none=>trivial
  | some xs=>exact ch_same (w:=w) h fun _ _=>rfl
set_option maxHeartbeats 1000000 in
theorem wp10 {e0:Env} {a0:Act} {w0:World} {fr:Fr} {ra rp:List AV} {la lp:Lv} {l:List MsI} {os:List Ob} {S:Stack} {γ:Option (List Cf)} {e:Env} {a:Act} {w:World} (hfr:fr 3 = .ptr 0 0 0) (h300:300 < l.length)
    (hC:CR (ntm PR n_law_PaxosOne) A e fr ((wayO ra rp la lp l .own :: os) :: S) a w) (hG:GL e0 w0 e w) (hK:Kept K0 a0 w0 e a w) (hR:GRc w0.heap.size γ e a w) (tt:Nat) :
    wpOps PR ops10 (CPostG (GRc w0.heap.size) (ntm PR n_law_PaxosOne) A e0 a0 w0 .normal (hidL d10 fr) ((wayO ra rp la lp (l.drop (l.length - 300)) .own :: os) :: S) γ) (Region.schedule (PR.follows .mixedOrders) ops10 tt) a { w with drawn:=w.drawn + 1 }:=by
  obtain ⟨b,base,len,cap,h3,hb,hcell,hload,hlen,hle,hmax,hvr⟩:=load10 hC (by rw [nt1]; decide) hfr { w with drawn:=w.drawn + 1 } rfl
  subst hlen
  have hasz:a.tmps.size = 95:=hC.fr.size.trans nt1
  have hKd:Kept K0 a0 w0 e a { w with drawn:=w.drawn + 1 }:=⟨hK.slot,hK.marks⟩
  exact wp_front (P:=PR) (ops:=ops10) (a:=a) (V:=V10 b base l.length cap) (W:=fun _=>{ w with drawn:=w.drawn + 1 }) (Q:=CPostG (GRc w0.heap.size) (ntm PR n_law_PaxosOne) A e0 a0 w0 .normal (hidL d10 fr) ((wayO ra rp la lp (l.drop (l.length - 300)) .own :: os) :: S) γ) (m:=14) (N:=15) mix1 (drawB_ok mix1 dr10).back sz10 (by decide)
    (fun q hq hlt i hi=>must_tail mu10 q hq (by rw [sz10]; exact hlt) i hi)
    (fun i hi=>by
      have e1:ops10[i]? = some (ops10[i]'(by rw [sz10]; omega)):=Array.getElem?_eq_getElem (by rw [sz10]; omega)
      obtain ⟨k1,k2⟩:=d10_dst hi e1
      refine ⟨_,42 + i,e1,k1,k2,by rw [hasz]; exact (show (42 + i:Nat) < 95 by omega),fun j' o' hj hji ho'=>?_⟩
      rw [(d10_dst hj ho').2]
      intro hh; have:=Option.some.inj hh; omega)
    (fun D i o hi ho hD hcl hdep hiD a' hA=>step10 h3 hload hle h300 hmax hi ho hD hdep hA)
    (fun D a' hall hA=>end10 hC.drew (gl_drew hG) hKd (grc_drew hR) hb hcell hle h300 hvr hall hA) tt
theorem hook10 (e0:Env) (a0:Act) (w0:World) (id:Nat):BodyG (GRc w0.heap.size) PR (ntm PR n_law_PaxosOne) A e0 a0 w0 (.region id ops10 true) E10:=by
  intro fr H wr γ k r h
  unfold E10 at h
  split at h
  case h_2=>cases h
  rename_i ra la rp lp l os S hfr
  obtain ⟨hc,h⟩:=cond_none h
  have hc:=of_decide_eq_true hc
  exact ⟨.normal,_,_,_,γ,h,fun e a w hC hG hK hR=>wp_region_draw fun tt=>wp10 hfr hc hC hG hK hR tt⟩
end Go.Crc
