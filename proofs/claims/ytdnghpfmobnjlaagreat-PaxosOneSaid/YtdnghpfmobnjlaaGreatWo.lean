/- Contracts of functions of this program. Conditions: none. -/
import Derived.Test.YtdnghpfmobnjlaaGreatWn
import Derived.Test.YtdnghpfmobnjlaaGreatVh
set_option linter.unusedVariables false
set_option linter.unusedSimpArgs false
set_option maxRecDepth 100000
namespace Go.Crc
open Go.Vm Go.Pack Go.Rec Go.RowKit
abbrev CfT:Ty:=.pair (.int .i64) (.pair (.slice (.int .i64)) (.slice (.slice (.int .i64))))
def ChR (m0:Nat) (e:Env) (w:World) (v:Value) (xs:List Cf):Prop :=
  (xs = [] ∧ v = .slice none 0 0) ∨ ∃ B cap c ty,v = .slice (some ⟨B,0,none⟩) xs.length cap ∧ xs.length ≤ cap ∧ cap ≤ maxInt ∧ m0 ≤ B ∧ e.own B = none ∧ (∀ o,e.cl B o = none) ∧ w.heap[B]? = some (.cells c ty (0,0)) ∧ c.size = cap * 3 ∧
    ∀ i x,xs[i]? = some x → ∃ es,DR e.cl CfT x es ∧ ∀ j u,es[j]? = some u → c[i * 3 + j]? = some u
def GRc (m0:Nat) (γ:Option (List Cf)) (e:Env) (a:Act) (w:World):Prop:=match γ with
  | none=>True
  | some xs=>ChR m0 e w (Act.at a 5) xs
abbrev K5:Nat → Prop:=fun t=>t = 5
theorem grc_stable (m0:Nat):Stable K5 (GRc m0):=by
  intro γ e a w e' a' w' wr h g hs
  cases γ with
  | none=>trivial
  | some xs =>
    show ChR m0 e' w' (Act.at a' 5) xs
    rw [hs 5 rfl]
    rcases h with h | ⟨B,cap,c,ty,h1,h2,h3,h4,h5,h6,h7,h8,h9⟩
    · exact .inl h
    · obtain ⟨g1,g2,g3⟩:=g.stay B (Array.getElem?_eq_some_iff.1 h7).1 (.inl h5)
      refine .inr ⟨B,cap,c,ty,h1,h2,h3,h4,g2.trans h5,fun o=>(g3 o).trans (h6 o),g1.trans h7,h8,fun i x hx=>?_⟩
      obtain ⟨es,k1,k2⟩:=h9 i x hx
      exact ⟨es,DR.mono g.cl _ _ _ k1,k2⟩
def regAtP (P:Program) (g p:Nat):Array Oper:=match P.funcs[g]? with
  | some fn=>match fn.body with
    | some c=>go c 1 p
    | none=>#[]
  | none=>#[]
where go:Code → Nat → Nat → Array Oper
  | .region _ ops _,q,p=>bif Nat.beq q p then ops else #[]
  | .seq x y,q,p=>go x (2 * q) p ++ go y (2 * q + 1) p
  | .cond _ x y,q,p=>go x (2 * q) p ++ go y (2 * q + 1) p
  | .block _ c,q,p=>go c (2 * q) p
  | .scope c,q,p=>go c (2 * q) p
  | .loop c,q,p=>go c (2 * q) p
  | _,_,_=>#[]
theorem t59:PR.underlying 59 = some (.slice 46):=by kernel_rfl
theorem z46:zeros PR 46 = some [.int .i64 0,.slice (.int .i64) [] .own,.slice (.slice (.int .i64)) [] .own]:=by kernel_rfl
theorem s46:sizeB PR 46 = 3:=by kernel_rfl
theorem b46:bytesB PR 46 = 56:=by kernel_rfl
theorem ok46:okT PR 46 = true:=by kernel_rfl
theorem i46:∃ i z,PR.info? 46 = some i ∧ i.zero = some z ∧ i.size = 3 ∧ i.bytes = 56 ∧ z.cells.size = 3:=by
  obtain ⟨i,z,h1,h2,h3⟩:=zeros_info z46
  refine ⟨i,z,h1,h2,?_,?_,?_⟩
  · have:=s46; rwa [sizeB_eq h1] at this
  · have:=b46; unfold bytesB at this; rw [h1] at this; exact this
  · have:=constCells_length h3
    simpa using this.symm
theorem ch_append {m0:Nat} {e:Env} {w1:World} {xs:List Cf} {base:Option Addr} {cap g:Nat} {arr:Array Value} {x:Cf} (h:ChR m0 e w1 (.slice base xs.length cap) xs) (hg:w1.heap[g]? = some (.cells arr 46 (0,0))) (hlt:∀ B o,base = some ⟨B,o,none⟩ → B ≠ g)
    (harr:arr.size = 3) (hx:DR e.cl CfT x arr.toList) (hm:m0 ≤ w1.heap.size) (hfresh:∀ b,w1.heap.size ≤ b → e.own b = none ∧ ∀ o,e.cl b o = none) :
    ∃ v w2,(Builtin.append_ #[59,59] 59 #[.slice base (min xs.length 1) cap,.slice (some ⟨g,0,none⟩) 1 1]).run PR w1 = .ok v w2 ∧ ChR m0 e w2 v (xs.take 1 ++ [x]) ∧ w2.os = w1.os ∧ w2.tape = w1.tape ∧ w2.output = w1.output ∧ w1.heap.size ≤ w2.heap.size ∧
      ∀ b,b < w1.heap.size → (∀ o,base ≠ some ⟨b,o,none⟩) → w2.heap[b]? = w1.heap[b]?:=by
  obtain ⟨i,z,hi,hz,hsz,hby,hzc⟩:=i46
  have hone:∀ u ∈ arr.toList,u.oneCell' = true:=DR.one _ _ _ hx
  have hf2:∀ d:World,d.heap = w1.heap → (Builtin.firstCells 3 1 (.slice (some ⟨g,0,none⟩) 1 1)).run PR d = .ok arr.toList.toArray d:=fun d hd=>by
    refine run_firstCells_some (P:=PR) d 3 1 ⟨g,0,none⟩ 1 1 arr.toList (by simpa using harr) fun j v hj=>?_
    rw [Addr.add_eq,cell_heap hd]
    simp only [World.cell?,hg]
    simpa using hj
  have hl1:∀ d:World,(Builtin.lenOf (.slice (some ⟨g,0,none⟩) 1 1)).run PR d = .ok 1 d:=fun d=>by simp [Builtin.lenOf]
  have hlen:(xs.take 1 ++ [x]).length = min xs.length 1 + 1:=by simp; omega
  rcases h with ⟨rfl,hv⟩ | ⟨B,cap',c,ty,hv,q2,q3,q4,q5,q6,q7,q8,q9⟩
  · -- none yet
    simp only [Value.slice.injEq] at hv
    obtain ⟨rfl,_,rfl⟩:=hv
    have hge:=grownCap_ge w1 (0 + 1) 0 46
    have hle:grownCap w1 (0 + 1) 0 46 ≤ maxInt:=grownCap_le_maxLen w1 (0 + 1) 0 46 (by simp only [maxLen]; omega)
    have hrun:=run_app_grow (P:=PR) (ty:=59) (base:=none) (sLen:=0) (sCap:=0) (olds:=[]) (m:=1) w1 t59 t59 (.inl ⟨_,rfl⟩) hi hz hl1 (by rw [hsz]; exact hf2 w1.drew rfl) (by simp [Builtin.firstCells]) (by omega) (by omega) (growslice_fits (by omega) (by rw [hby]; decide))
    refine ⟨_,_,hrun,.inr ⟨w1.heap.size,grownCap w1 (0 + 1) 0 46,_,46,rfl,?_,hle,hm,(hfresh _ (Nat.le_refl _)).1,(hfresh _ (Nat.le_refl _)).2,alloc_new w1.drew _,?_,fun j y hy=>?_⟩,rfl,rfl,rfl,?_,fun b hb _=>?_⟩
    · simpa using hge
    · simp only [Array.size_append,List.size_toArray,size_zeroCells,hzc,harr,List.length_nil,Array.length_toList]
      omega
    · cases j with
      | succ j=>simp at hy
      | zero =>
        simp at hy; subst hy
        refine ⟨_,hx,fun j u hu=>?_⟩
        have hj:j < arr.size:=by
          rcases Nat.lt_or_ge j arr.toList.length with h' | h'
          · simpa using h'
          · rw [List.getElem?_eq_none h'] at hu; cases hu
        rw [Array.getElem?_append_left (by simp; omega)]
        simpa using hu
    · simp [World.alloc,-World.alloc_eq,World.drew,-World.drew_eq]
    · exact (alloc_old w1.drew _ b hb)
  · simp only [Value.slice.injEq] at hv
    obtain ⟨rfl,_,rfl⟩:=hv
    have hBlt:B < w1.heap.size:=(Array.getElem?_eq_some_iff.1 q7).1
    by_cases hcap:min xs.length 1 + 1 ≤ cap
    · obtain ⟨w2,r1,r2,r3,r4,r5,r6,r7⟩:=storeCells_run (P:=PR) (b:=B) (o0:=min xs.length 1 * 3) arr.toList 0 c w1 q7 (by simp only [Array.length_toList,harr,q8]; omega) (fun k hk hh=>by omega) hone
      rw [Nat.add_zero] at r2
      have hrun:=run_app_stay (P:=PR) (ty:=59) (base:=some ⟨B,0,none⟩) (sLen:=min xs.length 1) (sCap:=cap) (m:=1) w1 t59 t59 (.inl ⟨_,rfl⟩) hi (hl1 w1) (by rw [hsz]; exact hf2 w1 rfl) hcap
      refine ⟨.slice (some ⟨B,0,none⟩) (min xs.length 1 + 1) cap,w2,?_,.inr ⟨B,cap,_,ty,by rw [hlen],by rw [hlen]; exact hcap,q3,q4,q5,q6,r2,?_,fun j y hy=>?_⟩,r5,r6,r7,by rw [r4]; exact Nat.le_refl _,fun b hb hne=>r3 b fun hbb=>hne 0 (by rw [hbb])⟩
      · rw [hrun]
        simp only [Addr.add_eq,hsz,Nat.zero_add,r1,Result.andThen_ok]
      · simp only [List.size_toArray]
        rw [putL_length]; simpa using q8
      · have hput:∀ q,(putL c.toList (min xs.length 1 * 3) arr.toList).toArray[q]? = if min xs.length 1 * 3 ≤ q ∧ q < min xs.length 1 * 3 + arr.toList.length then arr.toList[q - min xs.length 1 * 3]? else c.toList[q]?:=fun q=>by
          rw [List.getElem?_toArray]
          exact putL_get _ _ _ _ (by simp only [Array.length_toList,harr,q8]; omega)
        rcases get_append hy with hy | ⟨hj1,hy⟩
        · rw [List.getElem?_take] at hy
          split at hy
          · rename_i hj
            obtain ⟨es,k1,k2⟩:=q9 j y hy
            refine ⟨es,k1,fun q u hu=>?_⟩
            have hq:q < 3:=by
              have:=DR.len _ _ _ k1
              rcases Nat.lt_or_ge q es.length with h' | h'
              · simpa [this,Ty.size] using h'
              · rw [List.getElem?_eq_none h'] at hu; cases hu
            have hjl:j < xs.length:=by
              rcases Nat.lt_or_ge j xs.length with h' | h'
              · exact h'
              · rw [List.getElem?_eq_none h'] at hy; cases hy
            rw [hput,if_neg (by omega)]
            simpa using k2 q u hu
          · cases hy
        · have hj0:j = min xs.length 1:=by
            have hl2:(xs.take 1).length = min xs.length 1:=by simp; omega
            rw [hl2] at hj1 hy
            rcases Nat.lt_or_ge (j - min xs.length 1) 1 with h' | h'
            · omega
            · rw [List.getElem?_eq_none (by simpa using h')] at hy; cases hy
          have hyx:y = x:=by
            have hl2:(xs.take 1).length = min xs.length 1:=by simp; omega
            rw [hl2,hj0,Nat.sub_self] at hy
            simpa using hy.symm
          subst hyx
          refine ⟨_,hx,fun q u hu=>?_⟩
          have hq:q < arr.toList.length:=by
            rcases Nat.lt_or_ge q arr.toList.length with h' | h'
            · exact h'
            · rw [List.getElem?_eq_none h'] at hu; cases hu
          rw [hput,hj0,if_pos (by omega),Nat.add_sub_cancel_left]
          exact hu
    · have hge:=grownCap_ge w1 (min xs.length 1 + 1) cap 46
      have hle:grownCap w1 (min xs.length 1 + 1) cap 46 ≤ maxInt:=grownCap_le_maxLen w1 (min xs.length 1 + 1) cap 46 (by simp only [maxLen]; omega)
      have hol:((c.toList.take (min xs.length 1 * 3)).length) = min xs.length 1 * 3:=by
        have hcl:c.toList.length = c.size:=Array.length_toList
        rw [List.length_take,hcl,q8]; omega
      have hfo:(Builtin.firstCells 3 (min xs.length 1) (.slice (some ⟨B,0,none⟩) (min xs.length 1) cap)).run PR w1.drew = .ok (c.toList.take (min xs.length 1 * 3)).toArray w1.drew:=by
        refine run_firstCells_some (P:=PR) w1.drew 3 _ ⟨B,0,none⟩ _ cap _ hol fun j v hj=>?_
        rw [Addr.add_eq,show w1.drew.cell? ⟨B,0 + j,none⟩ = w1.cell? ⟨B,0 + j,none⟩ from rfl]
        rw [List.getElem?_take] at hj
        split at hj
        · simp only [World.cell?,q7]
          simpa using hj
        · cases hj
      have hrun:=run_app_grow (P:=PR) (ty:=59) (base:=some ⟨B,0,none⟩) (sLen:=min xs.length 1) (sCap:=cap) (olds:=c.toList.take (min xs.length 1 * 3)) (m:=1) w1 t59 t59 (.inl ⟨_,rfl⟩) hi hz hl1 (by rw [hsz]; exact hf2 w1.drew rfl) (by rw [hsz]; exact hfo) (by omega) (by omega) (growslice_fits (by omega) (by rw [hby]; omega))
      refine ⟨_,_,hrun,.inr ⟨w1.heap.size,grownCap w1 (min xs.length 1 + 1) cap 46,_,46,by rw [hlen],by rw [hlen]; exact hge,hle,hm,(hfresh _ (Nat.le_refl _)).1,(hfresh _ (Nat.le_refl _)).2,alloc_new w1.drew _,?_,fun j y hy=>?_⟩,rfl,rfl,rfl,?_,fun b hb _=>?_⟩
      · simp only [Array.size_append,List.size_toArray,size_zeroCells,hzc,harr,hol,Array.length_toList]
        omega
      · rcases get_append hy with hy | ⟨hj1,hy⟩
        · rw [List.getElem?_take] at hy
          split at hy
          · rename_i hj
            obtain ⟨es,k1,k2⟩:=q9 j y hy
            refine ⟨es,k1,fun q u hu=>?_⟩
            have hq:q < 3:=by
              have:=DR.len _ _ _ k1
              rcases Nat.lt_or_ge q es.length with h' | h'
              · simpa [this,Ty.size] using h'
              · rw [List.getElem?_eq_none h'] at hu; cases hu
            have hjl:j < xs.length:=by
              rcases Nat.lt_or_ge j xs.length with h' | h'
              · exact h'
              · rw [List.getElem?_eq_none h'] at hy; cases hy
            rw [Array.getElem?_append_left (by simp only [Array.size_append,List.size_toArray,hol,Array.length_toList,harr]; omega),Array.getElem?_append_left (by simp only [List.size_toArray,hol]; omega)]
            rw [List.getElem?_toArray,List.getElem?_take,if_pos (by omega)]
            simpa using k2 q u hu
          · cases hy
        · have hl2:(xs.take 1).length = min xs.length 1:=by simp; omega
          have hj0:j = min xs.length 1:=by
            rw [hl2] at hj1 hy
            rcases Nat.lt_or_ge (j - min xs.length 1) 1 with h' | h'
            · omega
            · rw [List.getElem?_eq_none (by simpa using h')] at hy; cases hy
          have hyx:y = x:=by
            rw [hl2,hj0,Nat.sub_self] at hy
            simpa using hy.symm
          subst hyx
          refine ⟨_,hx,fun q u hu=>?_⟩
          have hq:q < arr.toList.length:=by
            rcases Nat.lt_or_ge q arr.toList.length with h' | h'
            · exact h'
            · rw [List.getElem?_eq_none h'] at hu; cases hu
          rw [Array.getElem?_append_left (by simp only [Array.size_append,List.size_toArray,hol,Array.length_toList] at *; omega),Array.getElem?_append_right (by simp only [List.size_toArray,hol]; omega)]
          rw [List.size_toArray,hol,hj0,Nat.add_sub_cancel_left]
          simpa using hu
      · simp [World.alloc,-World.alloc_eq,World.drew,-World.drew_eq]
      · exact (alloc_old w1.drew _ b hb)
end Go.Crc
namespace Go.Crc
open Go.Vm Go.Pack Go.Rec Go.RowKit
def mustAll (ops:Array Oper) (m:Nat):Bool:=go m 0 (masks [] ops.toList)
where
  go (m:Nat):Nat → List Nat → Bool
  | _,[]=>true
  | q,b :: r=>(Nat.blt q m || bits q b) && go m (q + 1) r
  bits:Nat → Nat → Bool
  | 0,_=>true
  | i + 1,b=>Nat.testBit b i && bits i b
theorem mustAll_bits:∀ (q b:Nat),mustAll.bits q b = true → ∀ i,i < q → b.testBit i = true
  | 0,_,_,i,hi=>by omega
  | q + 1,b,h,i,hi=>by
    simp only [mustAll.bits,Bool.and_eq_true] at h
    rcases Nat.lt_or_ge i q with h' | h'
    · exact mustAll_bits q b h.2 i h'
    · rw [show i = q by omega]; exact h.1
theorem mustAll_go (m:Nat):∀ (l:List Nat) (q0:Nat),mustAll.go m q0 l = true → ∀ (k b:Nat),l[k]? = some b → m ≤ q0 + k → ∀ i,i < q0 + k → b.testBit i = true
  | [],_,_,k,b,hk,_,_,_=>by simp at hk
  | c :: r,q0,h,k,b,hk,hm,i,hi=>by
    simp only [mustAll.go,Bool.and_eq_true,Bool.or_eq_true] at h
    cases k with
    | zero =>
      simp at hk; subst hk
      rcases h.1 with h1 | h1
      · have:=(blt_iff _ _).1 h1; omega
      · exact mustAll_bits _ _ h1 i hi
    | succ k=>exact mustAll_go m r (q0 + 1) h.2 k b (by simpa using hk) (by omega) i (by omega)
theorem must_tail {ops:Array Oper} {m:Nat} (h:mustAll ops m = true):∀ q,m ≤ q → q < ops.size → ∀ i,i < q → Must ops i q:=by
  intro q hq hlt i hi
  have hl:(masks [] ops.toList).length = ops.size:=by rw [masks_len]; simp
  have hb:(masks [] ops.toList)[q]? = some ((masks [] ops.toList)[q]'(by omega)):=List.getElem?_eq_getElem (by omega)
  exact masks_ok ops.toList [] (by simp) (fun k m hk=>by simp at hk) q _ hb i (mustAll_go m _ 0 h q _ hb (by omega) i (by omega))
noncomputable def ops16:Array Oper:=regAtP PR n_law_PaxosOne 262568346
theorem sh16:ops16.map (fun o=>(o.op,o.type,o.dst,o.guard)) = #[(.move (.tmp 5),59,some 71,none),(.move (.tmp 5),59,some 72,none),(.call ⟨.builtin .len,#[.tmp 72],#[59]⟩,3,some 73,none),(.call ⟨.builtin .min,#[.tmp 73,.const (.int .i64 1)],#[3,3]⟩,3,some 74,none),(.slice 59 (.tmp 71) none (some (.tmp 74)) none,59,some 75,none),(.load 46 (.tmp 10),46,some 76,none),(.buildSlice 59 1 #[(0,.tmp 76)],59,some 77,none),(.call ⟨.builtin .append,#[.tmp 75,.tmp 77],#[59,59]⟩,59,some 78,none),(.assign (.tmp 78),59,some 5,none)]:=by kernel_rfl
theorem dr16:drawB PR ops16.toList = true:=by kernel_rfl
theorem mu16:mustAll ops16 7 = true:=by kernel_rfl
theorem nt1:ntm PR n_law_PaxosOne = 95:=by kernel_rfl
theorem sz16:ops16.size = 9:=by
  have:=congrArg Array.size sh16
  simpa using this
theorem op16 {i:Nat} {o:Oper} (h:ops16[i]? = some o):(#[(Op.move (.tmp 5),(59:Nat),some (71:Nat),(none:Option (Nat × Bool))),(.move (.tmp 5),59,some 72,none),(.call ⟨.builtin .len,#[.tmp 72],#[59]⟩,3,some 73,none),(.call ⟨.builtin .min,#[.tmp 73,.const (.int .i64 1)],#[3,3]⟩,3,some 74,none),(.slice 59 (.tmp 71) none (some (.tmp 74)) none,59,some 75,none),(.load 46 (.tmp 10),46,some 76,none),(.buildSlice 59 1 #[(0,.tmp 76)],59,some 77,none),(.call ⟨.builtin .append,#[.tmp 75,.tmp 77],#[59,59]⟩,59,some 78,none),(.assign (.tmp 78),59,some 5,none)]:Array (Op × Nat × Option Nat × Option (Nat × Bool)))[i]? = some (o.op,o.type,o.dst,o.guard):=by
  have:=congrArg (fun z:Array (Op × TypeId × Option Tmp × Option (Nat × Bool))=>z[i]?) sh16
  simp only [Array.getElem?_map,h,Option.map_some] at this
  exact this.symm
theorem buildOne {e:Env} {w:World} {cs:List AV} {arr0:Array Value} (hV:VRs e none 0 cs arr0.toList) (hl:arr0.size = 3) (hf:fillParts (fun i=>some (i * 3,3)) [.int .i64 0,.slice (.int .i64) [] .own,.slice (.slice (.int .i64)) [] .own] [(0,.agg cs)] = some cs) :
    ∃ arr,(Instr.buildSlice 59 1 #[(0,.agg arr0)]).run PR w = .ok (.slice (some ⟨w.heap.size,0,none⟩) 1 1) (w.alloc (.cells arr 46)) ∧ arr.size = 3 ∧ VRs e (some fun j=>.io 0 (j + 1)) 0 cs arr.toList:=by
  obtain ⟨i,z,g1,g2,g3⟩:=zeros_info z46
  obtain ⟨d,hd⟩:=okT_iff ok46
  have hzl:z.cells.size = 3:=by have:=constCells_length g3; simpa using this.symm
  have hsize:=sizeOf_run (P:=PR) w hd
  rw [s46] at hsize
  have hcl:cs.length = 3:=by have:=hV.len; rw [this]; simpa using hl
  have hzero:VRs e (some fun j=>.io 0 (j + 1)) 0 [.int .i64 0,.slice (.int .i64) [] .own,.slice (.slice (.int .i64)) [] .own] ((Array.range (1 * 3)).map (z.cells[· % z.cells.size]!)).toList:=by
    refine VRs.of (by simp) fun j x v hx hv=>?_
    have hj:j < 3:=by
      rcases Nat.lt_or_ge j 3 with h' | h'
      · exact h'
      · rw [List.getElem?_eq_none (by simpa using h')] at hx; cases hx
    simp only [Array.toList_map,List.getElem?_map,Array.toList_range,List.getElem?_range (show j < 1 * 3 by omega),Option.map_some,Option.some.injEq] at hv
    obtain ⟨u,k1,k2⟩:=(constCells_sim (e:=e) _ _ _ 0 g3).get _ x hx
    have:v = u:=by
      rw [← hv]
      have hz:z.cells[j]? = some u:=by simpa using k1
      rw [hzl,Nat.mod_eq_of_lt hj,getElem!_pos z.cells j (by omega)]
      rw [Array.getElem?_eq_getElem (by omega)] at hz
      exact Option.some.inj hz
    subst this
    exact (show VR e none none x v by simpa using k2).weak
  obtain ⟨arr,k1,k2⟩:=Vm.fill_sim (offs:=fun i=>some (i * 3,3)) (place:=fun i=>some (i * 3,3)) [(0,.agg cs)] [(0,.agg arr0)] _ _ cs hf rfl (fun j i1 i2 v u o m hv hu ho=>by
    cases j with
    | succ j=>simp at hv
    | zero =>
      simp at hv hu
      obtain ⟨rfl,rfl⟩:=hv
      obtain ⟨rfl,rfl⟩:=hu
      refine ⟨rfl,ho,?_,fun m' y z' hy hz'=>?_⟩
      · show cs.length = arr0.size
        rw [hcl,hl]
      · obtain ⟨u',e1,e2⟩:=hV.get m' y hy
        have hz2:arr0.toList[m']? = some z':=hz'
        rw [hz2] at e1; cases e1
        exact (show VR e none none y z' by simpa using e2).weak) hzero
  have harr:arr.size = 3:=by have:=k2.len; rw [hcl] at this; simpa using this.symm
  refine ⟨arr,?_,harr,k2⟩
  have hbig:¬ (1 * 3 > 2 ^ 24):=by decide
  have h0:¬ (1 * 3 = 0):=by decide
  unfold Instr.buildSlice
  simp only [Sem.run_bind,run_underlying t59,Result.andThen_ok,hsize,if_neg hbig,if_neg h0,Sem.run_pure,zero_run w g1 g2]
  rw [k1]
  simp [newRow]
theorem cr_unowned {n:Nat} {e:Env} {fr:Fr} {H:Stack} {a:Act} {w w2:World} {p:Nat → Prop} (h:CR n A e fr H a w) (hp:∀ b,p b → e.own b = none ∧ ∀ o,e.cl b o = none) (hs:∀ b,b < w.heap.size → ¬ p b → w2.heap[b]? = w.heap[b]?):WOK e w2 ∧ HR A e H w2:=by
  have hcl:∀ b o v,e.cl b o = some v → w2.heap[b]? = w.heap[b]?:=fun b o v hv=>by
    have h1:=h.wok.holds b o v hv
    refine hs b ?_ fun hpb=>?_
    · rcases Nat.lt_or_ge b w.heap.size with hb | hb
      · exact hb
      · simp only [World.cell?] at h1
        rw [Array.getElem?_eq_none hb] at h1
        simp at h1
    · rw [(hp b hpb).2 o] at hv; cases hv
  have how:∀ b q n,e.own b = some (q,n) → w2.heap[b]? = w.heap[b]?:=fun b q n hv=>hs b (h.wok.own_lt hv) fun hpb=>by rw [(hp b hpb).1] at hv; cases hv
  refine ⟨⟨fun b o v hv=>?_,fun b q n hv=>(h.wok.free b q n hv).to (how b q n hv)⟩,⟨h.hr.par,fun l i x hx=>?_⟩⟩
  · rw [cell_of_heap (hcl b o v hv)]; exact h.wok.holds b o v hv
  · obtain ⟨b,hb,c,ty,fz,k1,k2,k3,k4⟩:=h.hr.ob l i x hx
    exact ⟨b,hb,c,ty,fz,by rw [how b _ _ k2]; exact k1,k2,k3,k4⟩
def hidL (ds:List Nat) (fr:Fr):Fr:=fun t=>bif memN t ds then .undef else fr t
abbrev d16:List Nat:=[71,72,73,74,75,76,77,78,5]
def E16:Hook (Option (List Cf)):=fun fr H wr γ k=>match γ,fr 10 with
  | some xs,.ptr 0 j 0=>match getH H 0 j with
    | some (.cells [.int .i64 t,.slice (.int .i64) s .view,.slice (.slice (.int .i64)) sh .view])=>k .normal (hidL d16 fr) H wr (some (xs.take 1 ++ [(t,s,sh)]))
    | _=>none
  | _,_=>none
theorem ch_shape {m0:Nat} {e:Env} {w:World} {v:Value} {xs:List Cf} (h:ChR m0 e w v xs):∃ base cap,v = .slice base xs.length cap ∧ xs.length ≤ cap ∧ cap ≤ maxInt ∧ (base = none → cap = 0) ∧ (∀ b o,base = some ⟨b,o,none⟩ → b < w.heap.size ∧ m0 ≤ b ∧ o = 0 ∧ e.own b = none ∧ (∀ o,e.cl b o = none) ∧ (∃ c ty,w.heap[b]? = some (.cells c ty (0,0)))) ∧ ∀ z,base = some z → z.add 0 = z:=by
  rcases h with ⟨rfl,rfl⟩ | ⟨B,cap,c,ty,h1,h2,h3,h4,h5,h6,h7,h8,h9⟩
  · exact ⟨none,0,rfl,Nat.le_refl _,by simp only [maxInt]; omega,fun _=>rfl,(fun b o hb=>by cases hb),fun z hz=>by cases hz⟩
  · refine ⟨some ⟨B,0,none⟩,cap,h1,h2,h3,(fun h=>nomatch h),fun b o hb=>?_,fun z hz=>by cases hz; rw [Addr.add_eq]⟩
    cases hb
    exact ⟨(Array.getElem?_eq_some_iff.1 h7).1,h4,rfl,h5,h6,c,ty,h7⟩
abbrev cf16 (t:Int) (s:List Int) (sh:List (List Int)):List AV:=[.int .i64 t,.slice (.int .i64) s .view,.slice (.slice (.int .i64)) sh .view]
theorem part46 (t:Int) (s:List Int) (sh:List (List Int)):partAV PR 46 (cf16 t s sh) 0 = some (.agg (cf16 t s sh)):=by kernel_rfl
theorem agg46:isAggB PR 46 = true:=by kernel_rfl
theorem cf16_vr {e:Env} {l i:Nat} {t:Int} {s:List Int} {sh:List (List Int)} {c:List Value} (h4:(cf16 t s sh).length = c.length) (h5:∀ o av u,(cf16 t s sh)[o]? = some av → c[o]? = some u → VR (e.dr 0) (some (.cell l i o)) none av u):VRs e none 0 (cf16 t s sh) c:=by
  have hdr:e.dr 0 = e:=by simp [Env.dr]
  rw [hdr] at h5
  match c,h4 with
  | [v0,v1,v2],_ =>
    have g0:=h5 0 _ v0 rfl rfl
    have g1:=h5 1 _ v1 rfl rfl
    have g2:=h5 2 _ v2 rfl rfl
    simp only [VR] at g0 g1 g2
    simp only [VRs,Option.map_none]
    refine ⟨?_,?_,?_,trivial⟩
    · simp only [VR]; exact g0
    · simp only [VR]; exact ⟨g1.1,trivial⟩
    · simp only [VR]; exact ⟨g2.1,trivial⟩
theorem load16 {e:Env} {fr:Fr} {H:Stack} {a:Act} {w:World} {n j x:Nat} {t:Int} {s:List Int} {sh:List (List Int)} (hC:CR n A e fr H a w) (hx:x < n) (hfr:fr x = .ptr 0 j 0) (hg:getH H 0 j = some (.cells (cf16 t s sh))) (w':World) (hw:w'.heap = w.heap) :
    ∃ b arr0,Act.at a x = .pointer (some ⟨b,0,none⟩) ∧ (loadVar 46 ⟨b,0,none⟩).run PR w' = .ok (.agg arr0) w' ∧ arr0.size = 3 ∧ VRs e none 0 (cf16 t s sh) arr0.toList:=by
  have h10:=hC.fr.val x hx
  rw [hfr] at h10
  simp only [VR] at h10
  obtain ⟨b,hb,hv10⟩:=h10
  rw [pval_lt rfl] at hv10
  obtain ⟨b',hb',c,ty,fz,h1,h2,h3,h4,h5⟩:=hC.hr.ob 0 j _ hg
  rw [hb] at hb'; cases hb'
  obtain ⟨dd,hd46⟩:=okT_iff ok46
  have hcl:c.toList.length = 3:=by rw [← h4]; rfl
  have h1':w'.heap[b]? = some (.cells c ty fz):=by rw [hw]; exact h1
  obtain ⟨u5,hr5,hcase⟩:=loadVar_sim (P:=PR) (b:=b) (off0:=0) (off:=0) (us:=c.toList) w' hd46 (part46 t s sh) h4 (fun i u hu=>cell_of_cells h1' i u hu)
  rcases hcase with ⟨_,_,hu5⟩ | ⟨hno,_⟩
  case inr=>rw [agg46] at hno; cases hno
  rw [s46,List.drop_zero,List.take_of_length_le (by omega)] at hu5
  subst hu5
  exact ⟨b,c.toList.toArray,hv10,hr5,by simpa using hcl,by simpa using cf16_vr h4 h5⟩
def V16 (v5:Value) (base:Option Addr) (len cap g:Nat) (arr0:Array Value):Nat → Value
  | 0=>v5
  | 1=>v5
  | 2=>goInt len
  | 3=>.int .i64 (if (1:Int) < (len:Int) then 1 else (len:Int))
  | 4=>.slice base (min len 1) cap
  | 5=>.agg arr0
  | _=>.slice (some ⟨g,0,none⟩) 1 1
def W16 (w:World) (arr:Array Value) (D:List Nat):World:=if 6 ∈ D then w.alloc (.cells arr 46) else w
def mustB (ops:Array Oper) (i j:Nat):Bool:=match (masks [] ops.toList)[i]? with | some b=>b.testBit j | none=>false
theorem must_of {ops:Array Oper} {i j:Nat} (h:mustB ops i j = true):Must ops j i:=by
  unfold mustB at h
  split at h
  · rename_i b e
    exact masks_ok (ops:=ops) ops.toList [] (by simp) (fun k m hk=>by simp at hk) i b e j h
  · cases h
theorem m16:mustB ops16 2 1 = true ∧ mustB ops16 3 2 = true ∧ mustB ops16 4 0 = true ∧ mustB ops16 4 3 = true ∧ mustB ops16 6 5 = true:=⟨by kernel_rfl,by kernel_rfl,by kernel_rfl,by kernel_rfl,by kernel_rfl⟩
theorem d16_dst {i:Nat} {o:Oper} (hi:i < 7) (ho:ops16[i]? = some o):o.guard = none ∧ o.dst = some (71 + i):=by
  have h:=op16 ho
  cases o
  match i,hi with
  | 0,_ | 1,_ | 2,_ | 3,_ | 4,_ | 5,_ | 6,_=>cases h; exact ⟨rfl,rfl⟩
theorem at_new {V:Nat → Value} {a a':Act} {D:List Nat} (hA:AtD ops16 V a D a') {i:Nat} (hi:i ∈ D) (h7:i < 7) (h9:i < ops16.size):Act.at a' (71 + i) = V i :=
  hA.new i hi _ _ (Array.getElem?_eq_getElem h9) (d16_dst h7 (Array.getElem?_eq_getElem h9)).2
theorem at_old {V:Nat → Value} {a a':Act} {D:List Nat} (hA:AtD ops16 V a D a') (hD:∀ i ∈ D,i < 7) {t:Nat} (ht:t < 71):Act.at a' t = Act.at a t :=
  hA.old t fun i hi o ho=>by rw [(d16_dst (hD i hi) ho).2]; intro e; cases e; omega
theorem step16 {a a':Act} {w:World} {v5:Value} {base:Option Addr} {len cap b:Nat} {arr0 arr:Array Value} {D:List Nat} {i:Nat} {o:Oper}
    (hv5:Act.at a 5 = v5) (hv:v5 = .slice base len cap) (hle:len ≤ cap) (hnone:base = none → cap = 0) (hoff:∀ z,base = some z → z.add 0 = z) (h10:Act.at a 10 = .pointer (some ⟨b,0,none⟩)) (hload:(loadVar 46 ⟨b,0,none⟩).run PR w = .ok (.agg arr0) w)
    (hbuild:(Instr.buildSlice 59 1 #[(0,.agg arr0)]).run PR w = .ok (.slice (some ⟨w.heap.size,0,none⟩) 1 1) (w.alloc (.cells arr 46)))
    (hi:i < 7) (ho:ops16[i]? = some o) (hD:∀ j ∈ D,j < 7) (hcl:∀ k ∈ D,∀ j,Must ops16 j k → j ∈ D) (hdep:∀ j,Must ops16 j i → j ∈ D) (hiD:i ∉ D) (hA:AtD ops16 (V16 v5 base len cap w.heap.size arr0) a D a') :
    (execOp a'.eval o).run PR (W16 w arr D) = .ok (.value (V16 v5 base len cap w.heap.size arr0 i)) (W16 w arr (i :: D)):=by
  have h:=op16 ho
  have hs5:Act.at a' 5 = v5:=(at_old hA hD (by decide)).trans hv5
  have hs10:Act.at a' 10 = _:=(at_old hA hD (by decide)).trans h10
  have h9:=sz16
  have hW:∀ k,k ≠ 6 → W16 w arr (k :: D) = W16 w arr D:=fun k hk=>by
    unfold W16
    simp only [List.mem_cons,Ne.symm hk,false_or]
  match i,hi with
  | 0,_ =>
    cases o with
    | mk dst op ty pos after guard =>
    cases h
    rw [hW 0 (by decide)]
    show (execOp a'.eval _).run PR _ = .ok (.value v5) _
    rw [← hs5]
    rfl
  | 1,_ =>
    cases o with
    | mk dst op ty pos after guard =>
    cases h
    rw [hW 1 (by decide)]
    show (execOp a'.eval _).run PR _ = .ok (.value v5) _
    rw [← hs5]
    rfl
  | 2,_ =>
    have hs:Act.at a' 72 = v5:=at_new hA (hdep 1 (must_of m16.1)) (by decide) (by omega)
    cases o with
    | mk dst op ty pos after guard =>
    cases h
    rw [hW 2 (by decide)]
    refine len_run rfl rfl rfl rfl ?_
    show (Builtin.len_ #[59] 3 #[Act.at a' 72]).run PR _ = _
    rw [hs,hv]
    have ht':PR.underlying 59 = some (.slice (PR.elem 59)):=by rw [elem_of t59]; exact t59
    exact run_len_slice (P:=PR) (W16 w arr D) 59 3 base len cap ht'
  | 3,_ =>
    have hs:Act.at a' 73 = goInt len:=at_new hA (hdep 2 (must_of m16.2.1)) (by decide) (by omega)
    cases o with
    | mk dst op ty pos after guard =>
    cases h
    rw [hW 3 (by decide)]
    refine exec_builtin (S:=Builtin.min_ #[3,3] 3 #[a'.eval (.tmp 73),a'.eval (.const (.int .i64 1))]) rfl rfl (fun cs=>by simp [builtin]) ?_
    show (Builtin.min_ #[3,3] 3 #[Act.at a' 73,.int .i64 1]).run PR _ = _
    rw [hs]
    exact run_min_int2 ..
  | 4,_ =>
    have hs:Act.at a' 71 = v5:=at_new hA (hdep 0 (must_of m16.2.2.1)) (by decide) (by omega)
    have hs2:Act.at a' 74 = .int .i64 (if (1:Int) < (len:Int) then 1 else (len:Int)):=at_new hA (hdep 3 (must_of m16.2.2.2.1)) (by decide) (by omega)
    cases o with
    | mk dst op ty pos after guard =>
    cases h
    rw [hW 4 (by decide)]
    refine exec_v (S:=Instr.sliceAt 59 (a'.eval (.tmp 71)) none (some (a'.eval (.tmp 74))) none) rfl ?_
    have ht':PR.underlying 59 = some (.slice (PR.elem 59)):=by rw [elem_of t59]; exact t59
    show (Instr.sliceAt 59 (Act.at a' 71) none (some (Act.at a' 74)) none).run PR _ = _
    obtain ⟨dd,hd46⟩:=okT_iff ok46
    have hso:(sizeOf (PR.elem 59)).run PR (W16 w arr D) = .ok 3 (W16 w arr D):=by rw [elem_of t59,← s46]; exact sizeOf_run _ hd46
    have hmin:(if (1:Int) < (len:Int) then 1 else (len:Int)) = ((min len 1:Nat):Int):=by split <;> omega
    rw [hs,hs2,hmin,hv,run_sliceAt_slice (P:=PR) _ 59 _ _ _ _ ht',run_slice_h (P:=PR) _ 59 base len cap ht' .i64 ((min len 1:Nat):Int) (by omega) (by omega),hso]
    show Result.ok (Go.sliced base 0 (min len 1) cap 3) _ = _
    unfold Go.sliced
    simp only [Nat.zero_mul,Nat.sub_zero]
    congr 1
    show Value.slice _ _ _ = Value.slice _ _ _
    congr 1
    split
    · rfl
    · cases base with
      | none=>rfl
      | some z=>simp only [Option.map_some]; rw [hoff z rfl]
  | 5,_ =>
    have h6:6 ∉ D:=fun h6=>hiD (hcl 6 h6 5 (must_of m16.2.2.2.2))
    cases o with
    | mk dst op ty pos after guard =>
    cases h
    rw [hW 5 (by decide)]
    have hWD:W16 w arr D = w:=by unfold W16; rw [if_neg h6]
    rw [hWD]
    exact exec_load (x:=.tmp 10) rfl (show a'.eval (.tmp 10) = _ from hs10) hload
  | 6,_ =>
    have hs:Act.at a' 76 = .agg arr0:=at_new hA (hdep 5 (must_of m16.2.2.2.2)) (by decide) (by omega)
    cases o with
    | mk dst op ty pos after guard =>
    cases h
    have hWD:W16 w arr D = w:=by unfold W16; rw [if_neg hiD]
    have hWD2:W16 w arr (6 :: D) = w.alloc (.cells arr 46):=by unfold W16; rw [if_pos (by simp)]
    rw [hWD,hWD2]
    have hb2:(Instr.buildSlice 59 1 #[(0,a'.eval (.tmp 76))]).run PR w = .ok (.slice (some ⟨w.heap.size,0,none⟩) 1 1) (w.alloc (.cells arr 46)):=by
      rw [show a'.eval (.tmp 76) = .agg arr0 from hs]; exact hbuild
    have hmap:((#[(0,Operand.tmp 76)]:Array (Nat × Operand)).map fun (i,x)=>(i,a'.eval x)) = #[(0,a'.eval (.tmp 76))]:=by simp
    refine exec_v (S:=Instr.buildSlice 59 1 ((#[(0,Operand.tmp 76)]:Array (Nat × Operand)).map fun (i,x)=>(i,a'.eval x))) (by unfold execOp; simp only) ?_
    rw [hmap]; exact hb2
end Go.Crc
namespace Go.Crc
open Go.Vm Go.Pack Go.Rec Go.RowKit
theorem tail16 {Q:Exit → Act → World → Prop} {a':Act} {w1 w2:World} {base:Option Addr} {h cap g:Nat} {v:Value} (hsz:a'.tmps.size = 95) (h75:Act.at a' 75 = .slice base h cap) (h77:Act.at a' 77 = .slice (some ⟨g,0,none⟩) 1 1)
    (hr:(Builtin.append_ #[59,59] 59 #[.slice base h cap,.slice (some ⟨g,0,none⟩) 1 1]).run PR w1 = .ok v w2) (hQ:Q .normal ((a'.put (some 78) v).put (some 5) v) w2):wpOps PR ops16 Q [7,8] a' w1:=by
  have h9:=sz16
  have e7:ops16[7]? = some (ops16[7]'(by omega)):=Array.getElem?_eq_getElem (by omega)
  have e8:ops16[8]? = some (ops16[8]'(by omega)):=Array.getElem?_eq_getElem (by omega)
  have o7:=op16 e7
  have o8:=op16 e8
  generalize (ops16[7]'(by omega)) = q7 at e7 o7
  generalize (ops16[8]'(by omega)) = q8 at e8 o8
  cases q7
  cases q8
  cases o7
  cases o8
  simp only [wpOps,e7,e8]
  rw [if_pos (by rfl)]
  left
  unfold Oper.wp
  have hrun:∀ (pos:String) (after:Array Edge),(execOp a'.eval { dst:=some 78,op:=.call ⟨.builtin .append,#[.tmp 75,.tmp 77],#[59,59]⟩,type:=59,pos:=pos,after:=after,guard:=none }).run PR w1 = .ok (.value v) w2:=fun pos after=>by
    refine exec_append (x:=.tmp 75) (y:=.tmp 77) (t:=59) (u:=59) rfl rfl rfl rfl ?_
    show (Builtin.append_ #[59,59] 59 #[Act.at a' 75,Act.at a' 77]).run PR w1 = _
    rw [h75,h77]; exact hr
  rw [hrun,Oper.upon_value]
  rw [if_pos (by rfl)]
  left
  have h78:Act.at (a'.put (some 78) v) 78 = v:=at_put_same (by rw [hsz]; decide)
  have hasg:∀ (z:Act) (pos:String) (after:Array Edge),(execOp z.eval { dst:=some 5,op:=.assign (.tmp 78),type:=59,pos:=pos,after:=after,guard:=none }).run PR w2 = .ok (.value (Act.at z 78)) w2:=fun z pos after=>rfl
  have hrun2:=hasg (a'.put (some 78) v)
  rw [h78] at hrun2
  simp only
  rw [hrun2,Oper.upon_value]
  exact hQ
theorem mix1:PR.follows .mixedOrders = true:=mixed
theorem unfl16 (t:Int) (s:List Int) (sh:List (List Int)):unflat CfT (cf16 t s sh) = some (t,s,sh):=by kernel_rfl
theorem fill16 (t:Int) (s:List Int) (sh:List (List Int)):fillParts (fun i=>some (i * 3,3)) [.int .i64 0,.slice (.int .i64) [] .own,.slice (.slice (.int .i64)) [] .own] [(0,.agg (cf16 t s sh))] = some (cf16 t s sh):=by kernel_rfl
set_option maxHeartbeats 1000000 in
theorem wp16 {e0:Env} {a0:Act} {w0:World} {fr:Fr} {H:Stack} {xs:List Cf} {j:Nat} {t:Int} {s:List Int} {sh:List (List Int)} {e:Env} {a:Act} {w:World} (hfr:fr 10 = .ptr 0 j 0) (hg:getH H 0 j = some (.cells (cf16 t s sh)))
    (hC:CR (ntm PR n_law_PaxosOne) A e fr H a w) (hG:GL e0 w0 e w) (hK:Kept K0 a0 w0 e a w) (hR:ChR w0.heap.size e w (Act.at a 5) xs) (tt:Nat) :
    wpOps PR ops16 (CPostG (GRc w0.heap.size) (ntm PR n_law_PaxosOne) A e0 a0 w0 .normal (hidL d16 fr) H (some (xs.take 1 ++ [(t,s,sh)]))) (Region.schedule (PR.follows .mixedOrders) ops16 tt) a { w with drawn:=w.drawn + 1 }:=by
  obtain ⟨base,cap,hv5,hle,hmax,hnone,hbase,hoff⟩:=ch_shape hR
  obtain ⟨b,arr0,h10,hload,ha0,hV0⟩:=load16 hC (by rw [nt1]; decide) hfr hg { w with drawn:=w.drawn + 1 } rfl
  obtain ⟨arr,hbuild,harr,hV6⟩:=buildOne (w:={ w with drawn:=w.drawn + 1 }) (arr0:=arr0) hV0 ha0 (fill16 t s sh)
  have hDR:DR e.cl CfT (t,s,sh) arr.toList:=unflat_sim (T:=CfT) (cs:=cf16 t s sh) (unfl16 t s sh) hV6
  have hasz:a.tmps.size = 95:=hC.fr.size.trans nt1
  have h1heap:∀ q,q < w.heap.size → (({ w with drawn:=w.drawn + 1 }:World).alloc (.cells arr 46)).heap[q]? = w.heap[q]?:=fun q hq=>alloc_old { w with drawn:=w.drawn + 1 } _ q hq
  have h1size:(({ w with drawn:=w.drawn + 1 }:World).alloc (.cells arr 46)).heap.size = w.heap.size + 1:=by simp [World.alloc,-World.alloc_eq]
  -- the append
  have hCh:ChR w0.heap.size e (({ w with drawn:=w.drawn + 1 }:World).alloc (.cells arr 46)) (.slice base xs.length cap) xs:=by
    rw [← hv5]
    rcases hR with hR | ⟨B,cap',c,ty,q1,q2,q3,q4,q5,q6,q7,q8,q9⟩
    · exact .inl hR
    · exact .inr ⟨B,cap',c,ty,q1,q2,q3,q4,q5,q6,(h1heap B (Array.getElem?_eq_some_iff.1 q7).1).trans q7,q8,q9⟩
  have hfresh:∀ q,w.heap.size ≤ q → e.own q = none ∧ ∀ o,e.cl q o = none:=fun q hq=>by
    constructor
    · cases ho:e.own q with
      | none=>rfl
      | some p=>obtain ⟨p,n⟩:=p; have:=hC.wok.own_lt ho; omega
    · intro o
      cases ho:e.cl q o with
      | none=>rfl
      | some v =>
        have:=hC.wok.holds q o v ho
        simp only [World.cell?] at this
        rw [Array.getElem?_eq_none hq] at this
        simp at this
  obtain ⟨v,w2,hr,hch,g1,g2,g3,g4,g5⟩:=ch_append (g:=w.heap.size) (arr:=arr) (x:=(t,s,sh)) hCh (alloc_new { w with drawn:=w.drawn + 1 } _) (fun B o hB=>by have:=(hbase B o hB).1; omega) harr hDR (by rw [h1size]; have:=hG.size; omega) (fun q hq=>hfresh q (by rw [h1size] at hq; omega))
  have hW0:W16 { w with drawn:=w.drawn + 1 } arr [] = { w with drawn:=w.drawn + 1 }:=rfl
  have hstep:=wp_front (P:=PR) (ops:=ops16) (a:=a) (V:=V16 (Act.at a 5) base xs.length cap w.heap.size arr0) (W:=W16 { w with drawn:=w.drawn + 1 } arr) (Q:=CPostG (GRc w0.heap.size) (ntm PR n_law_PaxosOne) A e0 a0 w0 .normal (hidL d16 fr) H (some (xs.take 1 ++ [(t,s,sh)]))) (m:=7) (N:=9) mix1 (drawB_ok mix1 dr16).back sz16 (by decide)
    (fun q hq hlt i hi=>must_tail mu16 q hq (by rw [sz16]; exact hlt) i hi)
    (fun i hi=>by
      have e1:ops16[i]? = some (ops16[i]'(by rw [sz16]; omega)):=Array.getElem?_eq_getElem (by rw [sz16]; omega)
      obtain ⟨k1,k2⟩:=d16_dst hi e1
      refine ⟨_,71 + i,e1,k1,k2,by rw [hasz]; exact (show (71 + i:Nat) < 95 by omega),fun j' o' hj hji ho'=>?_⟩
      rw [(d16_dst hj ho').2]
      intro hh; have:=Option.some.inj hh; omega)
    (fun D i o hi ho hD hcl hdep hiD a' hA=>step16 (v5:=Act.at a 5) rfl hv5 hle hnone hoff h10 hload hbuild hi ho hD hcl hdep hiD hA)
    (fun D a' hall hA=>by
      have hD7:∀ i ∈ D,i < 7:=fun i hi=>(hall i).1 hi
      have h75:=at_new hA ((hall 4).2 (by decide)) (by decide) (by rw [sz16]; decide)
      have h77:=at_new hA ((hall 6).2 (by decide)) (by decide) (by rw [sz16]; decide)
      have hWD:W16 { w with drawn:=w.drawn + 1 } arr D = ({ w with drawn:=w.drawn + 1 }:World).alloc (.cells arr 46):=by unfold W16; rw [if_pos ((hall 6).2 (by decide))]
      rw [hWD]
      refine tail16 (hA.size.trans hasz) h75 h77 hr ?_
      have hsame:∀ q,q < w.heap.size → ¬ (∃ o,base = some ⟨q,o,none⟩) → w2.heap[q]? = w.heap[q]?:=fun q hq hp=>(g5 q (by rw [h1size]; omega) fun o ho=>hp ⟨o,ho⟩).trans (h1heap q hq)
      obtain ⟨kw,kh⟩:=cr_unowned (p:=fun q=>∃ o,base = some ⟨q,o,none⟩) hC (fun q ⟨o,ho⟩=>⟨(hbase q o ho).2.2.2.1,(hbase q o ho).2.2.2.2.1⟩) hsame
      have hsz1:(a'.put (some 78) v).tmps.size = 95:=by simp [Act.put,hA.size,hasz]
      refine ⟨trivial,e,⟨kw,kh,⟨?_,fun z hz=>?_⟩⟩,⟨g1.trans hG.os,g2.trans hG.tape,g3.trans hG.output,?_,fun q hq=>?_⟩,⟨fun _ hh=>hh.elim,?_⟩,?_⟩
      · rw [nt1]; simp [Act.put,hA.size,hasz]
      · unfold hidL
        cases hm:memN z d16 with
        | true=>simp only [cond_true,VR]
        | false =>
          simp only [cond_false]
          have hz5:z ≠ 5:=fun e=>by subst e; cases hm
          have hz78:z ≠ 78:=fun e=>by subst e; cases hm
          rw [at_put_other hz5,at_put_other hz78]
          have:Act.at a' z = Act.at a z:=hA.old z fun i hi o ho=>by
            rw [(d16_dst (hD7 i hi) ho).2]
            intro hh
            have hzi:71 + i = z:=Option.some.inj hh
            have:=hD7 i hi
            have h7:i = 0 ∨ i = 1 ∨ i = 2 ∨ i = 3 ∨ i = 4 ∨ i = 5 ∨ i = 6:=by omega
            rcases h7 with rfl | rfl | rfl | rfl | rfl | rfl | rfl <;> (subst hzi; cases hm)
          rw [this]
          exact hC.fr.val z hz
      · have:=hG.size; rw [h1size] at g4; omega
      · obtain ⟨b1,b2,b3⟩:=hG.blk q hq
        refine ⟨(hsame q (Nat.lt_of_lt_of_le hq hG.size) fun ⟨o,ho⟩=>?_).trans b1,b2,b3⟩
        have:=(hbase q o ho).2.1
        omega
      · obtain ⟨ms,m1,m2,m3⟩:=hK.marks
        refine ⟨ms,?_,m2,fun D' hD'=>?_⟩
        · show a'.defers = _
          rw [hA.defers]; exact m1
        · obtain ⟨n1,n2,n3⟩:=m3 D' hD'
          refine ⟨n1,(hsame D' (Array.getElem?_eq_some_iff.1 n2).1 fun ⟨o,ho⟩=>?_).trans n2,n3⟩
          obtain ⟨c,ty,hc⟩:=(hbase D' o ho).2.2.2.2.2
          rw [n2] at hc; cases hc
      · show ChR w0.heap.size e w2 (Act.at ((a'.put (some 78) v).put (some 5) v) 5) _
        rw [at_put_same (by rw [hsz1]; decide)]
        exact hch) tt
  rw [hW0] at hstep
  exact hstep
theorem hook16 (e0:Env) (a0:Act) (w0:World) (id:Nat):BodyG (GRc w0.heap.size) PR (ntm PR n_law_PaxosOne) A e0 a0 w0 (.region id ops16 true) E16:=by
  intro fr H wr γ k r h
  unfold E16 at h
  split at h
  case h_2=>cases h
  rename_i xs j hfr
  split at h
  case h_2=>cases h
  rename_i t s sh hg
  exact ⟨.normal,hidL d16 fr,H,wr,_,h,fun e a w hC hG hK hR=>wp_region_draw fun tt=>wp16 hfr hg hC hG hK hR tt⟩
end Go.Crc
namespace Go.Crc
open Go.Vm Go.Pack Go.Rec Go.RowKit
noncomputable def EOn:List (Ent PR A):=[bgE,palvE,stEn,choE,tsE]
noncomputable def ops17:Array Oper:=regAtP PR n_law_PaxosOne 131284174
theorem dr17:drawB PR ops17.toList = true:=by kernel_rfl
theorem ob17:opsB (ntm PR n_law_PaxosOne) ops17.toList = true:=by kernel_rfl
theorem md17:(ops17.toList.all fun o=>(mapDstOf o).isNone) = true:=by kernel_rfl
theorem ds17:mapN (·.dst) ops17.toList = [some 79,some 80,some 81,some 82,some 83,some 84,some 85,some 86,some 87,some 88,some 89,some 90,some 91]:=by kernel_rfl
def ch2:List Cf → Bool
  | x0 :: x1 :: _=>!(x0.1 == x1.1 && (x0.2.1 == x1.2.1 && x0.2.2 == x1.2.2))
  | _=>false
abbrev fr17 (xs:List Cf) (fr:Fr):Fr:=fun t=>bif Nat.beq t 5 then .slice CfT xs .view else keepI (fr t)
theorem ev17_0 (fr:Fr) (H:Stack):opers PR (cfE EOn) (cfgN ops17.toList cfgPx) true ops17.toList ops17.toList ⟨fr17 [] fr,noAls,H,[],noLds⟩ (fun s=>some (s.fr 91,s.wr,s.H)) = some (.bool false,[],H):=by kernel_rfl
theorem ev17_1 (x0:Cf) (fr:Fr) (H:Stack):opers PR (cfE EOn) (cfgN ops17.toList cfgPx) true ops17.toList ops17.toList ⟨fr17 [x0] fr,noAls,H,[],noLds⟩ (fun s=>some (s.fr 91,s.wr,s.H)) = some (.bool false,[],H):=by kernel_rfl
theorem ev17_2 (x0 x1:Cf) (r:List Cf) (fr:Fr) (H:Stack):opers PR (cfE EOn) (cfgN ops17.toList cfgPx) true ops17.toList ops17.toList ⟨fr17 (x0 :: x1 :: r) fr,noAls,H,[],noLds⟩ (fun s=>some (s.fr 91,s.wr,s.H)) =
    (bif decide (((x0 :: x1 :: r).length:Int) > 1) then some (.bool (!(x0.1 == x1.1 && (x0.2.1 == x1.2.1 && x0.2.2 == x1.2.2))),[],H) else some (.bool false,[],H)):=by kernel_rfl
theorem ev17 (xs:List Cf) (fr:Fr) (H:Stack):opers PR (cfE EOn) (cfgN ops17.toList cfgPx) true ops17.toList ops17.toList ⟨fr17 xs fr,noAls,H,[],noLds⟩ (fun s=>some (s.fr 91,s.wr,s.H)) = some (.bool (ch2 xs),[],H):=by
  match xs with
  | []=>exact ev17_0 fr H
  | [x0]=>exact ev17_1 x0 fr H
  | x0 :: x1 :: r =>
    refine (ev17_2 x0 x1 r fr H).trans ?_
    rw [decide_eq_true (show ((x0 :: x1 :: r).length:Int) > 1 by simp only [List.length_cons]; omega)]
    rfl
abbrev d17:List Nat:=[79,80,81,82,83,84,85,86,87,88,89,90,91]
def E17:Hook (Option (List Cf)):=fun fr H wr γ k=>match γ with
  | some xs=>k .normal (fun t=>bif Nat.beq t 91 then .bool (ch2 xs) else hidL d17 fr t) H wr (some xs)
  | none=>none
theorem reg17:RegOK (ntm PR n_law_PaxosOne) A PR (cfE EOn) cfgPx ops17:=(draw_ok (cfE_ok EOn) (drawB_ok mix1 dr17)).reg (cfE_ok EOn)
theorem dst17 {t:Nat} (h:memN t d17 = false):∀ o ∈ ops17.toList,o.dst ≠ some t:=fun o ho e=>by
  have hm:some t ∈ mapN (·.dst) ops17.toList:=by
    rw [mapN_eq,List.mem_map]; exact ⟨o,ho,e⟩
  rw [ds17] at hm
  have:t ∈ d17:=by simpa using hm
  rw [(memN_iff t d17).2 this] at h; cases h
def xCl (v:Value) (w:World):Nat → Nat → Option Value:=fun b o=>match v with
  | .slice (some ⟨B,0,none⟩) _ _=>if b = B then w.cell? ⟨b,o,none⟩ else none
  | _=>none
theorem ch_same {m0:Nat} {e:Env} {w w':World} {v:Value} {xs:List Cf} (h:ChR m0 e w v xs) (hs:∀ b,b < w.heap.size → w'.heap[b]? = w.heap[b]?):ChR m0 e w' v xs:=by
  rcases h with h | ⟨B,cap,c,ty,q1,q2,q3,q4,q5,q6,q7,q8,q9⟩
  · exact .inl h
  · exact .inr ⟨B,cap,c,ty,q1,q2,q3,q4,q5,q6,(hs B (Array.getElem?_eq_some_iff.1 q7).1).trans q7,q8,q9⟩
set_option maxHeartbeats 4000000 in
theorem wp17 {e0:Env} {a0:Act} {w0:World} {fr:Fr} {H:Stack} {xs:List Cf} {e:Env} {a:Act} {w:World}
    (hC:CR (ntm PR n_law_PaxosOne) A e fr H a w) (hG:GL e0 w0 e w) (hK:Kept K0 a0 w0 e a w) (hR:ChR w0.heap.size e w (Act.at a 5) xs) (tt:Nat) :
    wpOps PR ops17 (CPostG (GRc w0.heap.size) (ntm PR n_law_PaxosOne) A e0 a0 w0 .normal (fun t=>bif Nat.beq t 91 then .bool (ch2 xs) else hidL d17 fr t) H (some xs)) (Region.schedule (PR.follows .mixedOrders) ops17 tt) a { w with drawn:=w.drawn + 1 }:=by
  obtain ⟨s',h1,h2⟩:=opers_steps (cfE_ok EOn) ops17.toList 0 _ (by simp) (ev17 xs fr (dropH H))
  rw [← List.range_eq_range'] at h1
  simp only [Option.some.injEq,Prod.mk.injEq] at h2
  obtain ⟨e91,ewr,eH⟩:=h2
  have hCd:=hC.drew
  refine peek reg17 ob17 hCd (x:=xCl (Act.at a 5) { w with drawn:=w.drawn + 1 }) (fun b o v hv=>?_) (fun l i b o hb=>?_) (fr2:=fr17 xs fr) ⟨hC.fr.size,fun t ht=>?_⟩ (fun d ⟨o,ho,hd⟩=>?_) h1 ewr tt fun a' w' k1 k2 k3 k4 k5 ⟨e3,k6⟩ k7=>?_
  · unfold xCl at hv
    split at hv
    · split at hv
      · exact hv
      · cases hv
    · cases hv
  · unfold xCl
    split
    · rename_i B n cap hv5
      rw [if_neg]
      intro hbB
      subst hbB
      obtain ⟨m,hm⟩:=HR.noown (s:=⟨fr,noAls,H,[],noLds⟩) hC.hr hb
      rcases hR with ⟨_,hR⟩ | ⟨B',cap',c,ty,q1,q2,q3,q4,q5,_⟩
      · rw [hv5] at hR; cases hR
      · rw [hv5] at q1; cases q1
        rw [hm] at q5; cases q5
    · rfl
  · show VR _ _ _ (bif Nat.beq t 5 then .slice CfT xs .view else keepI (fr t)) _
    by_cases h5:t = 5
    · subst h5
      simp only [Nat.beq_refl,cond_true,VR]
      refine ⟨?_,trivial⟩
      rcases hR with ⟨rfl,hR⟩ | ⟨B,cap,c,ty,q1,q2,q3,q4,q5,q6,q7,q8,q9⟩
      · exact ⟨none,0,0,hR,rfl,Nat.le_refl _,by simp only [maxInt]; omega,fun _=>rfl,fun i x hx=>by simp at hx⟩
      · refine ⟨_,_,cap,q1,rfl,q2,q3,(fun h=>nomatch h),fun i x hx=>?_⟩
        obtain ⟨es,k1,k2⟩:=q9 i x hx
        refine ⟨B,0,es,rfl,DR.mono (peek_cl e _) _ _ _ k1,fun j u hu=>?_⟩
        have:=k2 j u hu
        simp only [peekE,q6]
        unfold xCl
        rw [q1]
        simp only [if_true]
        have hcell:({ w with drawn:=w.drawn + 1 }:World).cell? ⟨B,0 + (i * Ty.size CfT + j),none⟩ = c[0 + (i * Ty.size CfT + j)]?:=by
          simp only [World.cell?,q7]
          simp
        rw [hcell,Nat.zero_add]
        exact this
    · rw [beq_false.2 h5,cond_false]
      exact keepI_VR (e:=e) (e':=peekE e (xCl (Act.at a 5) { w with drawn:=w.drawn + 1 })) (fun _ _ _ h=>h) (hC.fr.val t ht)
  · exfalso
    have:=md17
    rw [List.all_eq_true] at this
    have h3:=this o ho
    rw [hd] at h3; cases h3
  · have k1':∀ b,b < w.heap.size → w'.heap[b]? = w.heap[b]?:=k1
    obtain ⟨kw,kh⟩:=cr_unowned (p:=fun _=>False) hC (fun _ h=>h.elim) (fun b hb _=>k1' b hb)
    refine ⟨trivial,e,⟨kw,kh,⟨?_,fun z hz=>?_⟩⟩,⟨k3.trans hG.os,k4.trans hG.tape,k5.trans hG.output,Nat.le_trans hG.size k2,fun q hq=>?_⟩,⟨fun _ hh=>hh.elim,?_⟩,?_⟩
    · exact k6.size
    · by_cases h91:z = 91
      · subst h91
        have:=k6.val 91 hz
        rw [e91] at this
        simp only [VR] at this
        simp only [Nat.beq_refl,cond_true,VR]
        exact this
      · rw [beq_false.2 h91,cond_false]
        unfold hidL
        cases hm:memN z d17 with
        | true=>simp only [cond_true,VR]
        | false =>
          simp only [cond_false]
          rw [k7.slot z (dst17 hm)]
          exact hC.fr.val z hz
    · obtain ⟨b1,b2,b3⟩:=hG.blk q hq
      exact ⟨(k1' q (Nat.lt_of_lt_of_le hq hG.size)).trans b1,b2,b3⟩
    · obtain ⟨ms,m1,m2,m3⟩:=hK.marks
      refine ⟨ms,k7.defers.trans m1,m2,fun D' hD'=>?_⟩
      obtain ⟨n1,n2,n3⟩:=m3 D' hD'
      exact ⟨n1,(k1' D' (Array.getElem?_eq_some_iff.1 n2).1).trans n2,n3⟩
    · show ChR w0.heap.size e w' (Act.at a' 5) xs
      rw [k7.slot 5 (dst17 rfl)]
      exact ch_same hR k1'
theorem hook17 (e0:Env) (a0:Act) (w0:World) (id:Nat):BodyG (GRc w0.heap.size) PR (ntm PR n_law_PaxosOne) A e0 a0 w0 (.region id ops17 true) E17:=by
  intro fr H wr γ k r h
  unfold E17 at h
  split at h
  case h_2=>cases h
  rename_i xs
  exact ⟨.normal,_,H,wr,some xs,h,fun e a w hC hG hK hR=>wp_region_draw fun tt=>wp17 hC hG hK hR tt⟩
end Go.Crc
