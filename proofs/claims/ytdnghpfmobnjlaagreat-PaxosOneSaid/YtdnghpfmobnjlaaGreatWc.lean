/- Contracts of functions of this program. Conditions: none. -/
import Derived.Test.YtdnghpfmobnjlaaGreatWb
import Derived.Laws.IdiomCopy
import Derived.Laws.MakeOwn
import Derived.Test.YtdnghpfmobnjlaaGreatVp
set_option linter.unusedVariables false
set_option linter.unusedSimpArgs false
set_option maxRecDepth 100000
namespace Go.Proofs.NewReader
theorem make (w:World) (len:Nat) (hl:len ≤ 140737488355328):∃ arr,arr.size = len ∧ (Instr.makeSlice 64 (.int .i64 (len:Int)) (.int .i64 (len:Int))).run Tryz.prog w = .ok (.slice (some ⟨w.heap.size,0,none⟩) len len) (w.alloc (.cells arr 5)):=by
  obtain ⟨i,z,h1,h4,h5⟩:=Go.Vm.zeros_info (show Go.Vm.zeros Tryz.prog 5 = some [.int .u8 0] by kernel_rfl)
  have h2:i.bytes = 1:=by
    have:Go.Vm.bytesB Tryz.prog 5 = 1:=by kernel_rfl
    unfold Go.Vm.bytesB at this
    rw [h1] at this
    exact this
  have h3:i.size = 1:=by
    have:Go.Vm.sizeB Tryz.prog 5 = 1:=by kernel_rfl
    rw [Go.Vm.sizeB_eq h1] at this
    exact this
  have:=run_make (P:=Tryz.prog) w 64 5 i z Tryz.underlying64 h1 h4 .i64 .i64 (len:Int) (len:Int) (by omega) (by omega) (by rw [h2]; omega) (by omega)
  rw [Int.toNat_natCast] at this
  exact ⟨_,by simp [madeCells,h3],this⟩
set_option maxRecDepth 100000 in
set_option maxHeartbeats 1600000 in
theorem walk (w w1 w2:World) (ao:Option Addr) (len cap:Nat) (hsz:w2.heap.size = w.heap.size + 1)
    (hm:(Instr.makeSlice 64 (.int .i64 (len:Int)) (.int .i64 (len:Int))).run Tryz.prog w = .ok (.slice (some ⟨w.heap.size,0,none⟩) len len) w1)
    (hc:(Builtin.copy_ #[64,64] 3 #[.slice (some ⟨w.heap.size,0,none⟩) len len,.slice ao len cap]).run Tryz.prog w1 = .ok (goInt len) w2) :
    Calls Tryz.prog 93 #[.slice ao len cap] w fun e w'=>e = .returned (.pointer (some ⟨w.heap.size + 1,0,none⟩)) ∧ w' = w2.alloc (.cells #[.slice (some ⟨w.heap.size,0,none⟩) len len,.int .i64 0] 216):=by
  have hb2:∀ (w:World) (x:Addr) (l c:Nat),(Instr.build 216 #[(0,.slice (some x) l c)]).run Tryz.prog w = .ok (.agg #[.slice (some x) l c,.int .i64 0]) w:=fun _ _ _ _=>by kernel_rfl
  have hbx:∀ (w:World) (x y:Value),(newVar 216 (.agg #[x,y])).run Tryz.prog w = .ok ⟨w.heap.size,0,none⟩ (w.alloc (.cells #[x,y] 216)):=fun _ _ _=>Go.Vm.run_newVar _ _ _
  go_enter Tryz.func93,Tryz.ntmps93
  go_wp2
  go_ret
  exact ⟨by rw [← hsz]; rfl,rfl⟩
theorem setCells_size (b:Nat):∀ (vs:List Value) (o:Nat) (w:World),(w.setCells b o vs).heap.size = w.heap.size
  | [],_,_=>rfl
  | v :: vs,o,w=>by
    simp only [World.setCells]
    rw [setCells_size b vs]
    simp [World.setCell]
theorem setCells_heap (b:Nat):∀ (vs:List Value) (o:Nat) (w:World) (k:Nat),k ≠ b → (w.setCells b o vs).heap[k]? = w.heap[k]?
  | [],_,_,_,_=>rfl
  | v :: vs,o,w,k,hk=>by
    simp only [World.setCells]
    rw [setCells_heap b vs _ _ _ hk]
    exact Go.RowKit.Below.heap_setCell _ _ _ _ hk
theorem setCells_kind (b:Nat):∀ (vs:List Value) (o:Nat) (w:World) (c:Array Value) (ty:TypeId) (fz:Nat × Nat),w.heap[b]? = some (.cells c ty fz) → ∃ c',(w.setCells b o vs).heap[b]? = some (.cells c' ty fz) ∧ c'.size = c.size
  | [],_,_,c,ty,fz,h=>⟨c,h,rfl⟩
  | v :: vs,o,w,c,ty,fz,h=>by
    simp only [World.setCells]
    have h2:(w.setCell ⟨b,o,none⟩ v).heap[b]? = some (.cells (c.modify o fun _=>v) ty fz) ∨ ∃ c',(w.setCell ⟨b,o,none⟩ v).heap[b]? = some (.cells c' ty fz) ∧ c'.size = c.size:=by
      right
      simp only [World.setCell,Array.getElem?_modify,if_pos,h,Option.map_some]
      exact ⟨_,rfl,by simp⟩
    rcases h2 with h2 | ⟨c',h2,h3⟩
    · obtain ⟨c2,g1,g2⟩:=setCells_kind b vs (o + 1) _ _ _ _ h2
      exact ⟨c2,g1,by simpa using g2⟩
    · obtain ⟨c2,g1,g2⟩:=setCells_kind b vs (o + 1) _ _ _ _ h2
      exact ⟨c2,g1,g2.trans h3⟩
theorem setCells_other (b:Nat):∀ (vs:List Value) (o:Nat) (w:World),(w.setCells b o vs).os = w.os ∧ (w.setCells b o vs).tape = w.tape ∧ (w.setCells b o vs).output = w.output
  | [],_,_=>⟨rfl,rfl,rfl⟩
  | v :: vs,o,w=>by
    simp only [World.setCells]
    exact setCells_other b vs _ _
end Go.Proofs.NewReader
namespace Go.Crc
open Go.Vm
variable {e:Env} {w:World}
theorem reader_made {l:List Ob} {S:Stack} {b:List Int} {w2:World} {c:Array Value} {cs:List Value} (hw:WOK e w) (hH:HR A e (l :: S) w) (hb:cs = b.map (Value.int .u8)) (hr:∀ x ∈ b,IntKind.u8.has x) (hmax:b.length ≤ maxInt)
    (h1:w2.os = w.os) (h2:w2.tape = w.tape) (h3:w2.output = w.output) (h4:w2.heap.size = w.heap.size + 1) (h5:∀ k,k < w.heap.size → w2.heap[k]? = w.heap[k]?) (h6:w2.heap[w.heap.size]? = some (.cells c 5 (0,0))) (hc:c.toList = cs) :
    Vm.Ends A e w (.ptr 0 (lenN l) 0,[],app l [.cells [.slice (.int .u8) b .view,.int .i64 0]] :: S) (.pointer (some ⟨w.heap.size + 1,0,none⟩)) (w2.alloc (.cells #[.slice (some ⟨w.heap.size,0,none⟩) b.length b.length,.int .i64 0] 216)):=by
  have hclen:c.size = b.length:=by
    have:c.toList.length = cs.length:=by rw [hc]
    rw [hb] at this
    simpa using this
  have hext:=Ext.newRow (e:=e) (w:=w) (w':=w2) (g:=w.heap.size) (c:=c) (m:=c.size) (p:=some (.cell 0 (lenN l) 0)) rfl h1 h2 h3 (by omega) h5
  have hwok:=WOK.newRow (c:=c) (m:=c.size) (p:=some (.cell 0 (lenN l) 0)) hw rfl h5 h6 (.inl rfl) (fun q hq hb=>by cases hq; cases hb)
  have hH1:=HR.ext hext hw hH
  have hg1:Grow e w (e.newRow w.heap.size c c.size (some (.cell 0 (lenN l) 0))) w2 []:=hext.grow (s:=rsOf (l :: S)) hw hH []
  let e1:=e.newRow w.heap.size c c.size (some (.cell 0 (lenN l) 0))
  let w3:=w2.alloc (.cells #[.slice (some ⟨w.heap.size,0,none⟩) b.length b.length,.int .i64 0] 216)
  have hext2:=Ext.newRow (e:=e1) (w:=w2) (w':=w3) (g:=w2.heap.size) (c:=#[.slice (some ⟨w.heap.size,0,none⟩) b.length b.length,.int .i64 0]) (m:=0) (p:=some (.ob 0 (lenN l))) rfl rfl rfl rfl (by simp [w3,World.alloc,-World.alloc_eq]) (fun k hk=>alloc_old w2 _ k hk)
  have hwok2:=WOK.newRow (w':=w3) (c:=#[.slice (some ⟨w.heap.size,0,none⟩) b.length b.length,.int .i64 0]) (m:=0) (p:=some (.ob 0 (lenN l))) hwok rfl (fun k hk=>alloc_old w2 _ k hk) (alloc_new w2 _) (.inl rfl) (fun _ _ _=>show 2 < mapO by decide)
  have hH2:=HR.ext hext2 hwok hH1
  have hg2:Grow e1 w2 _ w3 []:=hext2.grow (s:=rsOf (l :: S)) hwok hH1 []
  have hr0:RR 0 A (e1.newRow w2.heap.size #[.slice (some ⟨w.heap.size,0,none⟩) b.length b.length,.int .i64 0] 0 (some (.ob 0 (lenN l)))) (rsOf (l :: S)) ⟨#[],[]⟩ w3:=⟨hwok2,hH2,⟨rfl,fun t ht=>absurd ht (by omega)⟩,fun t src ht=>absurd ht (by omega)⟩
  have hpush:=RR.push (s:=rsOf (l :: S)) (g:=w2.heap.size) (c:=#[.slice (some ⟨w.heap.size,0,none⟩) b.length b.length,.int .i64 0]) (y:=.cells [.slice (.int .u8) b .view,.int .i64 0]) hr0 rfl (by simp [Env.newRow]) (fun o=>by simp [Env.newRow]) (alloc_new w2 _) (by
    refine ⟨rfl,fun o av u ha hu=>?_⟩
    match o,ha,hu with
    | 0,ha,hu =>
      simp at ha hu
      subst ha; subst hu
      simp only [VR]
      refine ⟨⟨_,_,_,rfl,rfl,Nat.le_refl _,hmax,by simp,fun i x hx=>?_⟩,trivial⟩
      refine ⟨w.heap.size,0,[.int .u8 x],rfl,⟨rfl,hr x (List.mem_of_getElem? hx)⟩,fun j u hj=>?_⟩
      cases j with
      | succ j=>simp at hj
      | zero =>
        simp at hj
        subst hj
        have hi:i < b.length:=(List.getElem?_eq_some_iff.1 hx).1
        show (if w.heap.size = w2.heap.size then _ else (e1.cl w.heap.size _)) = _
        rw [if_neg (by omega)]
        show (if w.heap.size = w.heap.size then (if 0 + (i * Ty.size (.int .u8) + 0) < c.size then c[0 + (i * Ty.size (.int .u8) + 0)]? else none) else _) = _
        rw [if_pos rfl,show 0 + (i * Ty.size (.int .u8) + 0) = i by simp [Ty.size],if_pos (by omega)]
        have:c.toList[i]? = some (.int .u8 x):=by rw [hc,hb,List.getElem?_map,hx]; rfl
        simpa using this
    | 1,ha,hu =>
      simp at ha hu
      subst ha; subst hu
      simp only [VR]
      exact ⟨trivial,by decide,by decide⟩
    | o + 2,ha,hu=>simp at ha)
  refine ⟨_,hpush.wok,hpush.hr,?_,?_,?_⟩
  · simp only [VR]
    exact ⟨w2.heap.size,pushRho_new _ (by have:=hH.par; exact this),by rw [h4]; exact (pval_lt rfl).symm⟩
  · exact ((hg1.trans hg2 hext.rhoLe fun _ _ h=>h).trans (Grow.push _ w3 w2.heap.size []) (fun l i b hb=>hext2.rhoLe l i b (hext.rhoLe l i b hb)) fun _ _ h=>h)
  · exact fun l i b hb=>Env.push_le _ _ _ _ _ (hext2.rhoLe l i b (hext.rhoLe l i b hb))
def readerF:List AV → Tr Ob
  | [.slice (.int .u8) b .view]=>.br (decide (b.length ≤ 140737488355328)) (.yes (.cells [.slice (.int .u8) b .view,.int .i64 0])) .no
  | _=>.no
theorem newReader_ok:Con PR A n_pack_NewReader (newC readerF):=by
  refine newC_ok fun args x hv ha l S=>?_
  unfold readerF at hv
  split at hv
  · rename_i b
    obtain ⟨hl,hv2⟩:=Tr.br_no hv
    cases hv2
    simp only [decide_eq_true_eq] at hl
    intro e vs w hw hH hA
    obtain ⟨g1,g2⟩:=hA
    obtain ⟨vs⟩:=vs
    match vs,g1 with
    | [v0],_ =>
      have hv:=g2 0 _ v0 rfl rfl
      simp only [VR] at hv
      obtain ⟨⟨ao,len,cap,rfl,q2,q3,q4,q5,q6⟩,_⟩:=hv
      simp only [okAVs,okAV,okD] at ha
      subst q2
      have hcells:∀ (i:Nat) x,b[i]? = some x → ∃ bl off,ao = some ⟨bl,off,none⟩ ∧ e.cl bl (off + i) = some (.int .u8 x):=by
        intro i x hx
        obtain ⟨bl,off,es,r1,r2,r3⟩:=q6 i x hx
        refine ⟨bl,off,r1,?_⟩
        have:=r3 0 (.int .u8 x) (by rw [r2.1]; rfl)
        simpa [Ty.size] using this
      obtain ⟨arr,ha1,hm⟩:=Go.Proofs.NewReader.make w b.length hl
      let cs:=b.map (Value.int .u8)
      have hcopy:(Builtin.copy_ #[64,64] 3 #[.slice (some ⟨w.heap.size,0,none⟩) b.length b.length,.slice ao b.length cap]).run PR (w.alloc (.cells arr 5)) = .ok (goInt b.length) ((w.alloc (.cells arr 5)).setCells w.heap.size 0 cs):=by
        cases hb:b with
        | nil =>
          have:=run_copy_none (P:=PR) (w.alloc (.cells arr 5)) 64 64 3 5 (some ⟨w.heap.size,0,none⟩) ao 0 0 0 cap (by kernel_rfl) (by kernel_rfl) rfl
          simpa [cs,hb,World.setCells] using this
        | cons x r =>
          obtain ⟨bl,off,rfl,_⟩:=hcells 0 x (by rw [hb]; rfl)
          have:=run_copy_cells (P:=PR) (w.alloc (.cells arr 5)) 64 64 3 5 w.heap.size 0 b.length b.length ⟨bl,off,none⟩ b.length cap cs (by kernel_rfl) (by kernel_rfl) (by simp [cs]) (fun j v hj=>by
            simp only [cs,List.getElem?_map] at hj
            cases hbj:b[j]? with
            | none=>rw [hbj] at hj; cases hj
            | some y =>
              rw [hbj] at hj
              cases hj
              obtain ⟨bl',off',r1,r2⟩:=hcells j y hbj
              cases r1
              have hc0:=hw.holds _ _ _ r2
              have hlt:=World.block_lt_of_cell? w _ hc0
              rw [Addr.add_eq]
              show (w.alloc _).cell? ⟨bl,off + j,none⟩ = _
              rw [cell_of_heap (alloc_old w _ bl hlt)]
              exact hc0) (fun j hj=>by
            simp only [Nat.zero_add,World.cell?,alloc_new]
            have:j < arr.size:=by simp only [cs,List.length_map] at hj; omega
            simp [this]) (fun j hj=>by simp only [Nat.zero_add,World.frozen?,alloc_new]; simp) (fun v hv=>by
            simp only [cs,List.mem_map] at hv
            obtain ⟨y,_,rfl⟩:=hv
            rfl)
          rw [hb] at this
          simpa [cs,hb] using this
      obtain ⟨c',k1,k2⟩:=Go.Proofs.NewReader.setCells_kind w.heap.size cs 0 (w.alloc (.cells arr 5)) arr 5 (0,0) (alloc_new w _)
      have k3:=Go.Proofs.NewReader.setCells_size w.heap.size cs 0 (w.alloc (.cells arr 5))
      obtain ⟨k4,k5,k6⟩:=Go.Proofs.NewReader.setCells_other w.heap.size cs 0 (w.alloc (.cells arr 5))
      have k7:(w.alloc (.cells arr 5)).heap.size = w.heap.size + 1:=by simp [World.alloc,-World.alloc_eq]
      have hcl:c'.toList = cs:=by
        refine List.ext_getElem? fun j=>?_
        by_cases hj:j < cs.length
        · have:=World.cell?_setCells_in w.heap.size cs 0 (w.alloc (.cells arr 5)) (fun j hj=>by
            simp only [Nat.zero_add,World.cell?,alloc_new]
            have:j < arr.size:=by simp only [cs,List.length_map] at hj; omega
            simp [this]) j hj
          simp only [Nat.zero_add,World.cell?,k1] at this
          rw [List.getElem?_eq_getElem hj]
          simpa using this
        · rw [List.getElem?_eq_none (by simp only [Array.length_toList]; rw [k2,ha1]; simp only [cs,List.length_map] at hj; omega),List.getElem?_eq_none (by omega)]
      refine Invokes.of_calls Go.Proofs.Tryz.func93 (by kernel_rfl) rfl ((Go.Proofs.NewReader.walk w _ _ ao b.length cap (by rw [k3,k7]) hm hcopy).mono ?_)
      rintro x w' ⟨rfl,rfl⟩
      exact reader_made hw hH rfl (fun x hx=>ha.1.2 x hx) ha.1.1 (by rw [k4]; rfl) (by rw [k5]; rfl) (by rw [k6]; rfl) (by rw [k3,k7]) (fun k hk=>by rw [Go.Proofs.NewReader.setCells_heap _ _ _ _ _ (by omega)]; exact alloc_old w _ k hk) k1 hcl
  · cases hv
def newReaderE:Ent PR A:=⟨n_pack_NewReader,_,newReader_ok⟩
end Go.Crc
namespace Go.Crc
open Go.Vm Go.Pack
def cfgK:Cfg:=cfgOf [(n_pack_Num,[0]),(n_pack_Text,[0])] [n_pack_Num,n_pack_Text,n_crc_New,n_pack_NewReader] []
def ofSt (s:St):Ob:=.cells [.slice (.int .u8) s.b .view,.int .i64 s.e]
def failF:Ob → List AV → Tr (AV × Bool × Ob)
  | .cells [.slice (.int .u8) b .view,.int .i64 e],[.int .i64 x]=>.yes (.tuple [],true,ofSt (failS ⟨b,e⟩ x))
  | _,_=>.no
theorem fail_ok:Con PR A n_pack_Reader_fail (objC 0 failF):=by
  refine objC_ok fun x rest v wrote x' hv=>?_
  unfold failF at hv
  split at hv
  · rename_i b e x
    cases hv
    refine ⟨rfl,rfl,rfl,rfl,by simp,fun ha _=>?_⟩
    have h:body PR (cfE (P:=PR) (A:=A) []) cfgK (fun _=>none) n_pack_Reader_fail [.ptr 1 0 0,.int .i64 x] [[],[.cells [.slice (.int .u8) b .view,.int .i64 e]]] some =
      (bif e == 0 then some (.tuple [],[(1,0)],[[],[.cells [.slice (.int .u8) b .view,.int .i64 x]]]) else some (.tuple [],[],[[],[.cells [.slice (.int .u8) b .view,.int .i64 e]]])):=by kernel_rfl
    have hS:∀ {res:Res},body PR (cfE (P:=PR) (A:=A) []) cfgK (fun _=>none) n_pack_Reader_fail [.ptr 1 0 0,.int .i64 x] [[],[.cells [.slice (.int .u8) b .view,.int .i64 e]]] some = some res → SimCall PR A n_pack_Reader_fail [.ptr 1 0 0,.int .i64 x] [[],[.cells [.slice (.int .u8) b .view,.int .i64 e]]] res:=fun h=>fun_call _ mixed (by kernel_rfl) (by kernel_rfl) (no_loops (by kernel_rfl)) h
    unfold ofSt failS
    cases he:(e == 0) with
    | true=>rw [he] at h; exact hS h
    | false=>rw [he] at h; exact SimCall.wr (hS h) fun _ _ _=>rfl
  · cases hv
def failE:Ent PR A:=⟨n_pack_Reader_fail,_,fail_ok⟩
def takeF:Ob → List AV → Tr (AV × Bool × Ob)
  | .cells [.slice (.int .u8) b .view,.int .i64 e],[.int .i64 n]=>.br (decide (0 ≤ n)) (.yes (.slice (.int .u8) (takeS ⟨b,e⟩ n).2 .view,true,ofSt (takeS ⟨b,e⟩ n).1)) .no
  | _,_=>.no
theorem take_ok:Con PR A n_pack_Reader_take (objC 0 takeF):=by
  refine objC_ok fun x rest v wrote x' hv=>?_
  unfold takeF at hv
  split at hv
  · rename_i b e n
    obtain ⟨hn,hv2⟩:=Tr.br_no hv
    cases hv2
    simp only [decide_eq_true_eq] at hn
    refine ⟨rfl,rfl,rfl,rfl,by simp,fun ha _=>?_⟩
    have h:body PR (cfE [failE]) cfgK (fun _=>none) n_pack_Reader_take [.ptr 1 0 0,.int .i64 n] [[],[.cells [.slice (.int .u8) b .view,.int .i64 e]]] some =
      (bif e != 0 then some (.slice (.int .u8) [] .view,[(1,0)],[[],[ofSt (failS ⟨b,e⟩ 20)]])
      else bif decide (n > (b.length:Int)) then some (.slice (.int .u8) [] .view,[(1,0)],[[],[ofSt (failS ⟨b,e⟩ 20)]])
      else bif decide (0 ≤ n) && decide (n ≤ (b.length:Int)) then bif decide (0 ≤ n) && decide (n ≤ (b.length:Int)) then
        some (.slice (.int .u8) ((b.take n.toNat).drop 0) .view,[(1,0)],[[],[.cells [.slice (.int .u8) ((b.take b.length).drop n.toNat) .view,.int .i64 e]]])
      else none else none):=by kernel_rfl
    refine fun_call _ mixed (by kernel_rfl) (by kernel_rfl) (no_loops (by kernel_rfl)) (h.trans ?_)
    unfold takeS
    cases he:(e != 0) with
    | true=>rfl
    | false =>
      rw [cond_false,cond_false]
      cases hg:decide (n > (b.length:Int)) with
      | true=>rfl
      | false =>
        simp only [decide_eq_false_iff_not] at hg
        rw [cond_false,cond_false,cond_eq (by simp <;> omega),cond_eq (by simp <;> omega),List.drop_zero,List.take_of_length_le (Nat.le_refl b.length)]
        rfl
  · cases hv
def takeE:Ent PR A:=⟨n_pack_Reader_take,_,take_ok⟩
def endF:Ob → List AV → Tr (AV × Bool × Ob)
  | .cells [.slice (.int .u8) b .view,.int .i64 e],[]=>.yes (.int .i64 (endR ⟨b,e⟩),false,.cells [.slice (.int .u8) b .view,.int .i64 e])
  | _,_=>.no
theorem end_ok:Con PR A n_pack_Reader_End (objC 0 endF):=by
  refine objC_ok fun x rest v wrote x' hv=>?_
  unfold endF at hv
  split at hv
  · rename_i b e
    cases hv
    refine ⟨rfl,rfl,rfl,rfl,by simp,fun ha _=>?_⟩
    have h:body PR (cfE (P:=PR) (A:=A) []) cfgK (fun _=>none) n_pack_Reader_End [.ptr 1 0 0] [[],[.cells [.slice (.int .u8) b .view,.int .i64 e]]] some =
      (bif e == 0 then bif decide ((b.length:Int) > 0) then some (.int .i64 22,[],[[],[.cells [.slice (.int .u8) b .view,.int .i64 e]]]) else some (.int .i64 e,[],[[],[.cells [.slice (.int .u8) b .view,.int .i64 e]]])
      else some (.int .i64 e,[],[[],[.cells [.slice (.int .u8) b .view,.int .i64 e]]])):=by kernel_rfl
    refine fun_call _ mixed (by kernel_rfl) (by kernel_rfl) (no_loops (by kernel_rfl)) (h.trans ?_)
    unfold endR
    by_cases he:e = 0
    · subst he
      by_cases hb:b.length = 0
      · simp [hb]
      · simp [hb,show 0 < b.length by omega]
    · have:(e == 0) = false:=by simpa using he
      rw [this]
      simp [he]
  · cases hv
def endE:Ent PR A:=⟨n_pack_Reader_End,_,end_ok⟩
def shapeC (f:List AV → Stack → Tr Res):Contract:=fun args S k=>(f args S).run k
theorem shapeC_ok {g:Nat} {f:List AV → Stack → Tr Res} (h:∀ args S res,(f args S).val = some res → (okAVs args → okH S → SimCall PR A g args S res) ∧ ∀ l i,memWr l i res.2.1 = false → ObE (getH res.2.2 l i) (getH S l i) ∨ (l = 0 ∧ headLen S ≤ i)):Con PR A g (shapeC f):=by
  intro args S k r hc
  obtain ⟨res,h1,h2,h3⟩:=Tr.run_val hc
  obtain ⟨g1,g2⟩:=h args S res h1
  exact ⟨res,h3,h2,SimCall.ranged g1,g2⟩
def nextF:List AV → Stack → Tr Res
  | [.ptr 0 0 0],[[.cells [.ptr 2 0 0]],[],[.cells [.slice (.int .u8) b .view,.int .i64 e]]]=>.yes (.tuple [.int .u8 (nextS ⟨b,e⟩).2.1,.bool (nextS ⟨b,e⟩).2.2],[(2,0)],[[.cells [.ptr 2 0 0]],[],[ofSt (nextS ⟨b,e⟩).1]])
  | _,_=>.no
theorem next_ok:Con PR A n_pack_Reader_Num_1 (shapeC nextF):=by
  refine shapeC_ok fun args S res hv=>?_
  unfold nextF at hv
  split at hv
  · rename_i b e
    cases hv
    refine ⟨fun ha hh=>?_,fun l i hm=>?_⟩
    · have h:body PR (cfE [takeE]) cfgK (fun _=>none) n_pack_Reader_Num_1 [.ptr 0 0 0] [[.cells [.ptr 2 0 0]],[],[.cells [.slice (.int .u8) b .view,.int .i64 e]]] some =
        (bif ((takeS ⟨b,e⟩ 1).2.length:Int) == 0 then some (.tuple [.int .u8 0,.bool false],[(2,0)],[[.cells [.ptr 2 0 0]],[],[ofSt (takeS ⟨b,e⟩ 1).1]])
        else (at? (takeS ⟨b,e⟩ 1).2 0).bind fun x=>some (.tuple [.int .u8 x,.bool true],[(2,0)],[[.cells [.ptr 2 0 0]],[],[ofSt (takeS ⟨b,e⟩ 1).1]])):=by kernel_rfl
      refine fun_call _ mixed (by kernel_rfl) (by kernel_rfl) (no_loops (by kernel_rfl)) (h.trans ?_)
      unfold nextS
      generalize takeS ⟨b,e⟩ 1 = z
      obtain ⟨s1,l⟩:=z
      cases l with
      | nil=>rfl
      | cons x r =>
        have h1:(((x :: r).length:Int) == 0) = false:=by simp; omega
        simp only [h1,cond_false]
        rfl
    · match l,i with
      | 0,0=>exact .inl rfl
      | 0,i + 1=>exact .inl rfl
      | 1,i=>exact .inl rfl
      | 2,0=>simp [memWr,(beq_iff _ _).2 rfl] at hm
      | 2,i + 1=>exact .inl rfl
      | l + 3,i=>exact .inl rfl
  · cases hv
def nextE:Ent PR A:=⟨n_pack_Reader_Num_1,_,next_ok⟩
end Go.Crc
namespace Go.Crc
open Go.Vm Go.Pack
def lfRi:Nat → Option LoopSum:=lfOf [(26,loopT [5,6,7] [2] fun vs H=>match vs,H with
  | [.slice (.int .i64) l .view,.int .i64 ln,.int .i64 i],[] :: S=>.br (decide (i = 0)) (.br (decide (ln = l.length)) (.br (okAll l) (.yes (.exit 0,[.undef],[] :: S,[])) (.yes (.ret,[.bool false],[] :: S,[]))) .no) .no
  | _,_=>.no)]
noncomputable abbrev LRi (N:Nat):=LC PR (cfE (P:=PR) (A:=A) []) cfgK lfRi n_pack_right 0 26 [5,6,7] [2] N
theorem right_round (ln i:Int) (l:List Int) (S:Stack) (wr:Wr) (N:Nat) (k:Ex → List AV → Stack → Wr → Option Res) :
    LRi (N + 1) [.slice (.int .i64) l .view,.int .i64 ln,.int .i64 i] ([] :: S) wr k =
      (bif decide (i < ln) then (at? l i).bind fun x=>bif decide (x < 0) then k .ret [.bool false] ([] :: S) wr
        else bif decide (x > 4611686018427387904) then k .ret [.bool false] ([] :: S) wr
        else LRi N [.slice (.int .i64) l .view,.int .i64 ln,.int .i64 (IntKind.i64.wrap (i + 1))] ([] :: S) wr k
      else k (.exit 0) [.undef] ([] :: S) wr):=by kernel_rfl
theorem right_loop (l:List Int) (hl:l.length ≤ maxInt) (S:Stack) (wr:Wr) (k:Ex → List AV → Stack → Wr → Option Res):∀ (q j:Nat),j + q = l.length →
    LRi (q + 1) [.slice (.int .i64) l .view,.int .i64 (l.length:Int),.int .i64 (j:Int)] ([] :: S) wr k = (bif okAll (l.drop j) then k (.exit 0) [.undef] ([] :: S) wr else k .ret [.bool false] ([] :: S) wr)
  | 0,j,hj=>by
    rw [right_round,cond_ne (by simp <;> omega),List.drop_of_length_le (by omega)]
    rfl
  | q + 1,j,hj=>by
    obtain ⟨x,hx⟩:∃ x,l[j]? = some x:=⟨_,List.getElem?_eq_getElem (by omega)⟩
    rw [right_round,cond_eq (by simp <;> omega),at_some hx,Option.bind_some,drop_cons hx]
    simp only [okAll,okN]
    by_cases h1:x < 0
    · rw [decide_eq_true h1,decide_eq_false (show ¬ 0 ≤ x by omega)]; rfl
    · by_cases h2:x > 4611686018427387904
      · rw [decide_eq_false h1,decide_eq_true h2,decide_eq_true (show 0 ≤ x by omega),decide_eq_false (show ¬ x ≤ top by simp only [top]; omega)]; rfl
      · rw [decide_eq_false h1,decide_eq_false h2,decide_eq_true (show 0 ≤ x by omega),decide_eq_true (show x ≤ top by simp only [top]; omega),cond_false,cond_false,wrap_succ (n:=l.length) (by omega) hl,right_loop l hl S wr k q (j + 1) (by omega)]
        simp
def rightF:List AV → Tr AV
  | [.slice (.int .i64) l .view]=>.yes (.bool (okAll l))
  | _=>.no
theorem right_ok:Con PR A n_pack_right (pureC rightF):=by
  refine pureC_ok fun args v hv ha S=>?_
  unfold rightF at hv
  split at hv
  · rename_i l
    cases hv
    have h:body PR (cfE (P:=PR) (A:=A) []) cfgK lfRi n_pack_right [.slice (.int .i64) l .view] S some = (bif decide ((l.length:Int) = (l.length:Int)) then (bif okAll l then some (.bool true,[],S) else some (.bool false,[],S)) else none):=by kernel_rfl
    have h2:body PR (cfE (P:=PR) (A:=A) []) cfgK lfRi n_pack_right [.slice (.int .i64) l .view] S some = some (.bool (okAll l),[],S):=by
      rw [h,cond_eq (by simp)]
      cases okAll l <;> rfl
    refine fun_call _ mixed (by kernel_rfl) (by kernel_rfl) ?_ h2
    refine one_loop (p:=26) rfl (by kernel_rfl) (loopT_ok (by decide) fun vs H wr ex vs' H' w hv ha hh=>?_)
    split at hv
    · rename_i l ln i S
      obtain ⟨hi,hv2⟩:=Tr.br_no hv
      clear hv
      obtain ⟨hc,hv3⟩:=Tr.br_no hv2
      simp only [decide_eq_true_eq] at hi hc
      subst hi; subst hc
      simp only [okAVs,okAV] at ha
      refine ⟨l.length + 1,fun k=>?_⟩
      have:=right_loop l ha.1.1 S wr k l.length 0 (by omega)
      rw [List.drop_zero] at this
      rcases Tr.br_or hv3 with ⟨he,h4⟩ | ⟨he,h4⟩
      · cases h4; rw [he] at this; exact this
      · cases h4; rw [he] at this; exact this
    · cases hv
  · cases hv
def rightE:Ent PR A:=⟨n_pack_right,_,right_ok⟩
end Go.Crc
namespace Go.Crc
open Go.Vm Go.Pack
def nmH (s:St):Stack:=[[.cells [.ptr 2 0 0]],[],[ofSt s]]
def numZ (b:List Int) (e:Int):Bool × St × Nat × Nat:=bif e == 0 then rdEnd 0 0 b else (true,⟨b,e⟩,0,1)
def numEnd (lim:Int) (z:Bool × St × Nat × Nat):Tr (Ex × List AV × Stack × Wr) :=
  .br z.1 (.yes (.ret,[.int .i64 lim,.ptr 0 0 0,.int .i64 0,.int .i64 (z.2.2.1:Int)],nmH z.2.1,repApp z.2.2.2 [(2,0)]))
    (.yes (.exit 0,[.int .i64 lim,.ptr 0 0 0,.undef,.int .i64 (z.2.2.1:Int)],nmH z.2.1,repApp z.2.2.2 [(2,0)]))
def lfN:Nat → Option LoopSum:=lfOf [(220,loopT [1,2,5,6,7] [1,2,4,5] fun vs H=>match vs,H with
  | [.int .i64 lim,.ptr 0 0 0,.int .i64 n,.int .i64 k,.func f [] [.ptr 0 0 0]],[[.cells [.ptr 2 0 0]],[],[.cells [.slice (.int .u8) b .view,.int .i64 e]]] =>
    .br (Nat.beq f n_pack_Reader_Num_1 && (decide (n = 0) && decide (k = 0))) (numEnd lim (numZ b e)) .no
  | _,_=>.no)]
noncomputable abbrev LN (lf:Nat → Option LoopSum) (N:Nat):=LC PR (cfE [nextE,failE,rightE]) cfgK lf n_pack_Reader_Num 0 220 [1,2,5,6,7] [1,2,4,5] N
theorem num_round (lf:Nat → Option LoopSum) (b:List Int) (e lim n k':Int) (wr:Wr) (N:Nat) (k:Ex → List AV → Stack → Wr → Option Res) :
    LN lf (N + 1) [.int .i64 lim,.ptr 0 0 0,.int .i64 n,.int .i64 k',.func n_pack_Reader_Num_1 [] [.ptr 0 0 0]] [[.cells [.ptr 2 0 0]],[],[.cells [.slice (.int .u8) b .view,.int .i64 e]]] wr k =
      numT (nextS ⟨b,e⟩).2.2 (nextS ⟨b,e⟩).2.1 (IntKind.i64.wrap (k' + 1)) (!decide (IntKind.i64.wrap (7 * k') < 0))
        (k .ret [.int .i64 lim,.ptr 0 0 0,.int .i64 0,.int .i64 n] [[.cells [.ptr 2 0 0]],[],[.cells [.slice (.int .u8) (nextS ⟨b,e⟩).1.b .view,.int .i64 (nextS ⟨b,e⟩).1.e]]] ((2,0) :: wr))
        (k .ret [.int .i64 lim,.ptr 0 0 0,.int .i64 0,.int .i64 (bitop .or .i64 n (shiftL .i64 (IntKind.i64.wrap (bitop .and .u8 (nextS ⟨b,e⟩).2.1 127)) (IntKind.i64.wrap (7 * k'))))] [[.cells [.ptr 2 0 0]],[],[ofSt (failS ⟨(nextS ⟨b,e⟩).1.b,(nextS ⟨b,e⟩).1.e⟩ 21)]] ((2,0) :: (2,0) :: wr))
        (k (.exit 0) [.int .i64 lim,.ptr 0 0 0,.undef,.int .i64 (bitop .or .i64 n (shiftL .i64 (IntKind.i64.wrap (bitop .and .u8 (nextS ⟨b,e⟩).2.1 127)) (IntKind.i64.wrap (7 * k'))))] [[.cells [.ptr 2 0 0]],[],[.cells [.slice (.int .u8) (nextS ⟨b,e⟩).1.b .view,.int .i64 (nextS ⟨b,e⟩).1.e]]] ((2,0) :: wr))
        (LN lf N [.int .i64 lim,.ptr 0 0 0,.int .i64 (bitop .or .i64 n (shiftL .i64 (IntKind.i64.wrap (bitop .and .u8 (nextS ⟨b,e⟩).2.1 127)) (IntKind.i64.wrap (7 * k')))),.int .i64 (IntKind.i64.wrap (k' + 1)),.func n_pack_Reader_Num_1 [] [.ptr 0 0 0]] [[.cells [.ptr 2 0 0]],[],[.cells [.slice (.int .u8) (nextS ⟨b,e⟩).1.b .view,.int .i64 (nextS ⟨b,e⟩).1.e]]] ((2,0) :: wr) k):=by kernel_rfl
theorem num_loop (lf:Nat → Option LoopSum) (lim:Int) (K:Ex → List AV → Stack → Wr → Option Res):∀ (b:List Int) (n k:Nat) (wr:Wr),isBytes b → n < 128 ^ k → k ≤ 8 →
    LN lf (b.length + 1) [.int .i64 lim,.ptr 0 0 0,.int .i64 (n:Int),.int .i64 (k:Int),.func n_pack_Reader_Num_1 [] [.ptr 0 0 0]] [[.cells [.ptr 2 0 0]],[],[.cells [.slice (.int .u8) b .view,.int .i64 0]]] wr K =
      (bif (rdEnd n k b).1 then K .ret [.int .i64 lim,.ptr 0 0 0,.int .i64 0,.int .i64 ((rdEnd n k b).2.2.1:Int)] (nmH (rdEnd n k b).2.1) (app (repApp (rdEnd n k b).2.2.2 [(2,0)]) wr)
      else K (.exit 0) [.int .i64 lim,.ptr 0 0 0,.undef,.int .i64 ((rdEnd n k b).2.2.1:Int)] (nmH (rdEnd n k b).2.1) (app (repApp (rdEnd n k b).2.2.2 [(2,0)]) wr))
  | [],n,k,wr,hb,hn,hk=>by
    rw [List.length_nil,num_round,nextS_nil]
    rfl
  | x :: r,n,k,wr,hb,hn,hk=>by
    have hx:=hb x (by simp)
    have hd:=digit hn hk hx
    have hw7:IntKind.i64.wrap (7 * (k:Int)) = 7 * (k:Int):=wrap_i64 (by omega) (by omega)
    have hk1:IntKind.i64.wrap ((k:Int) + 1) = ((k + 1:Nat):Int):=by rw [wrap_i64 (by omega) (by omega)]; omega
    have hsh:(!decide (IntKind.i64.wrap (7 * (k:Int)) < 0)) = true:=by rw [hw7]; simp; omega
    rw [List.length_cons,num_round,nextS_cons,hsh,numT_eq,hd,hk1]
    simp only [rdEnd]
    by_cases h1:x < 128
    · rw [if_pos h1,decide_eq_true h1,cond_true]
      by_cases h2:1 ≤ k ∧ x = 0
      · obtain ⟨h3,rfl⟩:=h2
        rw [if_pos ⟨by omega,rfl⟩,decide_eq_true h3]
        rfl
      · rw [if_neg (fun h=>h2 ⟨by omega,h.2⟩)]
        have:(decide (1 ≤ k) && (x == 0)) = false:=by
          rw [Bool.and_eq_false_iff]
          by_cases h3:1 ≤ k
          · right; simpa using fun h=>h2 ⟨h3,h⟩
          · left; simpa using h3
        rw [this]
        rfl
    · rw [if_neg h1,decide_eq_false h1,cond_false]
      by_cases h3:k = 8
      · rw [if_pos (by omega),(beq_iff k 8).2 h3]
        rfl
      · rw [if_neg (by omega),Vm.beq_false.2 h3,cond_false]
        have hn':n + x.toNat % 128 * 128 ^ k < 128 ^ (k + 1):=by
          have h5:x.toNat % 128 * 128 ^ k ≤ 127 * 128 ^ k:=Nat.mul_le_mul_right _ (by omega)
          rw [Nat.pow_succ]
          omega
        have ih:=num_loop lf lim K r (n + x.toNat % 128 * 128 ^ k) (k + 1) ((2,0) :: wr) (fun y hy=>hb y (by simp [hy])) hn' (by omega)
        rw [ih]
        have hw:∀ w:Nat,app (repApp (w + 1) [(2,0)]) wr = app (repApp w [(2,0)]) ((2,0) :: wr):=fun w=>(rep_cons w wr).symm
        generalize rdEnd (n + x.toNat % 128 * 128 ^ k) (k + 1) r = z
        obtain ⟨a,s,m,w⟩:=z
        simp only
        rw [hw]
theorem num_end (lim:Int) (b:List Int) {e:Int} (he:e ≠ 0) (wr:Wr) (K:Ex → List AV → Stack → Wr → Option Res) :
    LN lfN 1 [.int .i64 lim,.ptr 0 0 0,.int .i64 0,.int .i64 0,.func n_pack_Reader_Num_1 [] [.ptr 0 0 0]] [[.cells [.ptr 2 0 0]],[],[.cells [.slice (.int .u8) b .view,.int .i64 e]]] wr K =
      K .ret [.int .i64 lim,.ptr 0 0 0,.int .i64 0,.int .i64 0] (nmH ⟨b,e⟩) ((2,0) :: wr):=by
  rw [num_round,nextS_err b he]
  rfl
theorem num_loops:∀ x ∈ funLoops PR n_pack_Reader_Num,∀ L,lfN x.1 = some L → LoopOK (ntm PR n_pack_Reader_Num) (fun fr H wr k=>code PR (cfE [nextE,failE,rightE]) cfgK lfN (cfgK.live n_pack_Reader_Num) x.2 (2 * x.1) fr H wr k) L:=by
  refine one_loop (p:=220) rfl (by kernel_rfl) (loopT_ok (by decide) fun vs H wr ex vs' H' w hv ha hh=>?_)
  split at hv
  · rename_i lim n k f b e
    obtain ⟨hc,hv2⟩:=Tr.br_no hv
    clear hv
    simp only [Bool.and_eq_true,beq_iff,decide_eq_true_eq] at hc
    obtain ⟨rfl,rfl,rfl⟩:=hc
    by_cases he:e = 0
    · subst he
      have hb:isBytes b:=by
        have:=hh 2 0 _ rfl
        simp only [okAVs,okAV] at this
        exact bytes_ok this.1
      refine ⟨b.length + 1,fun K=>?_⟩
      have h1:=num_loop lfN lim K b 0 0 wr hb (by decide) (by omega)
      have hv3:(numEnd lim (rdEnd 0 0 b)).val = some (ex,vs',H',w):=hv2
      generalize rdEnd 0 0 b = z at h1 hv3
      obtain ⟨a,s,m,c⟩:=z
      cases a with
      | true=>cases hv3; exact h1
      | false=>cases hv3; exact h1
    · have he':(e == 0) = false:=by simpa using he
      have hv3:(numEnd lim (true,⟨b,e⟩,0,1)).val = some (ex,vs',H',w):=by unfold numZ at hv2; rw [he'] at hv2; exact hv2
      cases hv3
      exact ⟨1,fun K=>num_end lim b he wr K⟩
  · cases hv
def numF:Ob → List AV → Tr (AV × Bool × Ob)
  | .cells [.slice (.int .u8) b .view,.int .i64 e],[.int .i64 lim]=>.yes (.int .i64 (numR ⟨b,e⟩ lim).2,true,ofSt (numR ⟨b,e⟩ lim).1)
  | _,_=>.no
theorem outer20:∀ (n:Nat) {l i:Nat} {wr:Wr},memWr l i [(1,0)] = false → memWr l i (outer wr) = false → memWr l i (outer (app (repApp n [(2,0)]) wr)) = false
  | 0,_,_,_,_,h=>h
  | n + 1,l,i,wr,hm,h=>by
    have ih:=outer20 n hm h
    simp only [memWr,Bool.or_false] at hm
    simp only [repApp,app,outer,memWr,hm,Bool.false_or]
    exact ih
theorem num_ok:Con PR A n_pack_Reader_Num (objC 0 numF):=by
  refine objC_ok fun x rest v wrote x' hv=>?_
  unfold numF at hv
  split at hv
  · rename_i b e lim
    cases hv
    refine ⟨rfl,rfl,rfl,rfl,by simp,fun ha hh=>?_⟩
    have hb:isBytes b:=by
      have:=hh 1 0 _ rfl
      simp only [okAVs,okAV] at this
      exact bytes_ok this.1
    have h:body PR (cfE [nextE,failE,rightE]) cfgK lfN n_pack_Reader_Num [.ptr 1 0 0,.int .i64 lim] [[],[.cells [.slice (.int .u8) b .view,.int .i64 e]]] some =
      (bif (numZ b e).1 then some (.int .i64 0,outer (app (repApp (numZ b e).2.2.2 [(2,0)]) []),[[],[ofSt (numZ b e).2.1]])
      else bif !(okAll [((numZ b e).2.2.1:Int)]) then some (.int .i64 0,outer (app [(2,0)] (app (repApp (numZ b e).2.2.2 [(2,0)]) [])),[[],[ofSt (failS ⟨(numZ b e).2.1.b,(numZ b e).2.1.e⟩ 21)]])
      else bif decide (((numZ b e).2.2.1:Int) > lim) then some (.int .i64 0,outer (app [(2,0)] (app (repApp (numZ b e).2.2.2 [(2,0)]) [])),[[],[ofSt (failS ⟨(numZ b e).2.1.b,(numZ b e).2.1.e⟩ 21)]])
      else some (.int .i64 ((numZ b e).2.2.1:Int),outer (app (repApp (numZ b e).2.2.2 [(2,0)]) []),[[],[ofSt (numZ b e).2.1]])):=by kernel_rfl
    have hS:∀ {v:AV} {wr:Wr} {H:Stack},body PR (cfE [nextE,failE,rightE]) cfgK lfN n_pack_Reader_Num [.ptr 1 0 0,.int .i64 lim] [[],[.cells [.slice (.int .u8) b .view,.int .i64 e]]] some = some (v,wr,H) → (∀ l i,memWr l i [(1,0)] = false → memWr l i wr = false) → SimCall PR A n_pack_Reader_Num [.ptr 1 0 0,.int .i64 lim] [[],[.cells [.slice (.int .u8) b .view,.int .i64 e]]] (v,[(1,0)],H) :=
      fun h hw=>SimCall.wr (fun_call _ mixed (by kernel_rfl) (by kernel_rfl) num_loops h) hw
    have hw1:∀ (n l i:Nat),memWr l i [(1,0)] = false → memWr l i (outer (app (repApp n [(2,0)]) [])) = false:=fun n l i hm=>outer20 n hm rfl
    have hw2:∀ (n l i:Nat),memWr l i [(1,0)] = false → memWr l i (outer (app [(2,0)] (app (repApp n [(2,0)]) []))) = false:=fun n l i hm=>by
      have:=hw1 (n + 1) l i hm
      exact this
    by_cases he:e = 0
    · subst he
      have hz:numZ b 0 = rdEnd 0 0 b:=rfl
      rw [hz] at h
      have h2:=rdEnd_eq b 0 0 hb
      rw [rdFrom_zero] at h2
      unfold numR
      simp only [if_true]
      cases hr:rd 0 b with
      | short =>
        rw [hr] at h2
        obtain ⟨m,w,h3⟩:=h2
        rw [h3] at h
        exact hS h (hw1 w)
      | form r =>
        rw [hr] at h2
        obtain ⟨m,w,h3⟩:=h2
        rw [h3] at h
        exact hS h (hw1 w)
      | ok m r =>
        rw [hr] at h2
        obtain ⟨w,h3⟩:=h2
        rw [h3] at h
        simp only [cond_false] at h
        have hok:okAll [(m:Int)] = decide ((m:Int) ≤ top):=by
          unfold okAll okAll okN
          rw [decide_eq_true (by omega)]
          simp
        rw [hok] at h
        by_cases g1:(m:Int) > top
        · rw [decide_eq_false (by omega)] at h
          simp only
          rw [if_pos (.inl g1)]
          exact hS h (hw2 w)
        · rw [decide_eq_true (by omega)] at h
          by_cases g2:(m:Int) > lim
          · rw [decide_eq_true g2] at h
            simp only
            rw [if_pos (.inr g2)]
            exact hS h (hw2 w)
          · rw [decide_eq_false g2] at h
            simp only
            rw [if_neg (fun hh=>hh.elim g1 g2)]
            exact hS h (hw1 w)
    · have he':(e == 0) = false:=by simpa using he
      have hz:numZ b e = (true,⟨b,e⟩,0,1):=by unfold numZ; rw [he']; rfl
      rw [hz] at h
      unfold numR
      simp only [if_neg he]
      exact hS h (hw1 1)
  · cases hv
def numE:Ent PR A:=⟨n_pack_Reader_Num,_,num_ok⟩
end Go.Crc
