/- Contracts of functions of this program. Conditions: none. -/
import Derived.Test.YtdmjiibhfgieaaaGreatWm
set_option linter.unusedVariables false
set_option linter.unusedSimpArgs false
/- Calls of scripts on replicas: the contract. Conditions: none. A text of this seat's numbers. -/
set_option linter.unusedVariables false
set_option linter.unusedSimpArgs false
set_option maxRecDepth 100000
namespace Go.Crc
open Go.Vm Go.Pack Go.Rec Go.RowKit
theorem dsOK_iff {z : RpS} {id t : Int} {s : List Int} {sh : List (List Int)} : dsOK z id t s sh = true ↔ goodR z = true ∧ conOK t s sh id = true ∧ rdG (rsB z) = true ∧ id = z.id ∧ t = z.te := by
  unfold dsOK
  simp only [Bool.and_eq_true, decide_eq_true_eq]
theorem cid_tk (z : RpS) (m : Msg) : cid z (tkZ z m) = tkZ z m := cid_self (tkZ_ids z m)
end Go.Crc
/- Replicas through scripts of calls: what is kept. Conditions: none. A text of this seat's numbers. -/
set_option linter.unusedVariables false
set_option linter.unusedSimpArgs false
set_option maxRecDepth 100000
namespace Go.Crc
open Go.Vm Go.Pack Go.Rec Go.RowKit
theorem RpInv.rs {z : RpS} {F : List (List Int)} {y : Nat} (h : RpInv z F y) : RpInv (rsZ z) (F.take y) y := by
  have hc := h.st.anew
  refine ⟨hc, ?_⟩
  have hf := hc.frames
  have ht := rpR_take (L := []) (s := false) (by rw [h.rd]) y (F := F)
  have hf' : scanL (rsB z) = F.take y := hf
  unfold rsZ rdL rdS
  simp only
  rw [hf']
  exact Prod.ext rfl (Prod.ext rfl ht)
theorem RpInv.rdG {z : RpS} {F : List (List Int)} {y : Nat} (h : RpInv z F y) : rdG (rsB z) = true := by
  have hf : scanL (rsB z) = F.take y := h.st.anew.frames
  have ht := rpR_take (L := []) (s := false) (by rw [h.rd]) y (F := F)
  show (rpR (scanL (rsB z)) [] false).2.2 = true
  rw [hf]; exact ht
theorem RpInv.ok {z : RpS} {F : List (List Int)} {y : Nat} (h : RpInv z F y) {s : List Int} {sh : List (List Int)} (hc : conOK z.te s sh z.id = true) : dsOK z z.id z.te s sh = true :=
  dsOK_iff.2 ⟨h.good, hc, h.rdG, rfl, rfl⟩
structure Syn (z : RpS) (F : List (List Int)) : Prop where
  inv : RpInv z F F.length
  on : z.o = false
theorem tlZ_o (z : RpS) (e : Int) : (tlZ z e).o = z.o := by unfold tlZ; cases e == 0 <;> rfl
theorem tkZ_o (z : RpS) (m : Msg) : (tkZ z m).o = z.o := by
  unfold tkZ
  cases mineM z m with
  | false => rfl
  | true =>
    cases m.k == 5 with
    | true => exact (tlZ_o _ _).trans (clZ_o z)
    | false =>
      cases m.k == 3 with
      | true => exact (tlZ_o _ _).trans (orZ_o z m.e)
      | false => rfl
theorem tkY_all {z : RpS} {F : List (List Int)} (h : z.o = false) (m : Msg) : tkY z F F.length m = (tkF z F m).length := by
  unfold tkY
  rw [h]
  cases hc : (mineM z m && (m.k == 5 || m.k == 3) && tkE z m == 0) with
  | true => rfl
  | false =>
    simp only [cond_false]
    unfold tkF
    unfold tkE at hc
    cases hm : mineM z m with
    | false => rfl
    | true =>
      rw [hm] at hc
      cases h5 : m.k == 5 with
      | true =>
        rw [h5] at hc
        have h3 : (m.k == 3) = false := by rw [beq_iff_eq] at h5; rw [h5]; rfl
        rw [h3]
        cases hg : clGo z with
        | true => rw [clE_go hg] at hc; cases hc
        | false => rfl
      | false =>
        cases h3 : m.k == 3 with
        | true =>
          rw [h5, h3] at hc
          cases hg : orGo z m.e with
          | true => rw [orE_go hg] at hc; cases hc
          | false => rfl
        | false => rfl
theorem Syn.tk {z : RpS} {F : List (List Int)} (h : Syn z F) (m : Msg) : Syn (tkZ z m) (tkF z F m) := by
  refine ⟨?_, (tkZ_o z m).trans h.on⟩
  have := h.inv.tk m
  rwa [tkY_all h.on] at this
theorem dcN_all (F : List (List Int)) (k : Int) : dcN F (F.length : Int) k = F.length := by
  unfold dcN
  rw [Int.toNat_natCast, List.drop_length]
  rfl
theorem Syn.cs {z : RpS} {F : List (List Int)} (h : Syn z F) (k : Int) : Syn (csR z k) F ∧ (csR z k).l = z.l ∧ (csR z k).se = z.se := by
  have := h.inv.cs k
  rw [dcN_all, List.take_of_length_le (Nat.le_refl _)] at this
  have e := this.rd
  rw [h.inv.rd] at e
  simp only [Prod.mk.injEq] at e
  exact ⟨⟨this, rfl⟩, e.1.symm, e.2.1.symm⟩
theorem Syn.rs {z : RpS} {F : List (List Int)} (h : Syn z F) : Syn (rsZ z) F ∧ (rsZ z).l = z.l ∧ (rsZ z).se = z.se := by
  have := h.inv.rs
  rw [List.take_of_length_le (Nat.le_refl _)] at this
  have e := this.rd
  rw [h.inv.rd] at e
  simp only [Prod.mk.injEq] at e
  exact ⟨⟨this, rfl⟩, e.1.symm, e.2.1.symm⟩
theorem tlZ_l (z : RpS) (e : Int) : (tlZ z e).l = z.l ∧ (tlZ z e).se = z.se := by unfold tlZ; cases e == 0 <;> exact ⟨rfl, rfl⟩
end Go.Crc
/- Rows of entries compared; a replica that lives. Conditions: none. A text of this seat's numbers. -/
set_option linter.unusedVariables false
set_option linter.unusedSimpArgs false
set_option maxRecDepth 100000
namespace Go.Crc
open Go.Vm Go.Pack Go.Rec Go.RowKit
theorem esame_bne (x y : En) : (!esameB x.1 x.2.1 x.2.2.1 x.2.2.2.1 x.2.2.2.2.1 x.2.2.2.2.2 y.1 y.2.1 y.2.2.1 y.2.2.2.1 y.2.2.2.2.1 y.2.2.2.2.2) = (x != y) := by
  rw [bne]
  congr 1
  rw [Bool.eq_iff_iff, esameB_iff, beq_iff_eq]
  constructor
  · rintro ⟨h1, h2, h3, h4, h5, h6⟩
    exact Prod.ext h1 (Prod.ext h2 (Prod.ext h3 (Prod.ext h4 (Prod.ext h5 h6))))
  · rintro rfl; exact ⟨rfl, rfl, rfl, rfl, rfl, rfl⟩
def saaF : List AV → Tr AV
  | [.slice (.pair (.int .i64) (.pair (.int .i64) (.pair (.slice (.int .i64)) (.pair (.int .i64) (.pair (.int .i64) (.int .i64)))))) a .view, .slice (.pair (.int .i64) (.pair (.int .i64) (.pair (.slice (.int .i64)) (.pair (.int .i64) (.pair (.int .i64) (.int .i64)))))) b .view] => .yes (.bool (a == b))
  | _ => .no
def lfSaa : Nat → Option LoopSum := lfOf [(58, loopT [0, 1, 5] [4] fun vs H => match vs, H with
  | [.slice (.pair (.int .i64) (.pair (.int .i64) (.pair (.slice (.int .i64)) (.pair (.int .i64) (.pair (.int .i64) (.int .i64)))))) a .view, .slice (.pair (.int .i64) (.pair (.int .i64) (.pair (.slice (.int .i64)) (.pair (.int .i64) (.pair (.int .i64) (.int .i64)))))) b .view, .int .i64 i], [] :: S => .br (decide (i = 0) && decide (a.length = b.length)) (.br (a == b) (.yes (.exit 0, [.undef], [] :: S, [])) (.yes (.ret, [.bool false], [] :: S, []))) .no
  | _, _ => .no)]
noncomputable abbrev LSaa (N : Nat) := LC PR (cfE (P := PR) (A := A) [esrE]) cfgRp lfSaa n_ref05_SameAll 0 58 [0, 1, 5] [4] N
theorem saa_round (a b : List En) (i : Int) (S : Stack) (wr : Wr) (N : Nat) (k : Ex → List AV → Stack → Wr → Option Res) :
    LSaa (N + 1) [.slice EnT a .view, .slice EnT b .view, .int .i64 i] ([] :: S) wr k =
      (bif decide (i < (a.length : Int)) then (at? a i).bind fun x => (at? b i).bind fun y => bif !esameB x.1 x.2.1 x.2.2.1 x.2.2.2.1 x.2.2.2.2.1 x.2.2.2.2.2 y.1 y.2.1 y.2.2.1 y.2.2.2.1 y.2.2.2.2.1 y.2.2.2.2.2 then k .ret [.bool false] ([] :: S) wr
        else LSaa N [.slice EnT a .view, .slice EnT b .view, .int .i64 (IntKind.i64.wrap (i + 1))] ([] :: S) wr k
      else k (.exit 0) [.undef] ([] :: S) wr) := by kernel_rfl
theorem saa_loops : ∀ x ∈ funLoops PR n_ref05_SameAll, ∀ L, lfSaa x.1 = some L → LoopOK (ntm PR n_ref05_SameAll) (fun fr H wr k => code PR (cfE (P := PR) (A := A) [esrE]) cfgRp lfSaa (cfgRp.live n_ref05_SameAll) x.2 (2 * x.1) fr H wr k) L := by
  refine one_loop (p := 58) rfl (by kernel_rfl) (loopT_ok (by decide) fun vs H wr ex vs' H' w hv ha hh => ?_)
  split at hv
  · rename_i a b i S
    obtain ⟨hc, hv2⟩ := Tr.br_no hv
    clear hv
    simp only [Bool.and_eq_true, decide_eq_true_eq] at hc
    obtain ⟨rfl, hl⟩ := hc
    have hmax : a.length ≤ maxInt := by simp only [okAVs, okAV] at ha; exact ha.1.1
    refine ⟨a.length + 1, fun k => ?_⟩
    have := eq_loop (F := fun N i => LSaa N [.slice EnT a .view, .slice EnT b .view, .int .i64 i] ([] :: S) wr k) (xs := a) (ys := b) (R := k .ret [.bool false] ([] :: S) wr) (E := k (.exit 0) [.undef] ([] :: S) wr) rfl hl hmax (fun N i => by
      have h := saa_round a b i S wr N k
      simp only [esame_bne] at h
      exact h) a.length 0 (by omega)
    rw [List.drop_zero, List.drop_zero] at this
    rcases Tr.br_or hv2 with ⟨he, h4⟩ | ⟨he, h4⟩
    · cases h4; rw [he] at this; exact this
    · cases h4; rw [he] at this; exact this
  · cases hv
theorem lenE_neq {a b : List En} : ((a.length : Int) != (b.length : Int)) = !decide (a.length = b.length) := by
  by_cases h : a.length = b.length
  · simp [h]
  · simp [h]; omega
theorem neE_len {a b : List En} (h : a.length ≠ b.length) : (a == b) = false := by
  rw [beq_eq_false_iff_ne]
  intro e; exact h (by rw [e])
theorem saa_ok : Con PR A n_ref05_SameAll (pureC saaF) := by
  refine pure_con (cfg := cfgRp) (lf := lfSaa) [esrE] mixed (by kernel_rfl) (by kernel_rfl) saa_loops fun args v hv ha S => ?_
  unfold saaF at hv
  split at hv
  · rename_i a b
    cases hv
    have h : body PR (cfE (P := PR) (A := A) [esrE]) cfgRp lfSaa n_ref05_SameAll [.slice EnT a .view, .slice EnT b .view] S some =
      (bif (a.length : Int) != (b.length : Int) then some (.bool false, [], S)
      else bif true && decide (a.length = b.length) then (bif a == b then some (.bool true, [], S) else some (.bool false, [], S)) else none) := by kernel_rfl
    refine h.trans ?_
    rw [lenE_neq]
    by_cases hl : a.length = b.length
    · rw [decide_eq_true hl]
      cases a == b <;> rfl
    · rw [decide_eq_false hl, neE_len hl]; rfl
  · cases hv
def saaE : Ent PR A := ⟨n_ref05_SameAll, _, saa_ok⟩
end Go.Crc
/- A replica that lives. Conditions: none. A text of this seat's numbers. -/
set_option linter.unusedVariables false
set_option linter.unusedSimpArgs false
set_option maxRecDepth 100000
namespace Go.Crc
open Go.Vm Go.Pack Go.Rec Go.RowKit
def ralF : List AV → Tr AV
  | [] => .yes (.bool true)
  | _ => .no
noncomputable def EAl : List (Ent PR A) := [rNwE, rTkE, rSeE, rLenE]
theorem ral_ok : Con PR A n_law_alive (pureC ralF) := by
  refine pure_con0 (cfg := cfgRp) EAl mixed (by kernel_rfl) (by kernel_rfl) (by kernel_rfl) fun args v hv ha S => ?_
  unfold ralF at hv
  split at hv
  · cases hv
    kernel_rfl
  · cases hv
def ralE : Ent PR A := ⟨n_law_alive, _, ral_ok⟩
end Go.Crc
/- Scripts run on replicas. Conditions: none. A text of this seat's numbers. -/
set_option linter.unusedVariables false
set_option linter.unusedSimpArgs false
set_option maxRecDepth 100000
namespace Go.Crc
open Go.Vm Go.Pack Go.Rec Go.RowKit
end Go.Crc
/- Scripts run on replicas, as folds; a message twice. Conditions: none. A text of this seat's numbers. -/
set_option linter.unusedVariables false
set_option linter.unusedSimpArgs false
set_option maxRecDepth 100000
namespace Go.Crc
open Go.Vm Go.Pack Go.Rec Go.RowKit
def zR0 (id t : Int) : RpS := ⟨id, t, [], false, [], 0, false⟩
theorem zR0_syn (id t : Int) : Syn (zR0 id t) [] := ⟨⟨⟨rfl, (fun x hx => by cases hx), Nat.zero_le _, Nat.zero_le _, rfl⟩, rfl⟩, rfl⟩
end Go.Crc
