/- Contracts of functions of this program. Conditions: none. -/
import Derived.Test.YthejhodnoanngaaWl
set_option linter.unusedVariables false
set_option linter.unusedSimpArgs false
/- The program's answers to calls. Conditions: none. A text of this seat's numbers. -/
set_option linter.unusedVariables false
set_option linter.unusedSimpArgs false
set_option maxRecDepth 100000
namespace Go.Crc
open Go.Vm Go.Pack Go.Rec Go.RowKit
abbrev ansA (n e : Int) (b : List Int) (i : Bool) : AV := .agg [.int .i64 n, .int .i64 e, .str b, .bool i]
abbrev ansO (n e : Int) (b : List Int) (i : Bool) : Ob := .cells [.int .i64 n, .int .i64 e, .str b, .bool i]
abbrev opO (kd n : Int) (x : List Int) (is : Bool) : Ob := .cells [.int .i64 kd, .int .i64 n, .slice (.int .u8) x .view, .bool is]
def dsE (kd : Int) (o : Bool) : Int := bif kd == 0 then (bif o then 81 else 80) else 0
def dsB (b : List Int) (kd nn : Int) : List Int := bif kd == 3 then rdX b nn else []
def dsI (b : List Int) (kd nn : Int) : Bool := bif kd == 3 then rdB b nn else false
def dsN (b : List Int) (n kd : Int) (o : Bool) : Int := bif kd == 1 then (bif o then n else (b.length : Int)) else n
def dsO (kd : Int) (o is : Bool) : Bool := bif kd == 4 then is else o
def doesF : List AV → Stack → Tr Res
  | [.ptr 0 0 0, .agg [.int .i64 kd, .int .i64 nn, .slice (.int .u8) x .view, .bool is]], (.cells [.slice (.int .u8) b lv, .int .i64 n, .bool o] :: r) :: S =>
    .br (lvG lv && (decide (b.length ≤ 1000000) && (decide (0 ≤ n) && decide (n ≤ (b.length : Int)))))
      (.br (kd == 5) (.yes (.tuple [.ptr 0 (lenN r + 4) 0, ansA 0 0 [] false], [], app (stOb b lv n o :: r) [opO kd nn x is, ansO 0 0 [] false, ansO 0 0 [] false, stOb (nwB (b.take n.toNat)) .own (scanN ((b.take n.toNat).take 65536)) false] :: S))
      (.br (kd == 2) (.yes (.tuple [.ptr 0 0 0, ansA 0 0 [] false], [(0, 0)], (stOb (crB b n nn) .full (scanN (crT b n nn)) false :: r) :: S))
      (.br (kd == 0 && appOK b x o) (.yes (.tuple [.ptr 0 0 0, ansA b.length 0 [] false], [(0, 0)], (stOb (b ++ frB x) .own n o :: r) :: S))
      (.yes (.tuple [.ptr 0 0 0, ansA 0 (dsE kd o) (dsB b kd nn) (dsI b kd nn)], [(0, 0)], (stOb b lv (dsN b n kd o) (dsO kd o is) :: r) :: S))))) .no
  | _, _ => .no
noncomputable abbrev EDs : List (Ent PR A) := [stApE, stSyncE, stCrE, stRdE, stOffE, stByE, stNwE]
theorem does_own (b : List Int) (n kd nn : Int) (o is : Bool) (x : List Int) (r : List Ob) (S : Stack) : body PR (cfE EDs) cfgG lf0 n_law_does [.ptr 0 0 0, opV kd nn x is] ((stOb b .own n o :: r) :: S) some =
    (bif kd == 0 then bif decide (b.length ≤ 1000000) then
        bif appOK b x o then some (.tuple [.ptr 0 0 0, ansA b.length 0 [] false], [(0, 0)], (stOb (b ++ frB x) .own n o :: r) :: S)
        else some (.tuple [.ptr 0 0 0, ansA 0 (bif o then 81 else 80) [] false], [], (stOb b .own n o :: r) :: S) else none
    else bif kd == 1 then some (.tuple [.ptr 0 0 0, ansA 0 0 [] false], [(0, 0)], (stOb b .own (bif o then n else (b.length : Int)) o :: r) :: S)
    else bif kd == 2 then bif decide (b.length ≤ 1000000) && (decide (0 ≤ n) && decide (n ≤ (b.length : Int))) then some (.tuple [.ptr 0 0 0, ansA 0 0 [] false], [(0, 0)], (stOb (crB b n nn) .full (scanN (crT b n nn)) false :: r) :: S) else none
    else bif kd == 3 then bif decide (b.length ≤ 1000000) then some (.tuple [.ptr 0 0 0, ansA 0 0 (rdX b nn) (rdB b nn)], [], (stOb b .own n o :: r) :: S) else none
    else bif kd == 4 then some (.tuple [.ptr 0 0 0, ansA 0 0 [] false], [(0, 0)], (stOb b .own n is :: r) :: S)
    else bif kd == 5 then bif decide (b.length ≤ 1000000) && (decide (0 ≤ n) && decide (n ≤ (b.length : Int))) then
      some (.tuple [.ptr 0 (lenN r + 4) 0, ansA 0 0 [] false], [], app (stOb b .own n o :: r) [opO kd nn x is, ansO 0 0 [] false, ansO 0 0 [] false, stOb (nwB (b.take n.toNat)) .own (scanN ((b.take n.toNat).take 65536)) false] :: S) else none
    else some (.tuple [.ptr 0 0 0, ansA 0 0 [] false], [], (stOb b .own n o :: r) :: S)) := by kernel_rfl
theorem does_full (b : List Int) (n kd nn : Int) (o is : Bool) (x : List Int) (r : List Ob) (S : Stack) : body PR (cfE EDs) cfgG lf0 n_law_does [.ptr 0 0 0, opV kd nn x is] ((stOb b .full n o :: r) :: S) some =
    (bif kd == 0 then bif decide (b.length ≤ 1000000) then
        bif appOK b x o then some (.tuple [.ptr 0 0 0, ansA b.length 0 [] false], [(0, 0)], (stOb (b ++ frB x) .own n o :: r) :: S)
        else some (.tuple [.ptr 0 0 0, ansA 0 (bif o then 81 else 80) [] false], [], (stOb b .full n o :: r) :: S) else none
    else bif kd == 1 then some (.tuple [.ptr 0 0 0, ansA 0 0 [] false], [(0, 0)], (stOb b .full (bif o then n else (b.length : Int)) o :: r) :: S)
    else bif kd == 2 then bif decide (b.length ≤ 1000000) && (decide (0 ≤ n) && decide (n ≤ (b.length : Int))) then some (.tuple [.ptr 0 0 0, ansA 0 0 [] false], [(0, 0)], (stOb (crB b n nn) .full (scanN (crT b n nn)) false :: r) :: S) else none
    else bif kd == 3 then bif decide (b.length ≤ 1000000) then some (.tuple [.ptr 0 0 0, ansA 0 0 (rdX b nn) (rdB b nn)], [], (stOb b .full n o :: r) :: S) else none
    else bif kd == 4 then some (.tuple [.ptr 0 0 0, ansA 0 0 [] false], [(0, 0)], (stOb b .full n is :: r) :: S)
    else bif kd == 5 then bif decide (b.length ≤ 1000000) && (decide (0 ≤ n) && decide (n ≤ (b.length : Int))) then
      some (.tuple [.ptr 0 (lenN r + 4) 0, ansA 0 0 [] false], [], app (stOb b .full n o :: r) [opO kd nn x is, ansO 0 0 [] false, ansO 0 0 [] false, stOb (nwB (b.take n.toNat)) .own (scanN ((b.take n.toNat).take 65536)) false] :: S) else none
    else some (.tuple [.ptr 0 0 0, ansA 0 0 [] false], [], (stOb b .full n o :: r) :: S)) := by kernel_rfl
def dsR (b : List Int) (lv : Lv) (n kd nn : Int) (o is : Bool) (x : List Int) (r : List Ob) (S : Stack) : Option Res :=
    (bif kd == 0 then bif decide (b.length ≤ 1000000) then
        bif appOK b x o then some (.tuple [.ptr 0 0 0, ansA b.length 0 [] false], [(0, 0)], (stOb (b ++ frB x) .own n o :: r) :: S)
        else some (.tuple [.ptr 0 0 0, ansA 0 (bif o then 81 else 80) [] false], [], (stOb b lv n o :: r) :: S) else none
    else bif kd == 1 then some (.tuple [.ptr 0 0 0, ansA 0 0 [] false], [(0, 0)], (stOb b lv (bif o then n else (b.length : Int)) o :: r) :: S)
    else bif kd == 2 then bif decide (b.length ≤ 1000000) && (decide (0 ≤ n) && decide (n ≤ (b.length : Int))) then some (.tuple [.ptr 0 0 0, ansA 0 0 [] false], [(0, 0)], (stOb (crB b n nn) .full (scanN (crT b n nn)) false :: r) :: S) else none
    else bif kd == 3 then bif decide (b.length ≤ 1000000) then some (.tuple [.ptr 0 0 0, ansA 0 0 (rdX b nn) (rdB b nn)], [], (stOb b lv n o :: r) :: S) else none
    else bif kd == 4 then some (.tuple [.ptr 0 0 0, ansA 0 0 [] false], [(0, 0)], (stOb b lv n is :: r) :: S)
    else bif kd == 5 then bif decide (b.length ≤ 1000000) && (decide (0 ≤ n) && decide (n ≤ (b.length : Int))) then
      some (.tuple [.ptr 0 (lenN r + 4) 0, ansA 0 0 [] false], [], app (stOb b lv n o :: r) [opO kd nn x is, ansO 0 0 [] false, ansO 0 0 [] false, stOb (nwB (b.take n.toNat)) .own (scanN ((b.take n.toNat).take 65536)) false] :: S) else none
    else some (.tuple [.ptr 0 0 0, ansA 0 0 [] false], [], (stOb b lv n o :: r) :: S))
theorem does_eq {lv : Lv} (h : lvG lv = true) (b : List Int) (n kd nn : Int) (o is : Bool) (x : List Int) (r : List Ob) (S : Stack) : body PR (cfE EDs) cfgG lf0 n_law_does [.ptr 0 0 0, opV kd nn x is] ((stOb b lv n o :: r) :: S) some = dsR b lv n kd nn o is x r S := by
  rcases lvG_cases h with rfl | rfl
  · exact does_own b n kd nn o is x r S
  · exact does_full b n kd nn o is x r S
theorem ne_beq {a c : Int} (h : a ≠ c) : (a == c) = false := by simpa using h
theorem head_keeps (z z' : Ob) (r : List Ob) (S : Stack) : ∀ l i, memWr l i [(0, 0)] = false → ObE (getH ((z' :: r) :: S) l i) (getH ((z :: r) :: S) l i) ∨ (l = 0 ∧ headLen ((z :: r) :: S) ≤ i)
  | 0, 0, h => by simp [memWr, (beq_iff _ _).2 rfl] at h
  | 0, i + 1, h => .inl (copyvs_refl_ObE _)
  | l + 1, i, h => .inl (copyvs_refl_ObE _)
theorem app_keeps (z : List Ob) (y : List Ob) (S : Stack) : ∀ l i, memWr l i [] = false → ObE (getH (app z y :: S) l i) (getH (z :: S) l i) ∨ (l = 0 ∧ headLen (z :: S) ≤ i)
  | l + 1, i, _ => .inl (copyvs_refl_ObE _)
  | 0, i, _ => by
    simp only [headLen, lenN_eq]
    rcases Nat.lt_or_ge i z.length with hi | hi
    · left
      simp only [getH, nth_eq, app_eq]
      rw [List.getElem?_append_left hi]
      exact copyvs_refl_ObE _
    · exact .inr ⟨trivial, hi⟩
theorem does_ok : Con PR A n_law_does (shapeC doesF) := by
  refine shapeC_ok fun args S res hv => ?_
  unfold doesF at hv
  split at hv
  · rename_i kd nn x is b lv n o r S
    obtain ⟨hc, hv2⟩ := Tr.br_no hv
    clear hv
    simp only [Bool.and_eq_true, decide_eq_true_eq] at hc
    obtain ⟨hlv, h1, h2, h3⟩ := hc
    have hE := does_eq hlv b n kd nn o is x r S
    have hcall : ∀ v wr S', dsR b lv n kd nn o is x r S = some (v, wr, S') → SimCall PR A n_law_does [.ptr 0 0 0, opV kd nn x is] ((stOb b lv n o :: r) :: S) (v, wr, S') := fun v wr S' h => fun_call _ mixed (by kernel_rfl) (by kernel_rfl) (no_loops (by kernel_rfl)) (hE.trans h)
    have h0 : ∀ v S', dsR b lv n kd nn o is x r S = some (v, [], S') → SimCall PR A n_law_does [.ptr 0 0 0, opV kd nn x is] ((stOb b lv n o :: r) :: S) (v, [(0, 0)], S') := fun v S' h => SimCall.wr (hcall v [] S' h) fun l i hm => rfl
    have c1 : decide (b.length ≤ 1000000) = true := decide_eq_true h1
    have c2 : (decide (b.length ≤ 1000000) && (decide (0 ≤ n) && decide (n ≤ (b.length : Int)))) = true := by simp only [Bool.and_eq_true, decide_eq_true_eq]; exact ⟨h1, h2, h3⟩
    rcases Tr.br_or hv2 with ⟨k5, hv3⟩ | ⟨k5, hv3⟩
    · cases hv3
      rw [beq_iff_eq] at k5
      subst k5
      refine ⟨fun _ _ => hcall _ _ _ ?_, app_keeps _ _ _⟩
      unfold dsR
      rw [c2]
      rfl
    clear hv2
    rw [beq_eq_false_iff_ne] at k5
    rcases Tr.br_or hv3 with ⟨k2, hv4⟩ | ⟨k2, hv4⟩
    · cases hv4
      rw [beq_iff_eq] at k2
      subst k2
      refine ⟨fun _ _ => hcall _ _ _ ?_, head_keeps _ _ _ _⟩
      unfold dsR
      rw [c2]
      rfl
    clear hv3
    rw [beq_eq_false_iff_ne] at k2
    rcases Tr.br_or hv4 with ⟨k0, hv5⟩ | ⟨k0, hv5⟩
    · cases hv5
      rw [Bool.and_eq_true, beq_iff_eq] at k0
      obtain ⟨k0, ka⟩ := k0
      subst k0
      refine ⟨fun _ _ => hcall _ _ _ ?_, head_keeps _ _ _ _⟩
      unfold dsR
      rw [c1, ka]
      rfl
    clear hv4
    cases hv5
    refine ⟨fun _ _ => ?_, head_keeps _ _ _ _⟩
    by_cases e0 : kd = 0
    · subst e0
      have ka : appOK b x o = false := by
        cases h : appOK b x o with
        | false => rfl
        | true => rw [h] at k0; cases k0
      refine h0 _ _ ?_
      unfold dsR
      rw [c1, ka]
      rfl
    by_cases e1 : kd = 1
    · subst e1
      exact hcall _ _ _ rfl
    by_cases e3 : kd = 3
    · subst e3
      refine h0 _ _ ?_
      unfold dsR
      rw [c1]
      rfl
    by_cases e4 : kd = 4
    · subst e4
      exact hcall _ _ _ rfl
    refine h0 _ _ ?_
    unfold dsR dsE dsB dsI dsN dsO
    rw [ne_beq e0, ne_beq e1, ne_beq k2, ne_beq e3, ne_beq e4, ne_beq k5]
    rfl
  · cases hv
def doesE : Ent PR A := ⟨n_law_does, _, does_ok⟩
end Go.Crc

/- Scripts: are there few calls. Conditions: none. A text of this seat's numbers. -/
set_option linter.unusedVariables false
set_option linter.unusedSimpArgs false
set_option maxRecDepth 100000
namespace Go.Crc
open Go.Vm Go.Pack Go.Rec Go.RowKit
abbrev OpT : Ty := .pair (.int .i64) (.pair (.int .i64) (.pair (.slice (.int .u8)) .bool))
abbrev OpD := Int × Int × List Int × Bool
def fewN : List OpD → Int → Int
  | [], n => n
  | x :: r, n => fewN r (IntKind.i64.wrap (n + IntKind.i64.wrap ((x.2.2.1.length : Int) + 6)))
def fewF (vs : List AV) (H : Stack) : Tr (Ex × List AV × Stack × Wr) := match vs, H with
  | [.slice (.pair (.int .i64) (.pair (.int .i64) (.pair (.slice (.int .u8)) .bool))) l .view, .int .i64 n, .slice (.pair (.int .i64) (.pair (.int .i64) (.pair (.slice (.int .u8)) .bool))) l2 .view, .int .i64 m, .int .i64 i], [] :: S =>
    .br (decide (m = l2.length) && decide (i = 0)) (.yes (.exit 0, [.slice OpT l .view, .int .i64 (fewN l2 n)], [] :: S, repApp l2.length [(0, 0)])) .no
  | _, _ => .no
def lfFw : Nat → Option LoopSum := lfOf [(58, loopT [0, 3, 6, 7, 8] [0, 3] fewF)]
noncomputable abbrev LFw (N : Nat) := LC PR (cfE (P := PR) (A := A) []) cfgG lfFw n_law_few 0 58 [0, 3, 6, 7, 8] [0, 3] N
theorem few_round (l l2 : List OpD) (n m i : Int) (S : Stack) (wr : Wr) (N : Nat) (k : Ex → List AV → Stack → Wr → Option Res) :
    LFw (N + 1) [.slice OpT l .view, .int .i64 n, .slice OpT l2 .view, .int .i64 m, .int .i64 i] ([] :: S) wr k =
      (bif decide (i < m) then (at? l2 i).bind fun x => LFw N [.slice OpT l .view, .int .i64 (IntKind.i64.wrap (n + IntKind.i64.wrap ((x.2.2.1.length : Int) + 6))), .slice OpT l2 .view, .int .i64 m, .int .i64 (IntKind.i64.wrap (i + 1))] ([] :: S) ((0, 0) :: wr) k
      else k (.exit 0) [.slice OpT l .view, .int .i64 n] ([] :: S) wr) := by kernel_rfl
theorem few_fold (E : Int × Wr → Option Res) : ∀ (r : List OpD) (j : Nat) (n : Int) (wr : Wr), foldK (fun _ x s k => k (IntKind.i64.wrap (s.1 + IntKind.i64.wrap ((x.2.2.1.length : Int) + 6)), (0, 0) :: s.2)) E j r (n, wr) = E (fewN r n, app (repApp r.length [(0, 0)]) wr)
  | [], j, n, wr => by simp [foldK, fewN, repApp, app]
  | x :: r, j, n, wr => by
    have hi := few_fold E r (j + 1) (IntKind.i64.wrap (n + IntKind.i64.wrap ((x.2.2.1.length : Int) + 6))) ((0, 0) :: wr)
    simp only [foldK, fewN, List.length_cons, rep_more]
    exact hi
theorem few_loops : ∀ x ∈ funLoops PR n_law_few, ∀ L, lfFw x.1 = some L → LoopOK (ntm PR n_law_few) (fun fr H wr k => code PR (cfE (P := PR) (A := A) []) cfgG lfFw (cfgG.live n_law_few) x.2 (2 * x.1) fr H wr k) L := by
  refine one_loop (p := 58) rfl (by kernel_rfl) (loopT_ok (by decide) fun vs H wr ex vs' H' w hv ha hh => ?_)
  unfold fewF at hv
  split at hv
  · rename_i l n l2 m i S
    obtain ⟨hc, hv2⟩ := Tr.br_no hv
    cases hv2
    simp only [Bool.and_eq_true, decide_eq_true_eq] at hc
    obtain ⟨h1, h2⟩ := hc
    subst h2
    simp only [okAVs, okAV] at ha
    have hl : l2.length ≤ maxInt := ha.2.2.1.1
    refine ⟨l2.length + 1, fun k => ?_⟩
    have := fold_loop (F := fun N i s => LFw N [.slice OpT l .view, .int .i64 s.1, .slice OpT l2 .view, .int .i64 m, .int .i64 i] ([] :: S) s.2 k) (xs := l2) (m := m) (step := fun _ x s k => k (IntKind.i64.wrap (s.1 + IntKind.i64.wrap ((x.2.2.1.length : Int) + 6)), (0, 0) :: s.2)) (E := fun s => k (.exit 0) [.slice OpT l .view, .int .i64 s.1] ([] :: S) s.2) h1 hl (fun N i s => few_round l l2 s.1 m i S s.2 N k) l2.length 0 (n, wr) (by omega)
    rw [List.drop_zero, few_fold] at this
    exact this
  · cases hv
def fewV (l : List OpD) : Bool := decide (((l.length : Nat) : Int) ≤ 60) && decide (fewN l 0 ≤ 20000)
def fewC : List AV → Tr AV
  | [.slice (.pair (.int .i64) (.pair (.int .i64) (.pair (.slice (.int .u8)) .bool))) l .view] => .yes (.bool (fewV l))
  | _ => .no
theorem few_ok : Con PR A n_law_few (pureC fewC) := by
  refine pureC_ok fun args v hv ha S => ?_
  unfold fewC at hv
  split at hv
  · rename_i l
    cases hv
    have h : body PR (cfE (P := PR) (A := A) []) cfgG lfFw n_law_few [.slice OpT l .view] S some = (bif decide (((l.length : Nat) : Int) = (l.length : Int)) && decide ((0 : Int) = 0) then bif decide (((l.length : Nat) : Int) ≤ 60) then some (.bool (decide (fewN l 0 ≤ 20000)), outer (app (repApp l.length [(0, 0)]) []), S) else some (.bool false, outer (app (repApp l.length [(0, 0)]) []), S) else none) := by kernel_rfl
    rw [outer_app0 _ _ (all0_rep rfl _)] at h
    refine fun_call _ mixed (by kernel_rfl) (by kernel_rfl) few_loops (h.trans ?_)
    unfold fewV
    rw [decide_eq_true (rfl : ((l.length : Nat) : Int) = (l.length : Int)), decide_eq_true (rfl : (0 : Int) = 0)]
    cases decide (((l.length : Nat) : Int) ≤ 60) <;> rfl
  · cases hv
def fewE : Ent PR A := ⟨n_law_few, _, few_ok⟩
end Go.Crc

/- A store has the document's frames, whatever is called. Conditions: none. A text of this seat's numbers. -/
set_option linter.unusedVariables false
set_option linter.unusedSimpArgs false
set_option maxRecDepth 100000
namespace Go.Crc
open Go.Vm Go.Pack Go.Rec Go.RowKit
structure Inv (b : List Int) (n : Int) (l : List (List Int)) (y : Nat) : Prop where
  cat : b = catF l
  small : smallF l
  len : b.length ≤ 65536
  le : y ≤ l.length
  syn : n = ((catF (l.take y)).length : Int)
theorem cat_split (l : List (List Int)) (y : Nat) : catF l = catF (l.take y) ++ catF (l.drop y) := by rw [← catF_app, List.take_append_drop]
theorem cat_le (l : List (List Int)) (y : Nat) : (catF (l.take y)).length ≤ (catF l).length := by
  have := congrArg List.length (cat_split l y)
  rw [List.length_append] at this
  omega
theorem Inv.bounds {b : List Int} {n : Int} {l : List (List Int)} {y : Nat} (h : Inv b n l y) : b.length ≤ 1000000 ∧ 0 ≤ n ∧ n ≤ (b.length : Int) := by
  have h1 := h.len
  have h2 := cat_le l y
  have h3 := h.syn
  have h4 := congrArg List.length h.cat
  exact ⟨by omega, by omega, by omega⟩
theorem Inv.take {b : List Int} {n : Int} {l : List (List Int)} {y : Nat} (h : Inv b n l y) : b.take n.toNat = catF (l.take y) := by
  rw [h.syn, Int.toNat_natCast]
  exact take_pre (h.cat.trans (cat_split l y))
theorem nw_cat {l : List (List Int)} (hs : smallF l) (hl : (catF l).length ≤ 65536) : nwB (catF l) = catF l ∧ scanN ((catF l).take 65536) = ((catF l).length : Int) := by
  have e : (catF l).take 65536 = catF l := List.take_of_length_le hl
  have e2 : scanN (catF l) = ((catF l).length : Int) := by unfold scanN; rw [scan_cat hs]
  unfold nwB
  rw [e, e2, Int.toNat_natCast, List.take_of_length_le (Nat.le_refl _)]
  exact ⟨rfl, rfl⟩
theorem Inv.anew {b : List Int} {n : Int} {l : List (List Int)} {y : Nat} (h : Inv b n l y) : Inv (nwB (b.take n.toNat)) (scanN ((b.take n.toNat).take 65536)) (l.take y) y := by
  rw [h.take]
  have hs : smallF (l.take y) := fun x hx => h.small x (List.mem_of_mem_take hx)
  have hl : (catF (l.take y)).length ≤ 65536 := by have := cat_le l y; have := h.len; rw [h.cat] at this; omega
  obtain ⟨e1, e2⟩ := nw_cat hs hl
  rw [e1, e2]
  have hly : (l.take y).length = y := by rw [List.length_take]; have := h.le; omega
  exact ⟨rfl, hs, hl, by omega, by rw [List.take_take, Nat.min_self]⟩
theorem crash_l {l : List (List Int)} (hs : smallF l) {y : Nat} (hy : y ≤ l.length) (k : Int) : scanL (crT (catF l) ((catF (l.take y)).length : Int) k) = l.take (y + wholeF (l.drop y) k.toNat) := by
  have hsa : smallF (l.take y) := fun x hx => hs x (List.mem_of_mem_take hx)
  have hsb : smallF (l.drop y) := fun x hx => hs x (List.mem_of_mem_drop hx)
  have ht : crT (catF l) ((catF (l.take y)).length : Int) k = catF (l.take y) ++ (catF (l.drop y)).take k.toNat := by
    unfold crT crN
    have hlen : (catF l).length = (catF (l.take y)).length + (catF (l.drop y)).length := by rw [cat_split l y, List.length_append]
    have e : (((catF (l.take y)).length : Int) + min (max k 0) (((catF l).length : Int) - ((catF (l.take y)).length : Int))).toNat = (catF (l.take y)).length + min k.toNat (catF (l.drop y)).length := by omega
    rw [e]
    conv => lhs; rw [cat_split l y]
    rw [List.take_length_add_append]
    congr 1
    rcases Nat.le_total k.toNat (catF (l.drop y)).length with h | h
    · rw [Nat.min_eq_left h]
    · rw [Nat.min_eq_right h, List.take_of_length_le (Nat.le_refl _), List.take_of_length_le h]
  rw [ht, scan_app hsa (take_bytes (catF_bytes hsb) _), scan_whole _ _ hsb, List.take_add]
theorem Inv.crash {b : List Int} {n : Int} {l : List (List Int)} {y : Nat} (h : Inv b n l y) (k : Int) : Inv (crB b n k) (scanN (crT b n k)) (l.take (dcN l (y : Int) k)) (dcN l (y : Int) k) := by
  have hN : dcN l (y : Int) k = y + wholeF (l.drop y) k.toNat := by unfold dcN; rw [Int.toNat_natCast]
  have hw := wholeF_le (l.drop y) k.toNat
  rw [List.length_drop] at hw
  have hle := h.le
  have hc := h.cat
  have hn := h.syn
  subst hc hn
  have e := crash_l h.small h.le k
  unfold crB scanN
  rw [e, ← hN, Int.toNat_natCast, take_pre (cat_split l (dcN l (y : Int) k))]
  have hln : (l.take (dcN l (y : Int) k)).length = dcN l (y : Int) k := by rw [List.length_take]; omega
  refine ⟨rfl, fun x hx => h.small x (List.mem_of_mem_take hx), ?_, by omega, by rw [List.take_take, Nat.min_self]⟩
  have := cat_le l (dcN l (y : Int) k)
  have := h.len
  omega
theorem Inv.app {b : List Int} {n : Int} {l : List (List Int)} {y : Nat} (h : Inv b n l y) {x : List Int} {o : Bool} (hx : isBytes x) (ha : appOK b x o = true) : Inv (b ++ frB x) n (l ++ [x]) y := by
  unfold appOK at ha
  simp only [Bool.and_eq_true, decide_eq_true_eq] at ha
  refine ⟨by rw [catF_app, h.cat]; simp [catF], fun z hz => ?_, by rw [List.length_append]; exact ha.2.2, by have := h.le; rw [List.length_append]; omega, by rw [List.take_append_of_le_length h.le]; exact h.syn⟩
  rcases List.mem_append.1 hz with hz | hz
  · exact h.small z hz
  · rw [List.mem_singleton.1 hz]; exact ⟨ha.2.1, hx⟩
theorem Inv.sync {b : List Int} {n : Int} {l : List (List Int)} {y : Nat} (h : Inv b n l y) : Inv b (b.length : Int) l l.length :=
  ⟨h.cat, h.small, h.len, Nat.le_refl _, by rw [List.take_of_length_le (Nat.le_refl _), ← h.cat]⟩
/-! ### One call -/
abbrev StS := List Int × Lv × Int × Bool
def stp (s : StS) (x : OpD) : StS :=
  bif x.1 == 5 then (nwB (s.1.take s.2.2.1.toNat), .own, scanN ((s.1.take s.2.2.1.toNat).take 65536), false)
  else bif x.1 == 2 then (crB s.1 s.2.2.1 x.2.1, .full, scanN (crT s.1 s.2.2.1 x.2.1), false)
  else bif x.1 == 0 && appOK s.1 x.2.2.1 s.2.2.2 then (s.1 ++ frB x.2.2.1, .own, s.2.2.1, s.2.2.2)
  else (s.1, s.2.1, dsN s.1 s.2.2.1 x.1 s.2.2.2, dsO x.1 s.2.2.2 x.2.2.2)
def wrp (x : OpD) : Wr := bif x.1 == 5 then [(0, 6), (0, 1)] else [(0, 2), (0, 0), (0, 1)]
def stps : List OpD → StS → StS
  | [], s => s
  | x :: r, s => stps r (stp s x)
def wrps : List OpD → Wr → Wr
  | [], w => w
  | x :: r, w => wrps r (app (wrp x) w)
def GoodS (s : StS) : Prop := lvG s.2.1 = true ∧ ∃ l y, Inv s.1 s.2.2.1 l y
theorem stp_good {s : StS} (h : GoodS s) {x : OpD} (hx : isBytes x.2.2.1) : GoodS (stp s x) := by
  obtain ⟨hl, l, y, hi⟩ := h
  unfold stp
  cases h5 : (x.1 == 5) with
  | true => exact ⟨rfl, _, _, hi.anew⟩
  | false =>
    cases h2 : (x.1 == 2) with
    | true => exact ⟨rfl, _, _, hi.crash x.2.1⟩
    | false =>
      cases h0 : (x.1 == 0 && appOK s.1 x.2.2.1 s.2.2.2) with
      | true =>
        rw [Bool.and_eq_true] at h0
        exact ⟨rfl, _, _, hi.app hx h0.2⟩
      | false =>
        refine ⟨hl, ?_⟩
        show ∃ l y, Inv s.1 (dsN s.1 s.2.2.1 x.1 s.2.2.2) l y
        unfold dsN
        cases (x.1 == 1) with
        | false => exact ⟨l, y, hi⟩
        | true =>
          cases s.2.2.2 with
          | true => exact ⟨l, y, hi⟩
          | false => exact ⟨_, _, hi.sync⟩
theorem stps_good : ∀ {r : List OpD} {s : StS}, GoodS s → (∀ x ∈ r, isBytes x.2.2.1) → GoodS (stps r s)
  | [], s, h, _ => h
  | x :: r, s, h, hr => stps_good (r := r) (stp_good h (hr x (by simp))) fun z hz => hr z (by simp [hz])
theorem all0_wrps : ∀ (r : List OpD) (w : Wr), outer (wrps r w) = outer w
  | [], w => rfl
  | x :: r, w => by
    simp only [wrps]
    rw [all0_wrps r]
    unfold wrp
    cases (x.1 == 5) <;> rfl
end Go.Crc
