/- Contracts of functions of this program. Conditions: none. -/
import Derived.Test.YthejhodnoanngaaWf
import Derived.Test.YthejhodnoanngaaVg
import Derived.Test.YthejhodnoanngaaWp
set_option linter.unusedVariables false
set_option linter.unusedSimpArgs false
/- Stores whose bytes are always their own: crashes. Conditions: none. A text of this seat's numbers. -/
set_option linter.unusedVariables false
set_option linter.unusedSimpArgs false
set_option maxRecDepth 100000
namespace Go.Crc
open Go.Vm Go.Pack Go.Rec Go.RowKit
def stCr2F : Ob → List AV → Tr (AV × Bool × Ob)
  | .cells [.slice (.int .u8) b .own, .int .i64 n, .bool o], [.int .i64 k] => .br (decide (b.length ≤ 1000000) && (decide (0 ≤ n) && decide (n ≤ (b.length : Int)))) (.yes (.tuple [], true, stOb (crB b n k) .own (scanN (crT b n k)) false)) .no
  | _, _ => .no
theorem stCr2_ok : Con PR A n_page_Store_Crash (objC 0 stCr2F) := by
  refine objC_ok fun x rest v wrote x' hv => ?_
  unfold stCr2F at hv
  split at hv
  · rename_i b n o k
    obtain ⟨hc, hv2⟩ := Tr.br_no hv
    cases hv2
    refine ⟨rfl, rfl, rfl, rfl, by simp, fun ha hh => ?_⟩
    obtain ⟨res, h1, h2, h3, _⟩ := stCr_ok [.ptr 1 0 0, .int .i64 k] [[], [stOb b .own n o]] some (.tuple [], [(1, 0)], [[], [stOb (crB b n k) .full (scanN (crT b n k)) false]]) (by
      have : objC 0 stCrF [.ptr 1 0 0, .int .i64 k] [[], [stOb b .own n o]] some = (bif decide (b.length ≤ 1000000) && (decide (0 ≤ n) && decide (n ≤ (b.length : Int))) then some (.tuple [], [(1, 0)], [[], [stOb (crB b n k) .full (scanN (crT b n k)) false]]) else none) := by kernel_rfl
      rw [this, hc]; rfl)
    cases h2
    have := SimCall.weak (l := 1) (i := 0) (cs' := [.slice (.int .u8) (crB b n k) .own, .int .i64 (scanN (crT b n k)), .bool false]) h3 rfl ⟨.sl _ _ _ _ rfl, .refl _, .refl _, trivial⟩
    exact this
  · cases hv
def stCr2E : Ent PR A := ⟨n_page_Store_Crash, _, stCr2_ok⟩
end Go.Crc

/- Stores whose bytes are always their own. Conditions: none. A text of this seat's numbers. -/
set_option linter.unusedVariables false
set_option linter.unusedSimpArgs false
set_option maxRecDepth 100000
namespace Go.Crc
open Go.Vm Go.Pack Go.Rec Go.RowKit
/-! ### Does -/
def d2B (b : List Int) (n kd nn : Int) (x : List Int) (o : Bool) : List Int := bif kd == 2 then crB b n nn else bif kd == 0 && appOK b x o then b ++ frB x else b
def d2N (b : List Int) (n kd nn : Int) (o : Bool) : Int := bif kd == 2 then scanN (crT b n nn) else bif kd == 1 then (bif o then n else (b.length : Int)) else n
def d2O (kd : Int) (o is : Bool) : Bool := bif kd == 2 then false else bif kd == 4 then is else o
def a2N (b : List Int) (kd : Int) (x : List Int) (o : Bool) : Int := bif kd == 0 && appOK b x o then (b.length : Int) else 0
def a2E (b : List Int) (kd : Int) (x : List Int) (o : Bool) : Int := bif kd == 0 then (bif appOK b x o then 0 else bif o then 81 else 80) else 0
def does2F : List AV → Stack → Tr Res
  | [.ptr 0 0 0, .agg [.int .i64 kd, .int .i64 nn, .slice (.int .u8) x .view, .bool is]], (.cells [.slice (.int .u8) b .own, .int .i64 n, .bool o] :: r) :: S =>
    .br (decide (b.length ≤ 1000000) && (decide (0 ≤ n) && decide (n ≤ (b.length : Int))))
      (.br (kd == 5) (.yes (.tuple [.ptr 0 (lenN r + 4) 0, ansA 0 0 [] false], [], app (stOb b .own n o :: r) [opO kd nn x is, ansO 0 0 [] false, ansO 0 0 [] false, stOb (nwB (b.take n.toNat)) .own (scanN ((b.take n.toNat).take 65536)) false] :: S))
      (.yes (.tuple [.ptr 0 0 0, ansA (a2N b kd x o) (a2E b kd x o) (dsB b kd nn) (dsI b kd nn)], [(0, 0)], (stOb (d2B b n kd nn x o) .own (d2N b n kd nn o) (d2O kd o is) :: r) :: S))) .no
  | _, _ => .no
noncomputable abbrev EDs2 : List (Ent PR A) := [stApE, stSyncE, stCr2E, stRdE, stOffE, stByE, stNwE]
def dsR2 (b : List Int) (n kd nn : Int) (o is : Bool) (x : List Int) (r : List Ob) (S : Stack) : Option Res :=
    (bif kd == 0 then bif decide (b.length ≤ 1000000) then
        bif appOK b x o then some (.tuple [.ptr 0 0 0, ansA b.length 0 [] false], [(0, 0)], (stOb (b ++ frB x) .own n o :: r) :: S)
        else some (.tuple [.ptr 0 0 0, ansA 0 (bif o then 81 else 80) [] false], [], (stOb b .own n o :: r) :: S) else none
    else bif kd == 1 then some (.tuple [.ptr 0 0 0, ansA 0 0 [] false], [(0, 0)], (stOb b .own (bif o then n else (b.length : Int)) o :: r) :: S)
    else bif kd == 2 then bif decide (b.length ≤ 1000000) && (decide (0 ≤ n) && decide (n ≤ (b.length : Int))) then some (.tuple [.ptr 0 0 0, ansA 0 0 [] false], [(0, 0)], (stOb (crB b n nn) .own (scanN (crT b n nn)) false :: r) :: S) else none
    else bif kd == 3 then bif decide (b.length ≤ 1000000) then some (.tuple [.ptr 0 0 0, ansA 0 0 (rdX b nn) (rdB b nn)], [], (stOb b .own n o :: r) :: S) else none
    else bif kd == 4 then some (.tuple [.ptr 0 0 0, ansA 0 0 [] false], [(0, 0)], (stOb b .own n is :: r) :: S)
    else bif kd == 5 then bif decide (b.length ≤ 1000000) && (decide (0 ≤ n) && decide (n ≤ (b.length : Int))) then
      some (.tuple [.ptr 0 (lenN r + 4) 0, ansA 0 0 [] false], [], app (stOb b .own n o :: r) [opO kd nn x is, ansO 0 0 [] false, ansO 0 0 [] false, stOb (nwB (b.take n.toNat)) .own (scanN ((b.take n.toNat).take 65536)) false] :: S) else none
    else some (.tuple [.ptr 0 0 0, ansA 0 0 [] false], [], (stOb b .own n o :: r) :: S))
theorem does2_eq (b : List Int) (n kd nn : Int) (o is : Bool) (x : List Int) (r : List Ob) (S : Stack) : body PR (cfE EDs2) cfgG lf0 n_law_does [.ptr 0 0 0, opV kd nn x is] ((stOb b .own n o :: r) :: S) some = dsR2 b n kd nn o is x r S := by kernel_rfl
theorem does2_ok : Con PR A n_law_does (shapeC does2F) := by
  refine shapeC_ok fun args S res hv => ?_
  unfold does2F at hv
  split at hv
  · rename_i kd nn x is b n o r S
    obtain ⟨hc, hv2⟩ := Tr.br_no hv
    clear hv
    have hc' := hc
    simp only [Bool.and_eq_true, decide_eq_true_eq] at hc
    obtain ⟨h1, h2, h3⟩ := hc
    have hcall : ∀ v wr S', dsR2 b n kd nn o is x r S = some (v, wr, S') → SimCall PR A n_law_does [.ptr 0 0 0, opV kd nn x is] ((stOb b .own n o :: r) :: S) (v, wr, S') := fun v wr S' h => fun_call _ mixed (by kernel_rfl) (by kernel_rfl) (no_loops (by kernel_rfl)) ((does2_eq b n kd nn o is x r S).trans h)
    have h0 : ∀ v S', dsR2 b n kd nn o is x r S = some (v, [], S') → SimCall PR A n_law_does [.ptr 0 0 0, opV kd nn x is] ((stOb b .own n o :: r) :: S) (v, [(0, 0)], S') := fun v S' h => SimCall.wr (hcall v [] S' h) fun l i hm => rfl
    have c1 : decide (b.length ≤ 1000000) = true := decide_eq_true h1
    rcases Tr.br_or hv2 with ⟨k5, hv3⟩ | ⟨k5, hv3⟩
    · cases hv3
      rw [beq_iff_eq] at k5
      subst k5
      refine ⟨fun _ _ => hcall _ _ _ ?_, app_keeps _ _ _⟩
      unfold dsR2
      rw [hc']
      rfl
    cases hv3
    rw [beq_eq_false_iff_ne] at k5
    refine ⟨fun _ _ => ?_, head_keeps _ _ _ _⟩
    by_cases e0 : kd = 0
    · subst e0
      unfold a2N a2E d2B
      cases ha : appOK b x o with
      | true => refine hcall _ _ _ ?_; unfold dsR2; rw [c1, ha]; rfl
      | false => refine h0 _ _ ?_; unfold dsR2; rw [c1, ha]; rfl
    by_cases e1 : kd = 1
    · subst e1
      exact hcall _ _ _ rfl
    by_cases e2 : kd = 2
    · subst e2
      refine hcall _ _ _ ?_
      unfold dsR2
      rw [hc']
      rfl
    by_cases e3 : kd = 3
    · subst e3
      refine h0 _ _ ?_
      unfold dsR2
      rw [c1]
      rfl
    by_cases e4 : kd = 4
    · subst e4
      exact hcall _ _ _ rfl
    refine h0 _ _ ?_
    unfold dsR2 a2N a2E d2B d2N d2O dsB dsI
    rw [ne_beq e0, ne_beq e1, ne_beq e2, ne_beq e3, ne_beq e4, ne_beq k5]
    rfl
  · cases hv
def does2E : Ent PR A := ⟨n_law_does, _, does2_ok⟩
end Go.Crc
