/- Contracts of functions of this program. Conditions: none. -/
import Derived.Test.YthejhodnoanngaaWq
import Derived.Test.YthejhodnoanngaaWo
set_option linter.unusedVariables false
set_option linter.unusedSimpArgs false
/- The law PageAll. Conditions: none. A text of this seat's numbers. -/
set_option linter.unusedVariables false
set_option linter.unusedSimpArgs false
set_option maxRecDepth 100000
namespace Go.Crc
open Go.Vm Go.Pack Go.Rec Go.RowKit
abbrev dOb (l : List (List Int)) (y : Int) (f : Bool) : Ob := .cells [.slice .str l .view, .int .i64 y, .bool f]
noncomputable def EPa : List (Ent PR A) := [aliveE, fewE, does2E, stNwE, dnwE, standsE, ddoE]
/-- what follows the two answers: are they the same, and does the store stand. -/
def paK (aN aE : Int) (aB : List Int) (aI : Bool) (dN dE : Int) (dB : List Int) (dI : Bool) (b : List Int) (n : Int) (l : List (List Int)) (y : Int) (ok no : Option Res) : Option Res :=
  bif !((aN == dN) && ((aE == dE) && ((aB == dB) && ((aI == dI) && true)))) then no
  else bif (decide (b.length ≤ 1000000) && (decide (0 ≤ n) && decide (n ≤ (b.length : Int)))) && (decide (0 ≤ y) && (decide (y ≤ (l.length : Int)) && smallL l)) then bif !standsB b n l y then no else ok else none
def paS : List OpD → List Int × Int × Bool × List (List Int) × Int → List Int × Int × Bool × List (List Int) × Int
  | [], s => s
  | x :: r, (b, n, o, L, y) => paS r (bif x.1 == 5 then (nwB (b.take n.toNat), scanN ((b.take n.toNat).take 65536), false, doL L y o x.1 x.2.1 x.2.2.1, doY L y o x.1 x.2.1)
    else (d2B b n x.1 x.2.1 x.2.2.1 o, d2N b n x.1 x.2.1 o, d2O x.1 o x.2.2.2, doL L y o x.1 x.2.1 x.2.2.1, doY L y o x.1 x.2.1))
def paW (x : OpD) : Wr := bif x.1 == 5 then [(0, 9), (0, 1), (0, 4), (0, 3), (0, 2)] else [(0, 5), (0, 0), (0, 1), (0, 4), (0, 3), (0, 2)]
def paWs : List OpD → Wr → Wr
  | [], w => w
  | x :: r, w => paWs r (app (paW x) w)
def paC (b : List Int) (n : Int) (L : List (List Int)) (y : Int) (l : List OpD) : Bool :=
  (b == catF L) && (smB L && (decide (b.length ≤ 65536) && (decide (0 ≤ y) && (decide (y ≤ (L.length : Int)) && ((n == ((catF (L.take y.toNat)).length : Int)) && l.all fun x => decide (x.2.2.1.length ≤ 100000000))))))
def paF (vs : List AV) (H : Stack) : Tr (Ex × List AV × Stack × Wr) := match vs, H with
  | [.ptr 0 0 0, .ptr 0 1 0, .slice (.pair (.int .i64) (.pair (.int .i64) (.pair (.slice (.int .u8)) .bool))) l .view, .int .i64 m, .int .i64 i], [.cells [.slice (.int .u8) b .own, .int .i64 n, .bool o], .cells [.slice .str L .view, .int .i64 y, .bool f]] :: S =>
    .br (decide (m = l.length) && (decide (i = 0) && ((o == f) && paC b n L y l)))
      (.yes (.exit 0, [.undef], [stOb (paS l (b, n, o, L, y)).1 .own (paS l (b, n, o, L, y)).2.1 (paS l (b, n, o, L, y)).2.2.1, dOb (paS l (b, n, o, L, y)).2.2.2.1 (paS l (b, n, o, L, y)).2.2.2.2 (paS l (b, n, o, L, y)).2.2.1] :: S, paWs l [])) .no
  | _, _ => .no
def lfPa : Nat → Option LoopSum := lfOf [(250, loopT [5, 6, 30, 31, 32] [4] paF)]
noncomputable abbrev LPa (N : Nat) := LC PR (cfE EPa) cfgG lfPa n_law_PageAll 0 250 [5, 6, 30, 31, 32] [4] N
theorem pa_round (b : List Int) (L : List (List Int)) (l : List OpD) (n y m i : Int) (o f : Bool) (S : Stack) (wr : Wr) (N : Nat) (k : Ex → List AV → Stack → Wr → Option Res) :
    LPa (N + 1) [.ptr 0 0 0, .ptr 0 1 0, .slice OpT l .view, .int .i64 m, .int .i64 i] ([stOb b .own n o, dOb L y f] :: S) wr k =
      (bif decide (i < m) then (at? l i).bind fun x => bif decide (0 ≤ y) && (decide (y ≤ (L.length : Int)) && (smallL L && decide (x.2.2.1.length ≤ 100000000))) then
        bif decide (b.length ≤ 1000000) && (decide (0 ≤ n) && decide (n ≤ (b.length : Int))) then
          bif x.1 == 5 then paK 0 0 [] false (anN L f x.1 x.2.2.1) (anE L f x.1 x.2.2.1) (anB L x.1 x.2.1) (anI L x.1 x.2.1) (nwB (b.take n.toNat)) (scanN ((b.take n.toNat).take 65536)) (doL L y f x.1 x.2.1 x.2.2.1) (doY L y f x.1 x.2.1)
            (LPa N [.ptr 0 0 0, .ptr 0 1 0, .slice OpT l .view, .int .i64 m, .int .i64 (IntKind.i64.wrap (i + 1))] ([stOb (nwB (b.take n.toNat)) .own (scanN ((b.take n.toNat).take 65536)) false, dOb (doL L y f x.1 x.2.1 x.2.2.1) (doY L y f x.1 x.2.1) (doO f x.1 x.2.2.2)] :: S) ((0, 9) :: (0, 1) :: (0, 4) :: (0, 3) :: (0, 2) :: wr) k)
            (k .ret [.bool false] ([stOb b .own n o, dOb (doL L y f x.1 x.2.1 x.2.2.1) (doY L y f x.1 x.2.1) (doO f x.1 x.2.2.2), opO x.1 x.2.1 x.2.2.1 x.2.2.2, dOb (doL L y f x.1 x.2.1 x.2.2.1) (doY L y f x.1 x.2.1) (doO f x.1 x.2.2.2), ansO (anN L f x.1 x.2.2.1) (anE L f x.1 x.2.2.1) (anB L x.1 x.2.1) (anI L x.1 x.2.1), opO x.1 x.2.1 x.2.2.1 x.2.2.2, ansO 0 0 [] false, ansO 0 0 [] false, stOb (nwB (b.take n.toNat)) .own (scanN ((b.take n.toNat).take 65536)) false, ansO 0 0 [] false] :: S) ((0, 9) :: (0, 1) :: (0, 4) :: (0, 3) :: (0, 2) :: wr))
          else paK (a2N b x.1 x.2.2.1 o) (a2E b x.1 x.2.2.1 o) (dsB b x.1 x.2.1) (dsI b x.1 x.2.1) (anN L f x.1 x.2.2.1) (anE L f x.1 x.2.2.1) (anB L x.1 x.2.1) (anI L x.1 x.2.1) (d2B b n x.1 x.2.1 x.2.2.1 o) (d2N b n x.1 x.2.1 o) (doL L y f x.1 x.2.1 x.2.2.1) (doY L y f x.1 x.2.1)
            (LPa N [.ptr 0 0 0, .ptr 0 1 0, .slice OpT l .view, .int .i64 m, .int .i64 (IntKind.i64.wrap (i + 1))] ([stOb (d2B b n x.1 x.2.1 x.2.2.1 o) .own (d2N b n x.1 x.2.1 o) (d2O x.1 o x.2.2.2), dOb (doL L y f x.1 x.2.1 x.2.2.1) (doY L y f x.1 x.2.1) (doO f x.1 x.2.2.2)] :: S) ((0, 5) :: (0, 0) :: (0, 1) :: (0, 4) :: (0, 3) :: (0, 2) :: wr) k)
            (k .ret [.bool false] ([stOb (d2B b n x.1 x.2.1 x.2.2.1 o) .own (d2N b n x.1 x.2.1 o) (d2O x.1 o x.2.2.2), dOb (doL L y f x.1 x.2.1 x.2.2.1) (doY L y f x.1 x.2.1) (doO f x.1 x.2.2.2), opO x.1 x.2.1 x.2.2.1 x.2.2.2, dOb (doL L y f x.1 x.2.1 x.2.2.1) (doY L y f x.1 x.2.1) (doO f x.1 x.2.2.2), ansO (anN L f x.1 x.2.2.1) (anE L f x.1 x.2.2.1) (anB L x.1 x.2.1) (anI L x.1 x.2.1), ansO (a2N b x.1 x.2.2.1 o) (a2E b x.1 x.2.2.1 o) (dsB b x.1 x.2.1) (dsI b x.1 x.2.1)] :: S) ((0, 5) :: (0, 0) :: (0, 1) :: (0, 4) :: (0, 3) :: (0, 2) :: wr))
        else none else none else k (.exit 0) [.undef] ([stOb b .own n o, dOb L y f] :: S) wr) := by kernel_rfl
theorem Inv.smallL {b : List Int} {n : Int} {l : List (List Int)} {y : Nat} (h : Inv b n l y) : smallL l = true := by
  unfold Crc.smallL
  have h1 := catF_count l
  have h2 := h.len
  rw [h.cat] at h2
  rw [smB_of fun x hx => (h.small x hx).1, decide_eq_true (show l.length ≤ 20000 by omega)]
  rfl
theorem stp_d2 {b : List Int} {lv : Lv} {n : Int} {o : Bool} {x : OpD} (h : (x.1 == 5) = false) : (stp (b, lv, n, o) x).1 = d2B b n x.1 x.2.1 x.2.2.1 o ∧ (stp (b, lv, n, o) x).2.2.1 = d2N b n x.1 x.2.1 o ∧ (stp (b, lv, n, o) x).2.2.2 = d2O x.1 o x.2.2.2 := by
  unfold stp d2B d2N d2O
  rw [h]
  by_cases h2 : x.1 = 2
  · rw [h2]; exact ⟨rfl, rfl, rfl⟩
  rw [ne_beq h2]
  simp only [cond_false]
  cases h0 : (x.1 == 0 && appOK b x.2.2.1 o) with
  | true =>
    have h0' : x.1 = 0 := by simp only [Bool.and_eq_true, beq_iff_eq] at h0; exact h0.1
    rw [h0']
    exact ⟨rfl, rfl, rfl⟩
  | false => exact ⟨rfl, rfl, rfl⟩
theorem paK_ok {b : List Int} {n : Int} {L : List (List Int)} {y : Nat} (h : Inv b n L y) {aN aE dN dE : Int} {aB dB : List Int} {aI dI : Bool} (h1 : aN = dN) (h2 : aE = dE) (h3 : aB = dB) (h4 : aI = dI) (ok no : Option Res) : paK aN aE aB aI dN dE dB dI b n L (y : Int) ok no = ok := by
  obtain ⟨b1, b2, b3⟩ := h.bounds
  have hs := h.smallL
  have hy := h.le
  subst h1 h2 h3 h4
  unfold paK
  rw [decide_eq_true b1, decide_eq_true b2, decide_eq_true b3, hs, decide_eq_true (show (0 : Int) ≤ (y : Int) by omega), decide_eq_true (show (y : Int) ≤ (L.length : Int) by omega), stands_inv h]
  simp
theorem pa_loop (l : List OpD) (m : Int) (hm : m = (l.length : Int)) (hl : l.length ≤ maxInt) (hb : ∀ x ∈ l, isBytes x.2.2.1) (hs : ∀ x ∈ l, x.2.2.1.length ≤ 100000000) (S : Stack) (k : Ex → List AV → Stack → Wr → Option Res) :
    ∀ (q j : Nat) (b : List Int) (n : Int) (o : Bool) (L : List (List Int)) (y : Nat) (wr : Wr), j + q = l.length → Inv b n L y →
    LPa (q + 1) [.ptr 0 0 0, .ptr 0 1 0, .slice OpT l .view, .int .i64 m, .int .i64 (j : Int)] ([stOb b .own n o, dOb L (y : Int) o] :: S) wr k =
      k (.exit 0) [.undef] ([stOb (paS (l.drop j) (b, n, o, L, (y : Int))).1 .own (paS (l.drop j) (b, n, o, L, (y : Int))).2.1 (paS (l.drop j) (b, n, o, L, (y : Int))).2.2.1, dOb (paS (l.drop j) (b, n, o, L, (y : Int))).2.2.2.1 (paS (l.drop j) (b, n, o, L, (y : Int))).2.2.2.2 (paS (l.drop j) (b, n, o, L, (y : Int))).2.2.1] :: S) (paWs (l.drop j) wr) := by
  intro q
  induction q with
  | zero =>
    intro j b n o L y wr hj hI
    have hd : l.drop j = [] := List.drop_of_length_le (by omega)
    rw [pa_round, cond_ne (decide_eq_false (by omega)), hd]
    rfl
  | succ q ih =>
    intro j b n o L y wr hj hI
    have hlt : j < l.length := by omega
    have hw := wrap_next hlt hl
    have hd : l.drop j = l[j] :: l.drop (j + 1) := List.drop_eq_getElem_cons hlt
    have hx : l[j]? = some l[j] := List.getElem?_eq_getElem hlt
    have hxb := hb l[j] (List.getElem_mem hlt)
    have hxs := hs l[j] (List.getElem_mem hlt)
    obtain ⟨y', hy', hI', hO'⟩ := stp_inv (lv := .own) (o := o) hI hxb
    obtain ⟨b1, b2, b3⟩ := hI.bounds
    obtain ⟨r1, r2⟩ := rdB_inv hI l[j].2.1
    have hle := hI.le
    have hcat := hI.cat
    rw [pa_round, cond_eq (decide_eq_true (by omega)), at_some hx, Option.bind_some, hw, hd]
    generalize l[j] = x at hx hxb hxs hy' hI' hO' r1 r2
    rw [hI.smallL, decide_eq_true hxs, decide_eq_true b1, decide_eq_true b2, decide_eq_true b3, decide_eq_true (show (0 : Int) ≤ (y : Int) by omega), decide_eq_true (show (y : Int) ≤ (L.length : Int) by omega)]
    simp only [Bool.and_self, cond_true, paS, paWs, paW]
    cases h5 : (x.1 == 5) with
    | true =>
      have e5 : x.1 = 5 := by simpa using h5
      have hI2 : Inv (nwB (b.take n.toNat)) (scanN ((b.take n.toNat).take 65536)) (doL L (y : Int) o x.1 x.2.1 x.2.2.1) y' := by
        unfold stp at hI'; rw [h5] at hI'; exact hI'
      have hO : doO o x.1 x.2.2.2 = false := by rw [e5]; rfl
      have hi := ih (j + 1) _ _ false _ y' ((0, 9) :: (0, 1) :: (0, 4) :: (0, 3) :: (0, 2) :: wr) (by omega) hI2
      simp only [cond_true]
      rw [hy', hO, paK_ok hI2 (by rw [e5]; rfl) (by rw [e5]; rfl) (by rw [e5]; rfl) (by rw [e5]; rfl)]
      exact hi
    | false =>
      obtain ⟨t1, t2, t3⟩ := stp_d2 (b := b) (lv := .own) (n := n) (o := o) h5
      rw [t1, t2] at hI'
      rw [t3] at hO'
      have hi := ih (j + 1) _ _ (doO o x.1 x.2.2.2) _ y' ((0, 5) :: (0, 0) :: (0, 1) :: (0, 4) :: (0, 3) :: (0, 2) :: wr) (by omega) hI'
      simp only [cond_false]
      rw [hy', hO', paK_ok hI' (by unfold a2N anN; rw [hcat]; cases (x.1 == 0) <;> rfl) (by unfold a2E anE; rw [hcat]) (by unfold dsB anB; rw [r2]) (by unfold dsI anI; rw [r1])]
      exact hi
theorem paWs_app : ∀ (r : List OpD) (w : Wr), paWs r w = app (paWs r []) w
  | [], w => by simp [paWs, app]
  | x :: r, w => by
    simp only [paWs]
    rw [paWs_app r (app (paW x) w), paWs_app r (app (paW x) [])]
    simp only [app_eq, List.append_nil, List.append_assoc]
theorem paWs_all0 : ∀ (r : List OpD) (w : Wr), outer (paWs r w) = outer w
  | [], w => rfl
  | x :: r, w => by
    simp only [paWs]
    rw [paWs_all0 r]
    unfold paW
    cases (x.1 == 5) <;> rfl
theorem pa_loops : ∀ x ∈ funLoops PR n_law_PageAll, ∀ L, lfPa x.1 = some L → LoopOK (ntm PR n_law_PageAll) (fun fr H wr k => code PR (cfE EPa) cfgG lfPa (cfgG.live n_law_PageAll) x.2 (2 * x.1) fr H wr k) L := by
  refine one_loop (p := 250) rfl (by kernel_rfl) (loopT_ok (by decide) fun vs H wr ex vs' H' w hv ha hh => ?_)
  unfold paF at hv
  split at hv
  · rename_i l m i b n o L y f S
    obtain ⟨hc, hv2⟩ := Tr.br_no hv
    cases hv2
    unfold paC at hc
    simp only [Bool.and_eq_true, decide_eq_true_eq, beq_iff_eq, List.all_eq_true] at hc
    obtain ⟨h1, h2, h3, h4, h5, h6, h7, h8, h9, h10⟩ := hc
    subst h2 h3
    simp only [okAVs, okAV] at ha
    have hl : l.length ≤ maxInt := ha.2.2.1.1
    have hbs : ∀ x ∈ l, isBytes x.2.2.1 := fun x hx => (ha.2.2.1.2 x hx).2.2.1.2
    have hL := hh 0 1 _ rfl
    simp only [okAVs, okAV] at hL
    have hI : Inv b n L y.toNat := ⟨h4, fun x hx => ⟨smB_mem h5 x hx, (hL.1.2 x hx).2⟩, h6, by omega, h9⟩
    have hy : ((y.toNat : Nat) : Int) = y := by omega
    refine ⟨l.length + 1, fun k => ?_⟩
    have := pa_loop l m h1 hl hbs h10 S k l.length 0 b n o L y.toNat wr (by omega) hI
    rw [List.drop_zero, hy, paWs_app] at this
    exact this
  · cases hv
theorem page_all0 (b : List Int) (l : List OpD) : body PR (cfE EPa) cfgG lfPa n_law_PageAll [.slice (.int .u8) b .view, .slice OpT l .view] [] some =
    (bif decide ((b.length : Int) > 3000) then some (.bool true, [], []) else bif !fewV l then some (.bool true, [], [])
    else bif (decide ((nwB b).length ≤ 1000000) && (decide (0 ≤ scanN (b.take 65536)) && decide (scanN (b.take 65536) ≤ ((nwB b).length : Int)))) && (decide (0 ≤ ((scanL (b.take 65536)).length : Int)) && (decide (((scanL (b.take 65536)).length : Int) ≤ ((scanL (b.take 65536)).length : Int)) && smallL (scanL (b.take 65536)))) then
      bif !standsB (nwB b) (scanN (b.take 65536)) (scanL (b.take 65536)) ((scanL (b.take 65536)).length : Int) then some (.bool false, [], [])
      else bif decide ((l.length : Int) = (l.length : Int)) && (decide ((0 : Int) = 0) && ((false == false) && paC (nwB b) (scanN (b.take 65536)) (scanL (b.take 65536)) ((scanL (b.take 65536)).length : Int) l)) then some (.bool true, outer (app (paWs l []) [(0, 1)]), []) else none
    else none) := by kernel_rfl
theorem fewN_le : ∀ (l : List OpD) (n : Int), (∀ x ∈ l, x.2.2.1.length ≤ 140737488355328) → 0 ≤ n → n + (l.length : Int) * 140737488355340 ≤ 9000000000000000000 → n ≤ fewN l n ∧ ∀ x ∈ l, (x.2.2.1.length : Int) ≤ fewN l n
  | [], n, _, _, _ => ⟨Int.le_refl _, fun x hx => by cases hx⟩
  | x :: r, n, h, h0, h1 => by
    have hx := h x (by simp)
    simp only [List.length_cons] at h1
    have e : IntKind.i64.wrap (n + IntKind.i64.wrap ((x.2.2.1.length : Int) + 6)) = n + (x.2.2.1.length : Int) + 6 := by
      rw [wrap_i64 (n := (x.2.2.1.length : Int) + 6) (by omega) (by omega), wrap_i64 (by omega) (by omega)]
      omega
    obtain ⟨g1, g2⟩ := fewN_le r (n + (x.2.2.1.length : Int) + 6) (fun y hy => h y (by simp [hy])) (by omega) (by omega)
    simp only [fewN]
    rw [e]
    refine ⟨by omega, fun y hy => ?_⟩
    rcases List.mem_cons.1 hy with rfl | hy
    · omega
    · exact g2 y hy
theorem page_all (b : List Int) (l : List OpD) (hb : isBytes b) (hls : ∀ x ∈ l, x.2.2.1.length ≤ 140737488355328) : body PR (cfE EPa) cfgG lfPa n_law_PageAll [.slice (.int .u8) b .view, .slice OpT l .view] [] some = some (.bool true, [], []) := by
  rw [page_all0]
  by_cases hl : (b.length : Int) > 3000
  · rw [decide_eq_true hl]; rfl
  rw [decide_eq_false hl, cond_false]
  cases hf : fewV l with
  | false => rfl
  | true =>
  have hbt : b.take 65536 = b := List.take_of_length_le (by omega)
  have hn : nwB b = catF (scanL b) := by unfold nwB; rw [hbt]; exact scan_take hb
  have hsm := scan_small b.length b (Nat.le_refl _) hb
  have hN := scanN_le hb
  have hlen : (catF (scanL b)).length ≤ 65536 := by unfold scanN at hN; omega
  have hI : Inv (nwB b) (scanN b) (scanL b) (scanL b).length := ⟨hn, hsm, by rw [hn]; exact hlen, Nat.le_refl _, by rw [List.take_of_length_le (Nat.le_refl _)]; rfl⟩
  obtain ⟨b1, b2, b3⟩ := hI.bounds
  have hls' : ∀ x ∈ l, x.2.2.1.length ≤ 100000000 := by
    unfold fewV at hf
    simp only [Bool.and_eq_true, decide_eq_true_eq] at hf
    have := (fewN_le l 0 hls (Int.le_refl _) (by omega)).2
    intro x hx
    have := this x hx
    omega
  have hC : paC (nwB b) (scanN b) (scanL b) ((scanL b).length : Int) l = true := by
    unfold paC
    simp only [Bool.and_eq_true, decide_eq_true_eq, beq_iff_eq, List.all_eq_true]
    refine ⟨hn, smB_of (fun x hx => (hsm x hx).1), hI.len, by omega, Int.le_refl _, ?_, hls'⟩
    rw [Int.toNat_natCast, List.take_of_length_le (Nat.le_refl _)]
    rfl
  have hcap := hI.smallL
  rw [hbt, hC, stands_inv hI, hcap, decide_eq_true b1, decide_eq_true b2, decide_eq_true b3, decide_eq_true (show (0 : Int) ≤ ((scanL b).length : Int) by omega), ← paWs_app, paWs_all0]
  simp [outer]
theorem sz_opsl {l : List OpD} (h : Sz (.slice OpT) l) : ∀ x ∈ l, x.2.2.1.length ≤ 140737488355328 := fun x hx => by
  have h1 := (h.2 x hx).2.2.1.1
  have h2 : Ty.bts (.int .u8) = 1 := rfl
  have h3 : reachBytes ≤ 140737488355328 := by decide
  rw [h2] at h1
  omega
end Go.Crc
