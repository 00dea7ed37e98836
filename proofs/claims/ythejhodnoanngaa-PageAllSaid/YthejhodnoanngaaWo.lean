/- Contracts of functions of this program. Conditions: none. -/
import Derived.Test.YthejhodnoanngaaWn
set_option linter.unusedVariables false
set_option linter.unusedSimpArgs false
/- The law PageCrashes. Conditions: none. A text of this seat's numbers. -/
set_option linter.unusedVariables false
set_option linter.unusedSimpArgs false
set_option maxRecDepth 100000
namespace Go.Crc
open Go.Vm Go.Pack Go.Rec Go.RowKit
def prefR : List (List Int) → List (List Int) → Bool
  | [], _ => true
  | x :: r, y :: t => x == y && prefR r t
  | _ :: _, [] => false
def csF (vs : List AV) (H : Stack) : Tr (Ex × List AV × Stack × Wr) := match vs, H with
  | [.int .i64 kp, .ptr 0 0 0, .slice (.pair (.int .i64) (.pair (.int .i64) (.pair (.slice (.int .u8)) .bool))) l .view, .int .i64 m, .int .i64 i], [.cells [.slice (.int .u8) b .own, .int .i64 n, .bool o]] :: S =>
    .br (decide (m = l.length) && (decide (i = 0) && (decide (b.length = 0) && decide (n = 0)))) (.br (isFull (stps l (b, .own, n, o)).2.1)
      (.yes (.exit 0, [.int .i64 kp, .ptr 0 0 0], [stOb (stps l (b, .own, n, o)).1 .full (stps l (b, .own, n, o)).2.2.1 (stps l (b, .own, n, o)).2.2.2] :: S, wrps l []))
      (.yes (.exit 0, [.int .i64 kp, .ptr 0 0 0], [stOb (stps l (b, .own, n, o)).1 .own (stps l (b, .own, n, o)).2.2.1 (stps l (b, .own, n, o)).2.2.2] :: S, wrps l []))) .no
  | _, _ => .no
def cs2F (vs : List AV) (H : Stack) : Tr (Ex × List AV × Stack × Wr) := match vs, H with
  | [.int .i64 kp, .slice (.slice (.int .u8)) sf .view, .slice (.slice (.int .u8)) ws .view, .slice (.slice (.int .u8)) nw .view, .int .i64 m, .int .i64 i], [o] :: S =>
    .br (decide (m = nw.length) && (decide (i = 0) && decide (nw.length ≤ ws.length))) (.br (prefR nw ws)
      (.yes (.exit 2, [.int .i64 kp, .undef, .slice TRow sf .view, .slice TRow ws .view, .slice TRow nw .view], [o] :: S, []))
      (.yes (.ret, [.int .i64 kp, .bool false, .slice TRow sf .view, .slice TRow ws .view, .slice TRow nw .view], [o] :: S, []))) .no
  | _, _ => .no
def lfCs : Nat → Option LoopSum := lfOf [(122, loopT [1, 5, 28, 29, 30] [1, 5] csF), (8186, loopT [1, 10, 12, 13, 75, 76] [1, 4, 10, 12, 13] cs2F)]
noncomputable def ECs : List (Ent PR A) := [aliveE, fewE, doesE, stNwE, scanE, stByE, stFrE, stCrE, stSynE, stLenE]
noncomputable abbrev LCs (N : Nat) := LC PR (cfE ECs) cfgG lfCs n_law_PageCrashes 0 122 [1, 5, 28, 29, 30] [1, 5] N
noncomputable abbrev LC2 (N : Nat) := LC PR (cfE ECs) cfgG lfCs n_law_PageCrashes 1 8186 [1, 10, 12, 13, 75, 76] [1, 4, 10, 12, 13] N
theorem cs_round_own (kp : Int) (b : List Int) (l : List OpD) (n m i : Int) (o : Bool) (S : Stack) (wr : Wr) (N : Nat) (k : Ex → List AV → Stack → Wr → Option Res) :
    LCs (N + 1) [.int .i64 kp, .ptr 0 0 0, .slice OpT l .view, .int .i64 m, .int .i64 i] ([stOb b .own n o] :: S) wr k =
      (bif decide (i < m) then (at? l i).bind fun x => bif decide (b.length ≤ 1000000) && (decide (0 ≤ n) && decide (n ≤ (b.length : Int))) then
        bif x.1 == 5 then LCs N [.int .i64 kp, .ptr 0 0 0, .slice OpT l .view, .int .i64 m, .int .i64 (IntKind.i64.wrap (i + 1))] ([stOb (nwB (b.take n.toNat)) .own (scanN ((b.take n.toNat).take 65536)) false] :: S) ((0, 6) :: (0, 1) :: wr) k
        else bif x.1 == 2 then LCs N [.int .i64 kp, .ptr 0 0 0, .slice OpT l .view, .int .i64 m, .int .i64 (IntKind.i64.wrap (i + 1))] ([stOb (crB b n x.2.1) .full (scanN (crT b n x.2.1)) false] :: S) ((0, 2) :: (0, 0) :: (0, 1) :: wr) k
        else bif x.1 == 0 && appOK b x.2.2.1 o then LCs N [.int .i64 kp, .ptr 0 0 0, .slice OpT l .view, .int .i64 m, .int .i64 (IntKind.i64.wrap (i + 1))] ([stOb (b ++ frB x.2.2.1) .own n o] :: S) ((0, 2) :: (0, 0) :: (0, 1) :: wr) k
        else LCs N [.int .i64 kp, .ptr 0 0 0, .slice OpT l .view, .int .i64 m, .int .i64 (IntKind.i64.wrap (i + 1))] ([stOb b .own (dsN b n x.1 o) (dsO x.1 o x.2.2.2)] :: S) ((0, 2) :: (0, 0) :: (0, 1) :: wr) k
      else none else k (.exit 0) [.int .i64 kp, .ptr 0 0 0] ([stOb b .own n o] :: S) wr) := by kernel_rfl
theorem cs_round_full (kp : Int) (b : List Int) (l : List OpD) (n m i : Int) (o : Bool) (S : Stack) (wr : Wr) (N : Nat) (k : Ex → List AV → Stack → Wr → Option Res) :
    LCs (N + 1) [.int .i64 kp, .ptr 0 0 0, .slice OpT l .view, .int .i64 m, .int .i64 i] ([stOb b .full n o] :: S) wr k =
      (bif decide (i < m) then (at? l i).bind fun x => bif decide (b.length ≤ 1000000) && (decide (0 ≤ n) && decide (n ≤ (b.length : Int))) then
        bif x.1 == 5 then LCs N [.int .i64 kp, .ptr 0 0 0, .slice OpT l .view, .int .i64 m, .int .i64 (IntKind.i64.wrap (i + 1))] ([stOb (nwB (b.take n.toNat)) .own (scanN ((b.take n.toNat).take 65536)) false] :: S) ((0, 6) :: (0, 1) :: wr) k
        else bif x.1 == 2 then LCs N [.int .i64 kp, .ptr 0 0 0, .slice OpT l .view, .int .i64 m, .int .i64 (IntKind.i64.wrap (i + 1))] ([stOb (crB b n x.2.1) .full (scanN (crT b n x.2.1)) false] :: S) ((0, 2) :: (0, 0) :: (0, 1) :: wr) k
        else bif x.1 == 0 && appOK b x.2.2.1 o then LCs N [.int .i64 kp, .ptr 0 0 0, .slice OpT l .view, .int .i64 m, .int .i64 (IntKind.i64.wrap (i + 1))] ([stOb (b ++ frB x.2.2.1) .own n o] :: S) ((0, 2) :: (0, 0) :: (0, 1) :: wr) k
        else LCs N [.int .i64 kp, .ptr 0 0 0, .slice OpT l .view, .int .i64 m, .int .i64 (IntKind.i64.wrap (i + 1))] ([stOb b .full (dsN b n x.1 o) (dsO x.1 o x.2.2.2)] :: S) ((0, 2) :: (0, 0) :: (0, 1) :: wr) k
      else none else k (.exit 0) [.int .i64 kp, .ptr 0 0 0] ([stOb b .full n o] :: S) wr) := by kernel_rfl
theorem cs_loop (kp : Int) (l : List OpD) (m : Int) (hm : m = (l.length : Int)) (hl : l.length ≤ maxInt) (hb : ∀ x ∈ l, isBytes x.2.2.1) (S : Stack) (k : Ex → List AV → Stack → Wr → Option Res) : ∀ (q j : Nat) (s : StS) (wr : Wr), j + q = l.length → GoodS s →
    LCs (q + 1) [.int .i64 kp, .ptr 0 0 0, .slice OpT l .view, .int .i64 m, .int .i64 (j : Int)] ([stOb s.1 s.2.1 s.2.2.1 s.2.2.2] :: S) wr k =
      k (.exit 0) [.int .i64 kp, .ptr 0 0 0] ([stOb (stps (l.drop j) s).1 (stps (l.drop j) s).2.1 (stps (l.drop j) s).2.2.1 (stps (l.drop j) s).2.2.2] :: S) (wrps (l.drop j) wr) := by
  intro q
  induction q with
  | zero =>
    intro j s wr hj hs
    obtain ⟨b, lv, n, o⟩ := s
    have hd : l.drop j = [] := List.drop_of_length_le (by omega)
    rw [hd]
    have hlv : lvG lv = true := hs.1
    rcases lvG_cases hlv with rfl | rfl
    · simp only
      rw [cs_round_own, cond_ne (decide_eq_false (by omega))]
      rfl
    · simp only
      rw [cs_round_full, cond_ne (decide_eq_false (by omega))]
      rfl
  | succ q ih =>
    intro j s wr hj hs
    have hlt : j < l.length := by omega
    have hw := wrap_next hlt hl
    have hd : l.drop j = l[j] :: l.drop (j + 1) := List.drop_eq_getElem_cons hlt
    have hg := stp_good hs (hb l[j] (List.getElem_mem hlt))
    have hi := ih (j + 1) (stp s l[j]) (app (wrp l[j]) wr) (by omega) hg
    rw [hd]
    have hx : l[j]? = some l[j] := List.getElem?_eq_getElem hlt
    generalize l[j] = x at hi hx hg
    obtain ⟨b, lv, n, o⟩ := s
    have hlv : lvG lv = true := hs.1
    obtain ⟨_, L, y, hI⟩ := hs
    obtain ⟨b1, b2, b3⟩ := hI.bounds
    have hc : (decide (b.length ≤ 1000000) && (decide (0 ≤ n) && decide (n ≤ (b.length : Int)))) = true := by
      simp only [Bool.and_eq_true, decide_eq_true_eq]; exact ⟨b1, b2, b3⟩
    rcases lvG_cases hlv with rfl | rfl
    · simp only
      rw [cs_round_own, cond_eq (decide_eq_true (by omega)), at_some hx, Option.bind_some, hc, hw]
      unfold stp wrp at hi
      simp only [stps, wrps]
      unfold stp wrp
      cases h5 : (x.1 == 5) with
      | true => simp only [h5, cond_true] at hi; exact hi
      | false =>
        cases h2 : (x.1 == 2) with
        | true => simp only [h5, h2, cond_true, cond_false] at hi; exact hi
        | false =>
          cases h0 : (x.1 == 0 && appOK b x.2.2.1 o) with
          | true => simp only [h5, h2, h0, cond_true, cond_false] at hi; exact hi
          | false => simp only [h5, h2, h0, cond_false] at hi; exact hi
    · simp only
      rw [cs_round_full, cond_eq (decide_eq_true (by omega)), at_some hx, Option.bind_some, hc, hw]
      unfold stp wrp at hi
      simp only [stps, wrps]
      unfold stp wrp
      cases h5 : (x.1 == 5) with
      | true => simp only [h5, cond_true] at hi; exact hi
      | false =>
        cases h2 : (x.1 == 2) with
        | true => simp only [h5, h2, cond_true, cond_false] at hi; exact hi
        | false =>
          cases h0 : (x.1 == 0 && appOK b x.2.2.1 o) with
          | true => simp only [h5, h2, h0, cond_true, cond_false] at hi; exact hi
          | false => simp only [h5, h2, h0, cond_false] at hi; exact hi
theorem c2_round (kp m i : Int) (sf ws nw : List (List Int)) (o : Ob) (S : Stack) (wr : Wr) (N : Nat) (k : Ex → List AV → Stack → Wr → Option Res) :
    LC2 (N + 1) [.int .i64 kp, .slice TRow sf .view, .slice TRow ws .view, .slice TRow nw .view, .int .i64 m, .int .i64 i] ([o] :: S) wr k =
      (bif decide (i < m) then (at? nw i).bind fun x => (at? ws i).bind fun y => bif x != y then k .ret [.int .i64 kp, .bool false, .slice TRow sf .view, .slice TRow ws .view, .slice TRow nw .view] ([o] :: S) wr
        else LC2 N [.int .i64 kp, .slice TRow sf .view, .slice TRow ws .view, .slice TRow nw .view, .int .i64 m, .int .i64 (IntKind.i64.wrap (i + 1))] ([o] :: S) wr k
      else k (.exit 2) [.int .i64 kp, .undef, .slice TRow sf .view, .slice TRow ws .view, .slice TRow nw .view] ([o] :: S) wr) := by kernel_rfl
def csCH (kp : Int) (now was : List (List Int)) (W : Wr) : Option Res :=
  bif decide (kp ≥ 0) then bif decide (kp < 70000) then some (.bool true, W, []) else some (.bool ((now.length : Int) == (was.length : Int)), W, []) else some (.bool false, W, [])
def csFin (kp : Int) (safe now was : List (List Int)) (W : Wr) : Option Res :=
  bif decide (kp < 0) then bif (now.length : Int) == (safe.length : Int) then some (.bool true, W, []) else csCH kp now was W else csCH kp now was W
def csT (b : List Int) (n kp : Int) (W : Wr) : Option Res :=
  bif decide (b.length ≤ 1000000) && (decide (0 ≤ n) && decide (n ≤ (b.length : Int))) then
    bif decide ((b.take n.toNat).length ≤ 1000000) then bif decide (b.length ≤ 1000000) then
      bif decide (b.length ≤ 1000000) && (decide (0 ≤ n) && decide (n ≤ (b.length : Int))) then bif decide ((crB b n kp).length ≤ 1000000) then
        bif decide (((scanL (crB b n kp)).length : Int) < ((scanL (b.take n.toNat)).length : Int)) then some (.bool false, W, [])
        else bif decide (((scanL (crB b n kp)).length : Int) > ((scanL b).length : Int)) then some (.bool false, W, [])
        else bif scanN (crT b n kp) != ((crB b n kp).length : Int) then some (.bool false, W, [])
        else bif decide (((scanL (crB b n kp)).length : Int) = ((scanL (crB b n kp)).length : Int)) && (decide ((0 : Int) = 0) && decide ((scanL (crB b n kp)).length ≤ (scanL b).length)) then
          bif prefR (scanL (crB b n kp)) (scanL b) then csFin kp (scanL (b.take n.toNat)) (scanL (crB b n kp)) (scanL b) W else some (.bool false, W, [])
        else none
      else none else none else none else none else none
theorem page_crashes0 (l : List OpD) (kp : Int) : body PR (cfE ECs) cfgG lfCs n_law_PageCrashes [.slice OpT l .view, .int .i64 kp] [] some =
    (bif !fewV l then some (.bool true, [], [])
    else bif decide ((l.length : Int) = (l.length : Int)) && (decide ((0 : Int) = 0) && (decide ((nwB []).length = 0) && decide (scanN (([] : List Int).take 65536) = 0))) then
      bif isFull (stps l (nwB [], .own, scanN (([] : List Int).take 65536), false)).2.1 then csT (stps l (nwB [], .own, scanN (([] : List Int).take 65536), false)).1 (stps l (nwB [], .own, scanN (([] : List Int).take 65536), false)).2.2.1 kp (outer (app (wrps l []) []))
      else csT (stps l (nwB [], .own, scanN (([] : List Int).take 65536), false)).1 (stps l (nwB [], .own, scanN (([] : List Int).take 65536), false)).2.2.1 kp (outer (app (wrps l []) []))
    else none) := by kernel_rfl
theorem c2_loop (kp m : Int) (sf ws nw : List (List Int)) (hm : m = (nw.length : Int)) (hl : nw.length ≤ maxInt) (hle : nw.length ≤ ws.length) (o : Ob) (S : Stack) (wr : Wr) (k : Ex → List AV → Stack → Wr → Option Res) : ∀ (q j : Nat), j + q = nw.length →
    LC2 (q + 1) [.int .i64 kp, .slice TRow sf .view, .slice TRow ws .view, .slice TRow nw .view, .int .i64 m, .int .i64 (j : Int)] ([o] :: S) wr k =
      bif prefR (nw.drop j) (ws.drop j) then k (.exit 2) [.int .i64 kp, .undef, .slice TRow sf .view, .slice TRow ws .view, .slice TRow nw .view] ([o] :: S) wr
      else k .ret [.int .i64 kp, .bool false, .slice TRow sf .view, .slice TRow ws .view, .slice TRow nw .view] ([o] :: S) wr := by
  intro q
  induction q with
  | zero =>
    intro j hj
    have hd : nw.drop j = [] := List.drop_of_length_le (by omega)
    rw [c2_round, cond_ne (decide_eq_false (by omega)), hd]
    simp only [prefR, cond_true]
  | succ q ih =>
    intro j hj
    have hlt : j < nw.length := by omega
    have hlt2 : j < ws.length := by omega
    have hw := wrap_next hlt hl
    have hd : nw.drop j = nw[j] :: nw.drop (j + 1) := List.drop_eq_getElem_cons hlt
    have hd2 : ws.drop j = ws[j] :: ws.drop (j + 1) := List.drop_eq_getElem_cons hlt2
    have hi := ih (j + 1) (by omega)
    rw [c2_round, cond_eq (decide_eq_true (by omega)), at_some (List.getElem?_eq_getElem hlt), Option.bind_some, at_some (List.getElem?_eq_getElem hlt2), Option.bind_some, hw, hd, hd2]
    simp only [prefR]
    rw [bne]
    cases hx : (nw[j] == ws[j]) with
    | true => simp only [Bool.not_true, cond_false, Bool.true_and]; exact hi
    | false => rfl
theorem cs_loops : ∀ x ∈ funLoops PR n_law_PageCrashes, ∀ L, lfCs x.1 = some L → LoopOK (ntm PR n_law_PageCrashes) (fun fr H wr k => code PR (cfE ECs) cfgG lfCs (cfgG.live n_law_PageCrashes) x.2 (2 * x.1) fr H wr k) L := by
  refine all_loops (ps := [122, 8186]) (by kernel_rfl) fun j p hj L hL => ?_
  match j, hj with
  | 0, hj =>
    cases hj
    cases hL
    refine loopT_ok (by decide) fun vs H wr ex vs' H' w hv ha hh => ?_
    unfold csF at hv
    split at hv
    · rename_i kp l m i b n o S
      obtain ⟨hc, hv2⟩ := Tr.br_no hv
      clear hv
      simp only [Bool.and_eq_true, decide_eq_true_eq] at hc
      obtain ⟨h1, h2, h3, h4⟩ := hc
      subst h2 h4
      have hb0 : b = [] := List.eq_nil_of_length_eq_zero h3
      subst hb0
      simp only [okAVs, okAV] at ha
      have hl : l.length ≤ maxInt := ha.2.2.1.1
      have hbs : ∀ x ∈ l, isBytes x.2.2.1 := fun x hx => (ha.2.2.1.2 x hx).2.2.1.2
      have hg := good0 o
      have hgs := stps_good (r := l) hg hbs
      have := fun k => cs_loop kp l m h1 hl hbs S k l.length 0 ([], .own, 0, o) wr (by omega) hg
      simp only [List.drop_zero] at this
      refine ⟨l.length + 1, fun k => ?_⟩
      have ht := this k
      rw [wrps_app] at ht
      rcases Tr.br_or hv2 with ⟨he, h5⟩ | ⟨he, h5⟩
      · cases h5
        have hlv : (stps l ([], .own, 0, o)).2.1 = .full := by
          rcases lvG_cases hgs.1 with h | h
          · rw [h] at he; cases he
          · exact h
        rw [hlv] at ht
        exact ht
      · cases h5
        have hlv : (stps l ([], .own, 0, o)).2.1 = .own := by
          rcases lvG_cases hgs.1 with h | h
          · exact h
          · rw [h] at he; cases he
        rw [hlv] at ht
        exact ht
    · cases hv
  | 1, hj =>
    cases hj
    cases hL
    refine loopT_ok (by decide) fun vs H wr ex vs' H' w hv ha hh => ?_
    unfold cs2F at hv
    split at hv
    · rename_i kp sf ws nw m i o S
      obtain ⟨hc, hv2⟩ := Tr.br_no hv
      clear hv
      simp only [Bool.and_eq_true, decide_eq_true_eq] at hc
      obtain ⟨h1, h2, h3⟩ := hc
      subst h2
      simp only [okAVs, okAV] at ha
      have hl : nw.length ≤ maxInt := ha.2.2.2.1.1
      refine ⟨nw.length + 1, fun k => ?_⟩
      have := c2_loop kp m sf ws nw h1 hl h3 o S wr k nw.length 0 (by omega)
      rw [List.drop_zero, List.drop_zero] at this
      rcases Tr.br_or hv2 with ⟨he, h6⟩ | ⟨he, h6⟩
      · cases h6; rw [he] at this; exact this
      · cases h6; rw [he] at this; exact this
    · cases hv
theorem prefR_take : ∀ (l : List (List Int)) (N : Nat), prefR (l.take N) l = true
  | [], N => by simp [prefR]
  | x :: r, 0 => rfl
  | x :: r, N + 1 => by
    simp only [List.take_succ_cons, prefR, beq_self_eq_true, Bool.true_and]
    exact prefR_take r N
theorem wholeF_zero : ∀ (r : List (List Int)), wholeF r 0 = 0
  | [] => rfl
  | x :: r => by
    have := frB_ge x
    simp only [wholeF]
    rw [decide_eq_false (by omega)]
    rfl
theorem csT_ok {b : List Int} {n : Int} {l : List (List Int)} {y : Nat} (h : Inv b n l y) (kp : Int) : csT b n kp [] = some (.bool true, [], []) := by
  obtain ⟨b1, b2, b3⟩ := h.bounds
  have hC := h.crash kp
  have hN : dcN l (y : Int) kp = y + wholeF (l.drop y) kp.toNat := by unfold dcN; rw [Int.toNat_natCast]
  have hw := wholeF_le (l.drop y) kp.toNat
  rw [List.length_drop] at hw
  have hle := h.le
  have hbt := h.take
  have hb65 := h.len
  have hcl := hC.len
  have s1 : scanL (b.take n.toNat) = l.take y := by rw [hbt]; exact scan_cat fun x hx => h.small x (List.mem_of_mem_take hx)
  have s2 : scanL b = l := by rw [h.cat]; exact scan_cat h.small
  have s3 : scanL (crB b n kp) = l.take (dcN l (y : Int) kp) := by rw [hC.cat]; exact scan_cat hC.small
  have s4 : scanN (crT b n kp) = ((crB b n kp).length : Int) := by rw [hC.syn, hC.cat, List.take_take, Nat.min_self]
  have l1 : (l.take y).length = y := by rw [List.length_take]; omega
  have l2 : (l.take (dcN l (y : Int) kp)).length = dcN l (y : Int) kp := by rw [List.length_take]; omega
  have ht : (b.take n.toNat).length ≤ b.length := by rw [List.length_take]; omega
  unfold csT
  rw [decide_eq_true b1, decide_eq_true b2, decide_eq_true b3, decide_eq_true (show (b.take n.toNat).length ≤ 1000000 by omega), decide_eq_true (show (crB b n kp).length ≤ 1000000 by omega), s1, s2, s3, s4, l1, l2, prefR_take,
    decide_eq_false (show ¬ ((dcN l (y : Int) kp : Nat) : Int) < (y : Int) by omega), decide_eq_false (show ¬ ((dcN l (y : Int) kp : Nat) : Int) > (l.length : Int) by omega), decide_eq_true (show dcN l (y : Int) kp ≤ l.length by omega)]
  simp only [Bool.and_self, cond_true, cond_false, decide_true, bne_self_eq_false, Bool.and_true]
  unfold csFin csCH
  rw [l1, l2]
  by_cases hk : kp < 0
  · have : dcN l (y : Int) kp = y := by
      rw [hN, show kp.toNat = 0 by omega, wholeF_zero, Nat.add_zero]
    rw [decide_eq_true hk, this]
    simp
  · rw [decide_eq_false hk, decide_eq_true (show kp ≥ 0 by omega), cond_false, cond_true]
    by_cases hb : kp < 70000
    · rw [decide_eq_true hb]; rfl
    · have hcl : (catF l).length = (catF (l.take y)).length + (catF (l.drop y)).length := by rw [cat_split l y, List.length_append]
      have hbl := congrArg List.length h.cat
      have : dcN l (y : Int) kp = l.length := by
        rw [hN, wholeF_big _ _ (by omega), List.length_drop]; omega
      rw [decide_eq_false hb, this, beq_self_eq_true]
      rfl
theorem page_crashes (l : List OpD) (kp : Int) (hbs : ∀ x ∈ l, isBytes x.2.2.1) : body PR (cfE ECs) cfgG lfCs n_law_PageCrashes [.slice OpT l .view, .int .i64 kp] [] some = some (.bool true, [], []) := by
  rw [page_crashes0, ← wrps_app, all0_wrps, nwB_nil, scanN_nil]
  obtain ⟨_, L, y, hI⟩ := stps_good (r := l) (good0 false) hbs
  have hT := csT_ok hI kp
  have hc : (decide ((l.length : Int) = (l.length : Int)) && (decide ((0 : Int) = 0) && (decide (([] : List Int).length = 0) && decide ((0 : Int) = 0)))) = true := by simp
  rw [hc]
  cases fewV l with
  | false => rfl
  | true =>
    simp only [Bool.not_true, cond_false, cond_true]
    have hT' : csT (stps l ([], .own, 0, false)).1 (stps l ([], .own, 0, false)).2.2.1 kp (outer []) = some (.bool true, [], []) := hT
    rw [hT']
    cases isFull (stps l ([], .own, 0, false)).2.1 <;> rfl
end Go.Crc
