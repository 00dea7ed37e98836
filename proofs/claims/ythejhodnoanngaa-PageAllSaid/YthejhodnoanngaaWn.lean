/- Contracts of functions of this program. Conditions: none. -/
import Derived.Test.YthejhodnoanngaaWm
set_option linter.unusedVariables false
set_option linter.unusedSimpArgs false
/- The law PageAnew. Conditions: none. A text of this seat's numbers. -/
set_option linter.unusedVariables false
set_option linter.unusedSimpArgs false
set_option maxRecDepth 100000
namespace Go.Crc
open Go.Vm Go.Pack Go.Rec Go.RowKit
def isFull : Lv → Bool
  | .full => true
  | _ => false
def anF (vs : List AV) (H : Stack) : Tr (Ex × List AV × Stack × Wr) := match vs, H with
  | [.slice (.int .u8) more .view, .ptr 0 0 0, .slice (.pair (.int .i64) (.pair (.int .i64) (.pair (.slice (.int .u8)) .bool))) l .view, .int .i64 m, .int .i64 i], [.cells [.slice (.int .u8) b .own, .int .i64 n, .bool o]] :: S =>
    .br (decide (m = l.length) && (decide (i = 0) && (decide (b.length = 0) && decide (n = 0)))) (.br (isFull (stps l (b, .own, n, o)).2.1)
      (.yes (.exit 0, [.slice (.int .u8) more .view, .ptr 0 0 0], [stOb (stps l (b, .own, n, o)).1 .full (stps l (b, .own, n, o)).2.2.1 (stps l (b, .own, n, o)).2.2.2] :: S, wrps l []))
      (.yes (.exit 0, [.slice (.int .u8) more .view, .ptr 0 0 0], [stOb (stps l (b, .own, n, o)).1 .own (stps l (b, .own, n, o)).2.2.1 (stps l (b, .own, n, o)).2.2.2] :: S, wrps l []))) .no
  | _, _ => .no
def lfAn : Nat → Option LoopSum := lfOf [(122, loopT [1, 5, 33, 34, 35] [1, 5] anF)]
noncomputable def EAn : List (Ent PR A) := [aliveE, fewE, doesE, stNwE, stApE, stSyncE, stOffE, stByE, stLenE, stFrE]
noncomputable abbrev LAn (N : Nat) := LC PR (cfE EAn) cfgG lfAn n_law_PageAnew 0 122 [1, 5, 33, 34, 35] [1, 5] N
theorem an_round_own (more b : List Int) (l : List OpD) (n m i : Int) (o : Bool) (S : Stack) (wr : Wr) (N : Nat) (k : Ex → List AV → Stack → Wr → Option Res) :
    LAn (N + 1) [.slice (.int .u8) more .view, .ptr 0 0 0, .slice OpT l .view, .int .i64 m, .int .i64 i] ([stOb b .own n o] :: S) wr k =
      (bif decide (i < m) then (at? l i).bind fun x => bif decide (b.length ≤ 1000000) && (decide (0 ≤ n) && decide (n ≤ (b.length : Int))) then
        bif x.1 == 5 then LAn N [.slice (.int .u8) more .view, .ptr 0 0 0, .slice OpT l .view, .int .i64 m, .int .i64 (IntKind.i64.wrap (i + 1))] ([stOb (nwB (b.take n.toNat)) .own (scanN ((b.take n.toNat).take 65536)) false] :: S) ((0, 6) :: (0, 1) :: wr) k
        else bif x.1 == 2 then LAn N [.slice (.int .u8) more .view, .ptr 0 0 0, .slice OpT l .view, .int .i64 m, .int .i64 (IntKind.i64.wrap (i + 1))] ([stOb (crB b n x.2.1) .full (scanN (crT b n x.2.1)) false] :: S) ((0, 2) :: (0, 0) :: (0, 1) :: wr) k
        else bif x.1 == 0 && appOK b x.2.2.1 o then LAn N [.slice (.int .u8) more .view, .ptr 0 0 0, .slice OpT l .view, .int .i64 m, .int .i64 (IntKind.i64.wrap (i + 1))] ([stOb (b ++ frB x.2.2.1) .own n o] :: S) ((0, 2) :: (0, 0) :: (0, 1) :: wr) k
        else LAn N [.slice (.int .u8) more .view, .ptr 0 0 0, .slice OpT l .view, .int .i64 m, .int .i64 (IntKind.i64.wrap (i + 1))] ([stOb b .own (dsN b n x.1 o) (dsO x.1 o x.2.2.2)] :: S) ((0, 2) :: (0, 0) :: (0, 1) :: wr) k
      else none else k (.exit 0) [.slice (.int .u8) more .view, .ptr 0 0 0] ([stOb b .own n o] :: S) wr) := by kernel_rfl
theorem an_round_full (more b : List Int) (l : List OpD) (n m i : Int) (o : Bool) (S : Stack) (wr : Wr) (N : Nat) (k : Ex → List AV → Stack → Wr → Option Res) :
    LAn (N + 1) [.slice (.int .u8) more .view, .ptr 0 0 0, .slice OpT l .view, .int .i64 m, .int .i64 i] ([stOb b .full n o] :: S) wr k =
      (bif decide (i < m) then (at? l i).bind fun x => bif decide (b.length ≤ 1000000) && (decide (0 ≤ n) && decide (n ≤ (b.length : Int))) then
        bif x.1 == 5 then LAn N [.slice (.int .u8) more .view, .ptr 0 0 0, .slice OpT l .view, .int .i64 m, .int .i64 (IntKind.i64.wrap (i + 1))] ([stOb (nwB (b.take n.toNat)) .own (scanN ((b.take n.toNat).take 65536)) false] :: S) ((0, 6) :: (0, 1) :: wr) k
        else bif x.1 == 2 then LAn N [.slice (.int .u8) more .view, .ptr 0 0 0, .slice OpT l .view, .int .i64 m, .int .i64 (IntKind.i64.wrap (i + 1))] ([stOb (crB b n x.2.1) .full (scanN (crT b n x.2.1)) false] :: S) ((0, 2) :: (0, 0) :: (0, 1) :: wr) k
        else bif x.1 == 0 && appOK b x.2.2.1 o then LAn N [.slice (.int .u8) more .view, .ptr 0 0 0, .slice OpT l .view, .int .i64 m, .int .i64 (IntKind.i64.wrap (i + 1))] ([stOb (b ++ frB x.2.2.1) .own n o] :: S) ((0, 2) :: (0, 0) :: (0, 1) :: wr) k
        else LAn N [.slice (.int .u8) more .view, .ptr 0 0 0, .slice OpT l .view, .int .i64 m, .int .i64 (IntKind.i64.wrap (i + 1))] ([stOb b .full (dsN b n x.1 o) (dsO x.1 o x.2.2.2)] :: S) ((0, 2) :: (0, 0) :: (0, 1) :: wr) k
      else none else k (.exit 0) [.slice (.int .u8) more .view, .ptr 0 0 0] ([stOb b .full n o] :: S) wr) := by kernel_rfl
theorem wrps_app : ∀ (r : List OpD) (w : Wr), wrps r w = app (wrps r []) w
  | [], w => by simp [wrps, app]
  | x :: r, w => by
    simp only [wrps]
    rw [wrps_app r (app (wrp x) w), wrps_app r (app (wrp x) [])]
    simp only [app_eq, List.append_nil, List.append_assoc]
theorem an_loop (more : List Int) (l : List OpD) (m : Int) (hm : m = (l.length : Int)) (hl : l.length ≤ maxInt) (hb : ∀ x ∈ l, isBytes x.2.2.1) (S : Stack) (k : Ex → List AV → Stack → Wr → Option Res) : ∀ (q j : Nat) (s : StS) (wr : Wr), j + q = l.length → GoodS s →
    LAn (q + 1) [.slice (.int .u8) more .view, .ptr 0 0 0, .slice OpT l .view, .int .i64 m, .int .i64 (j : Int)] ([stOb s.1 s.2.1 s.2.2.1 s.2.2.2] :: S) wr k =
      k (.exit 0) [.slice (.int .u8) more .view, .ptr 0 0 0] ([stOb (stps (l.drop j) s).1 (stps (l.drop j) s).2.1 (stps (l.drop j) s).2.2.1 (stps (l.drop j) s).2.2.2] :: S) (wrps (l.drop j) wr) := by
  intro q
  induction q with
  | zero =>
    intro j s wr hj hs
    obtain ⟨b, lv, n, o⟩ := s
    have hd : l.drop j = [] := List.drop_of_length_le (by omega)
    rw [hd]
    have hlv : lvG lv = true := hs.1
    rcases lvG_cases hlv with rfl | rfl
    · simp only
      rw [an_round_own, cond_ne (decide_eq_false (by omega))]
      rfl
    · simp only
      rw [an_round_full, cond_ne (decide_eq_false (by omega))]
      rfl
  | succ q ih =>
    intro j s wr hj hs
    have hlt : j < l.length := by omega
    have hw := wrap_next hlt hl
    have hd : l.drop j = l[j] :: l.drop (j + 1) := List.drop_eq_getElem_cons hlt
    have hg := stp_good hs (hb l[j] (List.getElem_mem hlt))
    have hi := ih (j + 1) (stp s l[j]) (app (wrp l[j]) wr) (by omega) hg
    rw [hd]
    have hx : l[j]? = some l[j] := List.getElem?_eq_getElem hlt
    generalize l[j] = x at hi hx hg
    obtain ⟨b, lv, n, o⟩ := s
    have hlv : lvG lv = true := hs.1
    obtain ⟨_, L, y, hI⟩ := hs
    obtain ⟨b1, b2, b3⟩ := hI.bounds
    have hc : (decide (b.length ≤ 1000000) && (decide (0 ≤ n) && decide (n ≤ (b.length : Int)))) = true := by
      simp only [Bool.and_eq_true, decide_eq_true_eq]; exact ⟨b1, b2, b3⟩
    rcases lvG_cases hlv with rfl | rfl
    · simp only
      rw [an_round_own, cond_eq (decide_eq_true (by omega)), at_some hx, Option.bind_some, hc, hw]
      unfold stp wrp at hi
      simp only [stps, wrps]
      unfold stp wrp
      cases h5 : (x.1 == 5) with
      | true => simp only [h5, cond_true] at hi; exact hi
      | false =>
        cases h2 : (x.1 == 2) with
        | true => simp only [h5, h2, cond_true, cond_false] at hi; exact hi
        | false =>
          cases h0 : (x.1 == 0 && appOK b x.2.2.1 o) with
          | true => simp only [h5, h2, h0, cond_true, cond_false] at hi; exact hi
          | false => simp only [h5, h2, h0, cond_false] at hi; exact hi
    · simp only
      rw [an_round_full, cond_eq (decide_eq_true (by omega)), at_some hx, Option.bind_some, hc, hw]
      unfold stp wrp at hi
      simp only [stps, wrps]
      unfold stp wrp
      cases h5 : (x.1 == 5) with
      | true => simp only [h5, cond_true] at hi; exact hi
      | false =>
        cases h2 : (x.1 == 2) with
        | true => simp only [h5, h2, cond_true, cond_false] at hi; exact hi
        | false =>
          cases h0 : (x.1 == 0 && appOK b x.2.2.1 o) with
          | true => simp only [h5, h2, h0, cond_true, cond_false] at hi; exact hi
          | false => simp only [h5, h2, h0, cond_false] at hi; exact hi
theorem good0 (o : Bool) : GoodS ([], .own, 0, o) := ⟨rfl, [], 0, ⟨rfl, (fun x hx => by cases hx), Nat.zero_le _, Nat.zero_le _, rfl⟩⟩
def anC (B1 B2 : List Int) (a1 a2 : Int) (W : Wr) : Option Res :=
  bif a1 == a2 then bif (B1.length : Int) == (B2.length : Int) then bif decide (B1.length ≤ 1000000) then bif decide (B2.length ≤ 1000000) then some (.bool (((scanL B1).length : Int) == ((scanL B2).length : Int)), W, []) else none else none
  else some (.bool false, W, []) else some (.bool false, W, [])
def anNo (a1 a2 : Int) (W : Wr) : Option Res := bif a1 == a2 then some (.bool false, W, []) else some (.bool false, W, [])
def anT (b more : List Int) (W : Wr) : Option Res :=
  bif decide (b.length ≤ 1000000) && (decide (0 ≤ (b.length : Int)) && decide ((b.length : Int) ≤ (b.length : Int))) then
    bif decide (b.length ≤ 1000000) then
      bif appOK b more false then bif decide ((nwB (b.take (b.length : Int).toNat)).length ≤ 1000000) then
          bif appOK (nwB (b.take (b.length : Int).toNat)) more false then anC (b ++ frB more) (nwB (b.take (b.length : Int).toNat) ++ frB more) (b.length : Int) ((nwB (b.take (b.length : Int).toNat)).length : Int) W else anNo (b.length : Int) 0 W
        else none
      else bif decide ((nwB (b.take (b.length : Int).toNat)).length ≤ 1000000) then
          bif appOK (nwB (b.take (b.length : Int).toNat)) more false then anNo 0 ((nwB (b.take (b.length : Int).toNat)).length : Int) W else anC b (nwB (b.take (b.length : Int).toNat)) 0 0 W
        else none
    else none else none
theorem page_anew0 (l : List OpD) (more : List Int) : body PR (cfE EAn) cfgG lfAn n_law_PageAnew [.slice OpT l .view, .slice (.int .u8) more .view] [] some =
    (bif !fewV l then some (.bool true, [], []) else bif decide ((more.length : Int) > 1000) then some (.bool true, [], [])
    else bif decide ((l.length : Int) = (l.length : Int)) && (decide ((0 : Int) = 0) && (decide ((nwB []).length = 0) && decide (scanN (([] : List Int).take 65536) = 0))) then
      bif isFull (stps l (nwB [], .own, scanN (([] : List Int).take 65536), false)).2.1 then anT (stps l (nwB [], .own, scanN (([] : List Int).take 65536), false)).1 more (outer (app (wrps l []) []))
      else anT (stps l (nwB [], .own, scanN (([] : List Int).take 65536), false)).1 more (outer (app (wrps l []) []))
    else none) := by kernel_rfl
theorem an_loops : ∀ x ∈ funLoops PR n_law_PageAnew, ∀ L, lfAn x.1 = some L → LoopOK (ntm PR n_law_PageAnew) (fun fr H wr k => code PR (cfE EAn) cfgG lfAn (cfgG.live n_law_PageAnew) x.2 (2 * x.1) fr H wr k) L := by
  refine one_loop (p := 122) rfl (by kernel_rfl) (loopT_ok (by decide) fun vs H wr ex vs' H' w hv ha hh => ?_)
  unfold anF at hv
  split at hv
  · rename_i more l m i b n o S
    obtain ⟨hc, hv2⟩ := Tr.br_no hv
    clear hv
    simp only [Bool.and_eq_true, decide_eq_true_eq] at hc
    obtain ⟨h1, h2, h3, h4⟩ := hc
    subst h2 h4
    have hb0 : b = [] := List.eq_nil_of_length_eq_zero h3
    subst hb0
    simp only [okAVs, okAV] at ha
    have hl : l.length ≤ maxInt := ha.2.2.1.1
    have hbs : ∀ x ∈ l, isBytes x.2.2.1 := fun x hx => (ha.2.2.1.2 x hx).2.2.1.2
    have hg := good0 o
    have hgs := stps_good (r := l) hg hbs
    have := fun k => an_loop more l m h1 hl hbs S k l.length 0 ([], .own, 0, o) wr (by omega) hg
    simp only [List.drop_zero] at this
    refine ⟨l.length + 1, fun k => ?_⟩
    have ht := this k
    rw [wrps_app] at ht
    rcases Tr.br_or hv2 with ⟨he, h5⟩ | ⟨he, h5⟩
    · cases h5
      have hlv : (stps l ([], .own, 0, o)).2.1 = .full := by
        rcases lvG_cases hgs.1 with h | h
        · rw [h] at he; cases he
        · exact h
      rw [hlv] at ht
      exact ht
    · cases h5
      have hlv : (stps l ([], .own, 0, o)).2.1 = .own := by
        rcases lvG_cases hgs.1 with h | h
        · exact h
        · rw [h] at he; cases he
      rw [hlv] at ht
      exact ht
  · cases hv
theorem anT_ok {L : List (List Int)} {b more : List Int} (hb : b = catF L) (hs : smallF L) (hl : b.length ≤ 65536) : anT b more [] = some (.bool true, [], []) := by
  have e1 : b.take (b.length : Int).toNat = b := by rw [Int.toNat_natCast, List.take_of_length_le (Nat.le_refl _)]
  have e2 : nwB b = b := by subst hb; exact (nw_cat hs hl).1
  unfold anT anC
  rw [e1, e2, decide_eq_true (show b.length ≤ 1000000 by omega), decide_eq_true (show (0 : Int) ≤ (b.length : Int) by omega), decide_eq_true (show (b.length : Int) ≤ (b.length : Int) by omega)]
  cases ha : appOK b more false with
  | true =>
    have h := (appOK_iff.1 ha).2
    have : decide ((b ++ frB more).length ≤ 1000000) = true := decide_eq_true (by rw [List.length_append]; omega)
    rw [this]
    simp
  | false => simp
theorem page_anew (l : List OpD) (more : List Int) (hbs : ∀ x ∈ l, isBytes x.2.2.1) : body PR (cfE EAn) cfgG lfAn n_law_PageAnew [.slice OpT l .view, .slice (.int .u8) more .view] [] some = some (.bool true, [], []) := by
  rw [page_anew0, ← wrps_app, all0_wrps, nwB_nil, scanN_nil]
  obtain ⟨_, L, y, hI⟩ := stps_good (r := l) (good0 false) hbs
  have hT := anT_ok (more := more) hI.cat hI.small hI.len
  have hc : (decide ((l.length : Int) = (l.length : Int)) && (decide ((0 : Int) = 0) && (decide (([] : List Int).length = 0) && decide ((0 : Int) = 0)))) = true := by simp
  rw [hc]
  cases fewV l with
  | false => rfl
  | true =>
    cases decide ((more.length : Int) > 1000) with
    | true => rfl
    | false =>
      simp only [Bool.not_true, cond_false, cond_true]
      have hT' : anT (stps l ([], .own, 0, false)).1 more (outer []) = some (.bool true, [], []) := hT
      rw [hT']
      cases isFull (stps l ([], .own, 0, false)).2.1 <;> rfl
theorem sz_ops {l : List OpD} (h : Sz (.slice OpT) l) : ∀ x ∈ l, isBytes x.2.2.1 := fun x hx => sz_bytes (h.2 x hx).2.2.1
end Go.Crc
