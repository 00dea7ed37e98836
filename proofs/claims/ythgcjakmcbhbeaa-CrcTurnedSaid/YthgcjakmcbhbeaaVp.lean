/- Plain facts of numbers and rows of bytes. Conditions: none. -/
import Derived.Test.YthgcjakmcbhbeaaVg
set_option linter.unusedVariables false
set_option linter.unusedSimpArgs false
/- The sum of bytes, told plainly; the table of it; what a turned byte does. -/
namespace Go.Crc
def step (n : Nat) : Nat := bif Nat.beq (n % 2) 1 then (n / 2) ^^^ 3988292384 else n / 2
def steps : Nat → Nat → Nat
  | 0, n => n
  | k + 1, n => steps k (step n)
def tabI (i : Nat) : Int := Int.ofNat (steps 8 i)
def rangeFrom : Nat → Nat → List Nat
  | 0, _ => []
  | k + 1, i => i :: rangeFrom k (i + 1)
def crcByte (n x : Nat) : Nat := steps 8 (n ^^^ x)
def crcFold : Nat → List Int → Nat
  | n, [] => n
  | n, x :: r => crcFold (crcByte n x.toNat) r
theorem crcFold_nil (n : Nat) : crcFold n [] = n := rfl
theorem crcFold_cons (n : Nat) (x : Int) (r : List Int) : crcFold n (x :: r) = crcFold (crcByte n x.toNat) r := rfl
def crcMoreN (sum : Nat) (bs : List Int) : Nat := 4294967295 - crcFold (4294967295 - sum) bs
def crcMore (sum : Int) (bs : List Int) : Int := Int.ofNat (crcMoreN sum.toNat bs)
def crcSum (bs : List Int) : Int := crcMore 0 bs
def le4 (n : Int) : List Int := [n % 256, n / 256 % 256, n / 65536 % 256, n / 16777216 % 256]
def crcPut (b : List Int) : List Int := b ++ le4 (crcSum b)
def crcOK (b : List Int) : Bool := decide (4 ≤ b.length) && (b.drop (b.length - 4) == le4 (crcSum (b.take (b.length - 4))))
theorem step_lt {n : Nat} (h : n < 2 ^ 32) : step n < 2 ^ 32 := by
  unfold step
  cases Nat.beq (n % 2) 1 with
  | true => exact Nat.xor_lt_two_pow (by omega) (by decide)
  | false => simp only [cond_false]; omega
theorem steps_lt : ∀ (k : Nat) {n : Nat}, n < 2 ^ 32 → steps k n < 2 ^ 32
  | 0, _, h => h
  | k + 1, _, h => steps_lt k (step_lt h)
theorem crcByte_lt {n x : Nat} (hn : n < 2 ^ 32) (hx : x < 2 ^ 8) : crcByte n x < 2 ^ 32 := steps_lt 8 (Nat.xor_lt_two_pow hn (by omega))
def isBytes (b : List Int) : Prop := ∀ x ∈ b, 0 ≤ x ∧ x ≤ 255
theorem crcFold_lt : ∀ {b : List Int} {n : Nat}, n < 2 ^ 32 → isBytes b → crcFold n b < 2 ^ 32
  | [], _, h, _ => by rw [crcFold_nil]; exact h
  | x :: r, _, h, hb => by
    have hx := hb x (by simp)
    have h2 := crcByte_lt h (show x.toNat < 2 ^ 8 by omega)
    rw [crcFold_cons]
    exact crcFold_lt h2 fun y hy => hb y (by simp [hy])
theorem crcFold_app : ∀ (a b : List Int) (n : Nat), crcFold n (a ++ b) = crcFold (crcFold n a) b
  | [], _, _ => by rw [List.nil_append, crcFold_nil]
  | x :: r, b, n => by rw [List.cons_append, crcFold_cons, crcFold_cons]; exact crcFold_app r b _
theorem crcMoreN_lt (s : Nat) (b : List Int) : crcMoreN s b < 2 ^ 32 := by unfold crcMoreN; omega
theorem crcMore_range (s : Int) (b : List Int) : 0 ≤ crcMore s b ∧ crcMore s b ≤ 4294967295 := by
  have := crcMoreN_lt s.toNat b
  unfold crcMore
  simp only [Int.ofNat_eq_natCast]
  omega
theorem xor_mod2 (a b : Nat) : (a ^^^ b) % 2 = (a % 2 + b % 2) % 2 := by
  have h : (a ^^^ b) % 2 ^ 1 = a % 2 ^ 1 ^^^ b % 2 ^ 1 := Nat.xor_mod_two_pow
  rw [Nat.pow_one] at h
  rw [h]
  rcases Nat.mod_two_eq_zero_or_one a with ha | ha <;> rcases Nat.mod_two_eq_zero_or_one b with hb | hb <;> rw [ha, hb] <;> rfl
theorem xor_div2 (a b : Nat) : (a ^^^ b) / 2 = a / 2 ^^^ b / 2 := Nat.xor_div_two
theorem step_xor (a b : Nat) : step (a ^^^ b) = step a ^^^ step b := by
  unfold step
  have hm := xor_mod2 a b
  rw [xor_div2]
  rcases Nat.mod_two_eq_zero_or_one a with ha | ha <;> rcases Nat.mod_two_eq_zero_or_one b with hb | hb <;> rw [ha, hb] at hm <;> rw [ha, hb, hm]
  · rfl
  · show a / 2 ^^^ b / 2 ^^^ 3988292384 = a / 2 ^^^ (b / 2 ^^^ 3988292384)
    exact Nat.xor_assoc _ _ _
  · show a / 2 ^^^ b / 2 ^^^ 3988292384 = a / 2 ^^^ 3988292384 ^^^ b / 2
    rw [Nat.xor_assoc, Nat.xor_comm (b / 2), ← Nat.xor_assoc]
  · show a / 2 ^^^ b / 2 = a / 2 ^^^ 3988292384 ^^^ (b / 2 ^^^ 3988292384)
    rw [Nat.xor_comm (b / 2) 3988292384, ← Nat.xor_assoc, Nat.xor_assoc (a / 2), Nat.xor_self, Nat.xor_zero]
theorem steps_xor : ∀ (k a b : Nat), steps k (a ^^^ b) = steps k a ^^^ steps k b
  | 0, _, _ => rfl
  | k + 1, a, b => by simp only [steps]; rw [step_xor, steps_xor k]
theorem steps_pow : ∀ (k m : Nat), steps k (m * 2 ^ k) = m
  | 0, m => by simp [steps]
  | k + 1, m => by
    have h : step (m * 2 ^ (k + 1)) = m * 2 ^ k := by
      unfold step
      have h0 : m * 2 ^ (k + 1) = (m * 2 ^ k) * 2 := by rw [Nat.pow_succ]; simp [Nat.mul_assoc]
      rw [h0, Nat.mul_mod_left, Nat.mul_div_cancel _ (by decide)]
      rfl
    simp only [steps, h]
    exact steps_pow k m
theorem xor_low (n x : Nat) : n ^^^ x = (n / 256 * 256) ^^^ ((n % 256) ^^^ x) := by
  have h : n = (n / 256 * 256) ^^^ (n % 256) := by
    have h1 : n / 256 * 256 = n / 2 ^ 8 * 2 ^ 8 := rfl
    apply Nat.eq_of_testBit_eq
    intro i
    rw [Nat.testBit_xor, h1, show n % 256 = n % 2 ^ 8 from rfl, Nat.testBit_mod_two_pow]
    rw [← Nat.shiftRight_eq_div_pow, ← Nat.shiftLeft_eq, Nat.testBit_shiftLeft, Nat.testBit_shiftRight]
    by_cases hi : i < 8
    · simp [hi, Nat.not_le.2 hi]
    · simp [hi, Nat.not_lt.1 hi]
  calc n ^^^ x = ((n / 256 * 256) ^^^ (n % 256)) ^^^ x := by rw [← h]
    _ = _ := Nat.xor_assoc _ _ _
theorem byte_tab (n x : Nat) : crcByte n x = steps 8 ((n % 256) ^^^ x) ^^^ n / 256 := by
  unfold crcByte
  rw [xor_low n x, steps_xor, show n / 256 * 256 = n / 256 * 2 ^ 8 from rfl, steps_pow, Nat.xor_comm]
theorem not_u32 (n : Nat) (h : n < 2 ^ 32) : 4294967295 ^^^ n = 4294967295 - n := by
  have h1 := BitVec.toNat_not (x := BitVec.ofNat 32 n)
  have h2 : (~~~ (BitVec.ofNat 32 n)) = BitVec.allOnes 32 ^^^ BitVec.ofNat 32 n := by
    rw [BitVec.allOnes_xor]
  rw [h2, BitVec.toNat_xor, BitVec.toNat_allOnes, BitVec.toNat_ofNat, Nat.mod_eq_of_lt h] at h1
  exact h1
end Go.Crc
/- Bytes of which one, and perhaps its neighbour, is another one have another sum. -/
set_option linter.unusedVariables false
namespace Go.Crc
theorem step_zero {n : Nat} (h : n < 2 ^ 32) (h0 : step n = 0) : n = 0 := by
  unfold step at h0
  cases hb : Nat.beq (n % 2) 1 with
  | true =>
    rw [hb, cond_true] at h0
    have h1 : n / 2 = 3988292384 := by
      have : n / 2 ^^^ 3988292384 ^^^ 3988292384 = 0 ^^^ 3988292384 := by rw [h0]
      rw [Nat.xor_assoc, Nat.xor_self, Nat.xor_zero, Nat.zero_xor] at this
      exact this
    omega
  | false =>
    rw [hb, cond_false] at h0
    have : n % 2 ≠ 1 := by
      intro e
      rw [e] at hb
      cases hb
    omega
theorem steps_zero : ∀ (k : Nat) {n : Nat}, n < 2 ^ 32 → steps k n = 0 → n = 0
  | 0, n, h, h0 => h0
  | k + 1, n, h, h0 => step_zero h (steps_zero k (step_lt h) h0)
theorem steps_add : ∀ (j k n : Nat), steps (j + k) n = steps k (steps j n)
  | 0, k, n => by rw [Nat.zero_add]; rfl
  | j + 1, k, n => by
    rw [show j + 1 + k = (j + k) + 1 by omega]
    exact steps_add j k (step n)
theorem xor_four (n m x y : Nat) : (n ^^^ x) ^^^ (m ^^^ y) = (n ^^^ m) ^^^ (x ^^^ y) := by
  rw [Nat.xor_assoc, Nat.xor_assoc, ← Nat.xor_assoc x m y, Nat.xor_comm x m, Nat.xor_assoc m x y]
theorem byte_diff (n m x y : Nat) : crcByte n x ^^^ crcByte m y = steps 8 ((n ^^^ m) ^^^ (x ^^^ y)) := by
  unfold crcByte
  rw [← steps_xor, xor_four]
theorem fold_diff : ∀ (zs : List Int) (n m : Nat), crcFold n zs ^^^ crcFold m zs = steps (8 * zs.length) (n ^^^ m)
  | [], n, m => rfl
  | z :: zs, n, m => by
    rw [crcFold_cons, crcFold_cons, fold_diff zs, byte_diff, Nat.xor_self, Nat.xor_zero, List.length_cons, show 8 * (zs.length + 1) = 8 + 8 * zs.length by omega, steps_add]
theorem xor_ne {x y : Nat} (h : x ≠ y) : x ^^^ y ≠ 0 := fun e => h (by
  have : x ^^^ y ^^^ y = 0 ^^^ y := by rw [e]
  rwa [Nat.xor_assoc, Nat.xor_self, Nat.xor_zero, Nat.zero_xor] at this)
theorem xor_eq_zero {x y : Nat} (h : x = y) : x ^^^ y = 0 := by rw [h, Nat.xor_self]
theorem fold_turn1 {n : Nat} (pre suf : List Int) {x x' : Int} (h1 : 0 ≤ x ∧ x ≤ 255) (h2 : 0 ≤ x' ∧ x' ≤ 255) (hne : x' ≠ x) : crcFold n (pre ++ x' :: suf) ≠ crcFold n (pre ++ x :: suf) := by
  intro e
  have e0 := xor_eq_zero e
  rw [crcFold_app, crcFold_app, crcFold_cons, crcFold_cons, fold_diff, byte_diff, Nat.xor_self, Nat.zero_xor] at e0
  have hlt : x'.toNat ^^^ x.toNat < 2 ^ 8 := Nat.xor_lt_two_pow (by omega) (by omega)
  have hz := steps_zero _ (steps_lt 8 (show x'.toNat ^^^ x.toNat < 2 ^ 32 by omega)) e0
  have hz2 := steps_zero 8 (show x'.toNat ^^^ x.toNat < 2 ^ 32 by omega) hz
  exact xor_ne (show x'.toNat ≠ x.toNat by omega) hz2
theorem fold_turn2 {n : Nat} (pre suf : List Int) {x x' y y' : Int} (h1 : 0 ≤ x ∧ x ≤ 255) (h2 : 0 ≤ x' ∧ x' ≤ 255) (h3 : 0 ≤ y ∧ y ≤ 255) (h4 : 0 ≤ y' ∧ y' ≤ 255) (hne : x' ≠ x) : crcFold n (pre ++ x' :: y' :: suf) ≠ crcFold n (pre ++ x :: y :: suf) := by
  intro e
  have e0 := xor_eq_zero e
  rw [crcFold_app, crcFold_app, crcFold_cons, crcFold_cons, crcFold_cons, crcFold_cons, fold_diff, byte_diff, byte_diff, Nat.xor_self, Nat.zero_xor] at e0
  have hlt : x'.toNat ^^^ x.toNat < 2 ^ 8 := Nat.xor_lt_two_pow (by omega) (by omega)
  have hlt2 : y'.toNat ^^^ y.toNat < 2 ^ 8 := Nat.xor_lt_two_pow (by omega) (by omega)
  generalize hd : x'.toNat ^^^ x.toNat = d at e0 hlt
  generalize hq : y'.toNat ^^^ y.toNat = q at e0 hlt2
  have es : steps 8 d ^^^ q = steps 8 (d ^^^ q * 2 ^ 8) := by rw [steps_xor, steps_pow]
  rw [es] at e0
  have hb : d ^^^ q * 2 ^ 8 < 2 ^ 32 := Nat.xor_lt_two_pow (by omega) (by omega)
  have hz := steps_zero _ (steps_lt 8 (steps_lt 8 hb)) e0
  have hz2 := steps_zero 8 (steps_lt 8 hb) hz
  have hz3 := steps_zero 8 hb hz2
  have : d = q * 2 ^ 8 := by
    have : d ^^^ q * 2 ^ 8 ^^^ q * 2 ^ 8 = 0 ^^^ q * 2 ^ 8 := by rw [hz3]
    rwa [Nat.xor_assoc, Nat.xor_self, Nat.xor_zero, Nat.zero_xor] at this
  have hd0 : d = 0 := by omega
  exact xor_ne (show x'.toNat ≠ x.toNat by omega) (hd.trans hd0)
theorem low8 (n : Nat) : n = (n / 256 * 2 ^ 8) ^^^ (n % 256) := by
  have := xor_low n 0
  rw [Nat.xor_zero, Nat.xor_zero] at this
  exact this
theorem two_bytes (n x y : Nat) : crcByte (crcByte n x) y = steps 16 (n ^^^ (x ^^^ y * 2 ^ 8)) := by
  unfold crcByte
  rw [show (16 : Nat) = 8 + 8 from rfl, steps_add, ← Nat.xor_assoc, steps_xor 8 (n ^^^ x), steps_pow]
theorem four_bytes (n x y z u : Nat) : crcByte (crcByte (crcByte (crcByte n x) y) z) u = steps 32 (n ^^^ (x ^^^ y * 2 ^ 8 ^^^ (z ^^^ u * 2 ^ 8) * 2 ^ 16)) := by
  have h : n ^^^ (x ^^^ y * 2 ^ 8 ^^^ (z ^^^ u * 2 ^ 8) * 2 ^ 16) = (n ^^^ (x ^^^ y * 2 ^ 8)) ^^^ (z ^^^ u * 2 ^ 8) * 2 ^ 16 := (Nat.xor_assoc n _ _).symm
  rw [two_bytes, two_bytes, show (32 : Nat) = 16 + 16 from rfl, steps_add, h, steps_xor 16 (n ^^^ (x ^^^ y * 2 ^ 8)), steps_pow]
theorem le4_whole {s : Nat} (h : s < 2 ^ 32) : (s % 256 ^^^ s / 256 % 256 * 2 ^ 8 ^^^ (s / 65536 % 256 ^^^ s / 16777216 % 256 * 2 ^ 8) * 2 ^ 16) = s := by
  have a := low8 s
  have b := low8 (s / 256)
  have c := low8 (s / 65536)
  have e1 : s / 256 / 256 = s / 65536 := by omega
  have e2 : s / 65536 / 256 = s / 16777216 := by omega
  have e3 : s / 16777216 % 256 = s / 16777216 := by omega
  rw [e1] at b
  rw [e2] at c
  have dist : ∀ p q k : Nat, (p ^^^ q) * 2 ^ k = p * 2 ^ k ^^^ q * 2 ^ k := fun p q k => by
    rw [← Nat.shiftLeft_eq, ← Nat.shiftLeft_eq, ← Nat.shiftLeft_eq, Nat.shiftLeft_xor_distrib]
  rw [e3, Nat.xor_comm (s / 65536 % 256), ← c]
  conv => rhs; rw [a, b, dist, Nat.mul_assoc, ← Nat.pow_add]
  rw [Nat.xor_comm (s / 65536 * 2 ^ (8 + 8)), Nat.xor_comm _ (s % 256), ← Nat.xor_assoc]
theorem resid {b : List Int} (hb : isBytes b) (h : crcOK b = true) : crcFold 4294967295 b = steps 32 4294967295 := by
  unfold crcOK at h
  simp only [Bool.and_eq_true, decide_eq_true_eq, beq_iff_eq] at h
  obtain ⟨h1, h2⟩ := h
  have hb' : isBytes (b.take (b.length - 4)) := fun x hx => hb x (List.mem_of_mem_take hx)
  have hn : crcFold 4294967295 (b.take (b.length - 4)) < 2 ^ 32 := crcFold_lt (by omega) hb'
  have hs : crcSum (b.take (b.length - 4)) = ((4294967295 - crcFold 4294967295 (b.take (b.length - 4)) : Nat) : Int) := by
    unfold crcSum crcMore crcMoreN
    simp
  have e : b = b.take (b.length - 4) ++ le4 (crcSum (b.take (b.length - 4))) := by rw [← h2, List.take_append_drop]
  rw [show crcFold 4294967295 b = crcFold 4294967295 (b.take (b.length - 4) ++ le4 (crcSum (b.take (b.length - 4)))) by rw [← e], crcFold_app, hs]
  generalize crcFold 4294967295 (b.take (b.length - 4)) = n at hn
  generalize hs' : 4294967295 - n = s
  have hsl : s < 2 ^ 32 := by omega
  unfold le4
  simp only [crcFold_cons, crcFold_nil]
  have t1 : ((s : Int) % 256).toNat = s % 256 := by omega
  have t2 : ((s : Int) / 256 % 256).toNat = s / 256 % 256 := by omega
  have t3 : ((s : Int) / 65536 % 256).toNat = s / 65536 % 256 := by omega
  have t4 : ((s : Int) / 16777216 % 256).toNat = s / 16777216 % 256 := by omega
  rw [t1, t2, t3, t4, four_bytes, le4_whole hsl]
  congr 1
  rw [← hs', ← not_u32 n hn, Nat.xor_comm 4294967295, ← Nat.xor_assoc, Nat.xor_self, Nat.zero_xor]
theorem isBytes_set {b : List Int} (hb : isBytes b) (i : Nat) {v : Int} (hv : 0 ≤ v ∧ v ≤ 255) : isBytes (b.set i v) := fun x hx => by
  rcases List.mem_or_eq_of_mem_set hx with h | h
  · exact hb x h
  · rw [h]; exact hv
theorem turned {b : List Int} (hb : isBytes b) (h : crcOK b = true) {i : Nat} {x v : Int} (hi : b[i]? = some x) (hv : 0 ≤ v ∧ v ≤ 255) (hne : v ≠ x) : crcOK (b.set i v) = false := by
  rw [Bool.eq_false_iff]
  intro h'
  have e1 := resid hb h
  have e2 := resid (isBytes_set hb i hv) h'
  obtain ⟨hlt, hx⟩ := List.getElem?_eq_some_iff.1 hi
  have hx0 := hb x (List.mem_of_getElem? hi)
  have s1 : b = b.take i ++ x :: b.drop (i + 1) := by
    rw [← hx, ← List.drop_eq_getElem_cons hlt, List.take_append_drop]
  have s2 : b.set i v = b.take i ++ v :: b.drop (i + 1) := by rw [List.set_eq_take_append_cons_drop, if_pos hlt]
  rw [s2] at e2
  rw [s1] at e1
  exact fold_turn1 (b.take i) (b.drop (i + 1)) hx0 hv hne (e2.trans e1.symm)
theorem byte_turned {x t : Int} (hx : 0 ≤ x ∧ x ≤ 255) (ht : 1 ≤ t ∧ t ≤ 255) : (0 ≤ Vm.bitop .xor .u8 x t ∧ Vm.bitop .xor .u8 x t ≤ 255) ∧ Vm.bitop .xor .u8 x t ≠ x := by
  have e1 : x = ((x.toNat : Nat) : Int) := by omega
  have e2 : t = ((t.toNat : Nat) : Int) := by omega
  rw [e1, e2, Vm.bitop_xor_u8 (by omega) (by omega)]
  have hlt : x.toNat ^^^ t.toNat < 2 ^ 8 := Nat.xor_lt_two_pow (by omega) (by omega)
  refine ⟨⟨by omega, by omega⟩, fun e => ?_⟩
  have e' : x.toNat ^^^ t.toNat = x.toNat := by omega
  have : x.toNat ^^^ (x.toNat ^^^ t.toNat) = x.toNat ^^^ x.toNat := by rw [e']
  rw [← Nat.xor_assoc, Nat.xor_self, Nat.zero_xor] at this
  omega
end Go.Crc
