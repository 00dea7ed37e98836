/- Plain facts of numbers and rows of bytes. Conditions: none. -/
import Derived.Test.YthgcjakmcbhbeaaVg
/- The sum of bytes, told plainly; the table of it; what a turned byte does. -/
namespace Go.Crc
def step (n : Nat) : Nat := bif Nat.beq (n % 2) 1 then (n / 2) ^^^ 3988292384 else n / 2
def steps : Nat → Nat → Nat
  | 0, n => n
  | k + 1, n => steps k (step n)
def tabI (i : Nat) : Int := Int.ofNat (steps 8 i)
def rangeFrom : Nat → Nat → List Nat
  | 0, _ => []
  | k + 1, i => i :: rangeFrom k (i + 1)
def crcByte (n x : Nat) : Nat := steps 8 (n ^^^ x)
def crcFold : Nat → List Int → Nat
  | n, [] => n
  | n, x :: r => crcFold (crcByte n x.toNat) r
theorem crcFold_nil (n : Nat) : crcFold n [] = n := rfl
theorem crcFold_cons (n : Nat) (x : Int) (r : List Int) : crcFold n (x :: r) = crcFold (crcByte n x.toNat) r := rfl
def crcMoreN (sum : Nat) (bs : List Int) : Nat := 4294967295 - crcFold (4294967295 - sum) bs
def crcMore (sum : Int) (bs : List Int) : Int := Int.ofNat (crcMoreN sum.toNat bs)
def crcSum (bs : List Int) : Int := crcMore 0 bs
def le4 (n : Int) : List Int := [n % 256, n / 256 % 256, n / 65536 % 256, n / 16777216 % 256]
def crcPut (b : List Int) : List Int := b ++ le4 (crcSum b)
def crcOK (b : List Int) : Bool := decide (4 ≤ b.length) && (b.drop (b.length - 4) == le4 (crcSum (b.take (b.length - 4))))

/-! ### Bounds -/
theorem step_lt {n : Nat} (h : n < 2 ^ 32) : step n < 2 ^ 32 := by
  unfold step
  cases Nat.beq (n % 2) 1 with
  | true => exact Nat.xor_lt_two_pow (by omega) (by decide)
  | false => simp only [cond_false]; omega
theorem steps_lt : ∀ (k : Nat) {n : Nat}, n < 2 ^ 32 → steps k n < 2 ^ 32
  | 0, _, h => h
  | k + 1, _, h => steps_lt k (step_lt h)
theorem crcByte_lt {n x : Nat} (hn : n < 2 ^ 32) (hx : x < 2 ^ 8) : crcByte n x < 2 ^ 32 := steps_lt 8 (Nat.xor_lt_two_pow hn (by omega))
def isBytes (b : List Int) : Prop := ∀ x ∈ b, 0 ≤ x ∧ x ≤ 255
theorem crcFold_lt : ∀ {b : List Int} {n : Nat}, n < 2 ^ 32 → isBytes b → crcFold n b < 2 ^ 32
  | [], _, h, _ => by rw [crcFold_nil]; exact h
  | x :: r, _, h, hb => by
    have hx := hb x (by simp)
    have h2 := crcByte_lt h (show x.toNat < 2 ^ 8 by omega)
    rw [crcFold_cons]
    exact crcFold_lt h2 fun y hy => hb y (by simp [hy])
theorem crcFold_app : ∀ (a b : List Int) (n : Nat), crcFold n (a ++ b) = crcFold (crcFold n a) b
  | [], _, _ => by rw [List.nil_append, crcFold_nil]
  | x :: r, b, n => by rw [List.cons_append, crcFold_cons, crcFold_cons]; exact crcFold_app r b _
theorem crcMoreN_lt (s : Nat) (b : List Int) : crcMoreN s b < 2 ^ 32 := by unfold crcMoreN; omega
theorem crcMore_range (s : Int) (b : List Int) : 0 ≤ crcMore s b ∧ crcMore s b ≤ 4294967295 := by
  have := crcMoreN_lt s.toNat b
  unfold crcMore
  simp only [Int.ofNat_eq_natCast]
  omega
theorem crcMore_app (s : Int) (a b : List Int) (hs : 0 ≤ s ∧ s ≤ 4294967295) (ha : isBytes a) : crcMore s (a ++ b) = crcMore (crcMore s a) b := by
  unfold crcMore crcMoreN
  simp only [Int.ofNat_eq_natCast, Int.toNat_natCast]
  have h1 : crcFold (4294967295 - s.toNat) a < 2 ^ 32 := crcFold_lt (by omega) ha
  rw [crcFold_app, show 4294967295 - (4294967295 - crcFold (4294967295 - s.toNat) a) = crcFold (4294967295 - s.toNat) a by omega]

/-! ### The table -/
theorem xor_mod2 (a b : Nat) : (a ^^^ b) % 2 = (a % 2 + b % 2) % 2 := by
  have h : (a ^^^ b) % 2 ^ 1 = a % 2 ^ 1 ^^^ b % 2 ^ 1 := Nat.xor_mod_two_pow
  rw [Nat.pow_one] at h
  rw [h]
  rcases Nat.mod_two_eq_zero_or_one a with ha | ha <;> rcases Nat.mod_two_eq_zero_or_one b with hb | hb <;> rw [ha, hb] <;> rfl
theorem xor_div2 (a b : Nat) : (a ^^^ b) / 2 = a / 2 ^^^ b / 2 := Nat.xor_div_two
theorem step_xor (a b : Nat) : step (a ^^^ b) = step a ^^^ step b := by
  unfold step
  have hm := xor_mod2 a b
  rw [xor_div2]
  rcases Nat.mod_two_eq_zero_or_one a with ha | ha <;> rcases Nat.mod_two_eq_zero_or_one b with hb | hb <;> rw [ha, hb] at hm <;> rw [ha, hb, hm]
  · rfl
  · show a / 2 ^^^ b / 2 ^^^ 3988292384 = a / 2 ^^^ (b / 2 ^^^ 3988292384)
    exact Nat.xor_assoc _ _ _
  · show a / 2 ^^^ b / 2 ^^^ 3988292384 = a / 2 ^^^ 3988292384 ^^^ b / 2
    rw [Nat.xor_assoc, Nat.xor_comm (b / 2), ← Nat.xor_assoc]
  · show a / 2 ^^^ b / 2 = a / 2 ^^^ 3988292384 ^^^ (b / 2 ^^^ 3988292384)
    rw [Nat.xor_comm (b / 2) 3988292384, ← Nat.xor_assoc, Nat.xor_assoc (a / 2), Nat.xor_self, Nat.xor_zero]
theorem steps_xor : ∀ (k a b : Nat), steps k (a ^^^ b) = steps k a ^^^ steps k b
  | 0, _, _ => rfl
  | k + 1, a, b => by simp only [steps]; rw [step_xor, steps_xor k]
theorem steps_pow : ∀ (k m : Nat), steps k (m * 2 ^ k) = m
  | 0, m => by simp [steps]
  | k + 1, m => by
    have h : step (m * 2 ^ (k + 1)) = m * 2 ^ k := by
      unfold step
      have h0 : m * 2 ^ (k + 1) = (m * 2 ^ k) * 2 := by rw [Nat.pow_succ]; simp [Nat.mul_assoc]
      rw [h0, Nat.mul_mod_left, Nat.mul_div_cancel _ (by decide)]
      rfl
    simp only [steps, h]
    exact steps_pow k m
theorem xor_low (n x : Nat) : n ^^^ x = (n / 256 * 256) ^^^ ((n % 256) ^^^ x) := by
  have h : n = (n / 256 * 256) ^^^ (n % 256) := by
    have h1 : n / 256 * 256 = n / 2 ^ 8 * 2 ^ 8 := rfl
    apply Nat.eq_of_testBit_eq
    intro i
    rw [Nat.testBit_xor, h1, show n % 256 = n % 2 ^ 8 from rfl, Nat.testBit_mod_two_pow]
    rw [← Nat.shiftRight_eq_div_pow, ← Nat.shiftLeft_eq, Nat.testBit_shiftLeft, Nat.testBit_shiftRight]
    by_cases hi : i < 8
    · simp [hi, Nat.not_le.2 hi]
    · simp [hi, Nat.not_lt.1 hi]
  calc n ^^^ x = ((n / 256 * 256) ^^^ (n % 256)) ^^^ x := by rw [← h]
    _ = _ := Nat.xor_assoc _ _ _
/-- a byte by the table. -/
theorem byte_tab (n x : Nat) : crcByte n x = steps 8 ((n % 256) ^^^ x) ^^^ n / 256 := by
  unfold crcByte
  rw [xor_low n x, steps_xor, show n / 256 * 256 = n / 256 * 2 ^ 8 from rfl, steps_pow, Nat.xor_comm]
theorem not_u32 (n : Nat) (h : n < 2 ^ 32) : 4294967295 ^^^ n = 4294967295 - n := by
  have h1 := BitVec.toNat_not (x := BitVec.ofNat 32 n)
  have h2 : (~~~ (BitVec.ofNat 32 n)) = BitVec.allOnes 32 ^^^ BitVec.ofNat 32 n := by
    rw [BitVec.allOnes_xor]
  rw [h2, BitVec.toNat_xor, BitVec.toNat_allOnes, BitVec.toNat_ofNat, Nat.mod_eq_of_lt h] at h1
  exact h1
end Go.Crc
