/- Plain facts of numbers and rows of bytes. Conditions: none. -/
import Derived.Test.YtpmmjgkfhbjmcaaVg
import Derived.Test.YtpmmjgkfhbjmcaaVa
set_option linter.unusedVariables false
set_option linter.unusedSimpArgs false
/- The sum of bytes, told plainly; the table of it; what a turned byte does. -/
namespace Go.Crc
def step (n : Nat) : Nat := bif Nat.beq (n % 2) 1 then (n / 2) ^^^ 3988292384 else n / 2
def steps : Nat → Nat → Nat
  | 0, n => n
  | k + 1, n => steps k (step n)
def tabI (i : Nat) : Int := Int.ofNat (steps 8 i)
def rangeFrom : Nat → Nat → List Nat
  | 0, _ => []
  | k + 1, i => i :: rangeFrom k (i + 1)
def crcByte (n x : Nat) : Nat := steps 8 (n ^^^ x)
def crcFold : Nat → List Int → Nat
  | n, [] => n
  | n, x :: r => crcFold (crcByte n x.toNat) r
theorem crcFold_nil (n : Nat) : crcFold n [] = n := rfl
theorem crcFold_cons (n : Nat) (x : Int) (r : List Int) : crcFold n (x :: r) = crcFold (crcByte n x.toNat) r := rfl
def crcMoreN (sum : Nat) (bs : List Int) : Nat := 4294967295 - crcFold (4294967295 - sum) bs
def crcMore (sum : Int) (bs : List Int) : Int := Int.ofNat (crcMoreN sum.toNat bs)
def crcSum (bs : List Int) : Int := crcMore 0 bs
def le4 (n : Int) : List Int := [n % 256, n / 256 % 256, n / 65536 % 256, n / 16777216 % 256]
def crcPut (b : List Int) : List Int := b ++ le4 (crcSum b)
def crcOK (b : List Int) : Bool := decide (4 ≤ b.length) && (b.drop (b.length - 4) == le4 (crcSum (b.take (b.length - 4))))

/-! ### Bounds -/
theorem step_lt {n : Nat} (h : n < 2 ^ 32) : step n < 2 ^ 32 := by
  unfold step
  cases Nat.beq (n % 2) 1 with
  | true => exact Nat.xor_lt_two_pow (by omega) (by decide)
  | false => simp only [cond_false]; omega
theorem steps_lt : ∀ (k : Nat) {n : Nat}, n < 2 ^ 32 → steps k n < 2 ^ 32
  | 0, _, h => h
  | k + 1, _, h => steps_lt k (step_lt h)
theorem crcByte_lt {n x : Nat} (hn : n < 2 ^ 32) (hx : x < 2 ^ 8) : crcByte n x < 2 ^ 32 := steps_lt 8 (Nat.xor_lt_two_pow hn (by omega))
def isBytes (b : List Int) : Prop := ∀ x ∈ b, 0 ≤ x ∧ x ≤ 255
theorem crcFold_lt : ∀ {b : List Int} {n : Nat}, n < 2 ^ 32 → isBytes b → crcFold n b < 2 ^ 32
  | [], _, h, _ => by rw [crcFold_nil]; exact h
  | x :: r, _, h, hb => by
    have hx := hb x (by simp)
    have h2 := crcByte_lt h (show x.toNat < 2 ^ 8 by omega)
    rw [crcFold_cons]
    exact crcFold_lt h2 fun y hy => hb y (by simp [hy])
theorem crcFold_app : ∀ (a b : List Int) (n : Nat), crcFold n (a ++ b) = crcFold (crcFold n a) b
  | [], _, _ => by rw [List.nil_append, crcFold_nil]
  | x :: r, b, n => by rw [List.cons_append, crcFold_cons, crcFold_cons]; exact crcFold_app r b _
theorem crcMoreN_lt (s : Nat) (b : List Int) : crcMoreN s b < 2 ^ 32 := by unfold crcMoreN; omega
theorem crcMore_range (s : Int) (b : List Int) : 0 ≤ crcMore s b ∧ crcMore s b ≤ 4294967295 := by
  have := crcMoreN_lt s.toNat b
  unfold crcMore
  simp only [Int.ofNat_eq_natCast]
  omega
theorem crcMore_app (s : Int) (a b : List Int) (hs : 0 ≤ s ∧ s ≤ 4294967295) (ha : isBytes a) : crcMore s (a ++ b) = crcMore (crcMore s a) b := by
  unfold crcMore crcMoreN
  simp only [Int.ofNat_eq_natCast, Int.toNat_natCast]
  have h1 : crcFold (4294967295 - s.toNat) a < 2 ^ 32 := crcFold_lt (by omega) ha
  rw [crcFold_app, show 4294967295 - (4294967295 - crcFold (4294967295 - s.toNat) a) = crcFold (4294967295 - s.toNat) a by omega]

/-! ### The table -/
theorem xor_mod2 (a b : Nat) : (a ^^^ b) % 2 = (a % 2 + b % 2) % 2 := by
  have h : (a ^^^ b) % 2 ^ 1 = a % 2 ^ 1 ^^^ b % 2 ^ 1 := Nat.xor_mod_two_pow
  rw [Nat.pow_one] at h
  rw [h]
  rcases Nat.mod_two_eq_zero_or_one a with ha | ha <;> rcases Nat.mod_two_eq_zero_or_one b with hb | hb <;> rw [ha, hb] <;> rfl
theorem xor_div2 (a b : Nat) : (a ^^^ b) / 2 = a / 2 ^^^ b / 2 := Nat.xor_div_two
theorem step_xor (a b : Nat) : step (a ^^^ b) = step a ^^^ step b := by
  unfold step
  have hm := xor_mod2 a b
  rw [xor_div2]
  rcases Nat.mod_two_eq_zero_or_one a with ha | ha <;> rcases Nat.mod_two_eq_zero_or_one b with hb | hb <;> rw [ha, hb] at hm <;> rw [ha, hb, hm]
  · rfl
  · show a / 2 ^^^ b / 2 ^^^ 3988292384 = a / 2 ^^^ (b / 2 ^^^ 3988292384)
    exact Nat.xor_assoc _ _ _
  · show a / 2 ^^^ b / 2 ^^^ 3988292384 = a / 2 ^^^ 3988292384 ^^^ b / 2
    rw [Nat.xor_assoc, Nat.xor_comm (b / 2), ← Nat.xor_assoc]
  · show a / 2 ^^^ b / 2 = a / 2 ^^^ 3988292384 ^^^ (b / 2 ^^^ 3988292384)
    rw [Nat.xor_comm (b / 2) 3988292384, ← Nat.xor_assoc, Nat.xor_assoc (a / 2), Nat.xor_self, Nat.xor_zero]
theorem steps_xor : ∀ (k a b : Nat), steps k (a ^^^ b) = steps k a ^^^ steps k b
  | 0, _, _ => rfl
  | k + 1, a, b => by simp only [steps]; rw [step_xor, steps_xor k]
theorem steps_pow : ∀ (k m : Nat), steps k (m * 2 ^ k) = m
  | 0, m => by simp [steps]
  | k + 1, m => by
    have h : step (m * 2 ^ (k + 1)) = m * 2 ^ k := by
      unfold step
      have h0 : m * 2 ^ (k + 1) = (m * 2 ^ k) * 2 := by rw [Nat.pow_succ]; simp [Nat.mul_assoc]
      rw [h0, Nat.mul_mod_left, Nat.mul_div_cancel _ (by decide)]
      rfl
    simp only [steps, h]
    exact steps_pow k m
theorem xor_low (n x : Nat) : n ^^^ x = (n / 256 * 256) ^^^ ((n % 256) ^^^ x) := by
  have h : n = (n / 256 * 256) ^^^ (n % 256) := by
    have h1 : n / 256 * 256 = n / 2 ^ 8 * 2 ^ 8 := rfl
    apply Nat.eq_of_testBit_eq
    intro i
    rw [Nat.testBit_xor, h1, show n % 256 = n % 2 ^ 8 from rfl, Nat.testBit_mod_two_pow]
    rw [← Nat.shiftRight_eq_div_pow, ← Nat.shiftLeft_eq, Nat.testBit_shiftLeft, Nat.testBit_shiftRight]
    by_cases hi : i < 8
    · simp [hi, Nat.not_le.2 hi]
    · simp [hi, Nat.not_lt.1 hi]
  calc n ^^^ x = ((n / 256 * 256) ^^^ (n % 256)) ^^^ x := by rw [← h]
    _ = _ := Nat.xor_assoc _ _ _
/-- a byte by the table. -/
theorem byte_tab (n x : Nat) : crcByte n x = steps 8 ((n % 256) ^^^ x) ^^^ n / 256 := by
  unfold crcByte
  rw [xor_low n x, steps_xor, show n / 256 * 256 = n / 256 * 2 ^ 8 from rfl, steps_pow, Nat.xor_comm]
theorem not_u32 (n : Nat) (h : n < 2 ^ 32) : 4294967295 ^^^ n = 4294967295 - n := by
  have h1 := BitVec.toNat_not (x := BitVec.ofNat 32 n)
  have h2 : (~~~ (BitVec.ofNat 32 n)) = BitVec.allOnes 32 ^^^ BitVec.ofNat 32 n := by
    rw [BitVec.allOnes_xor]
  rw [h2, BitVec.toNat_xor, BitVec.toNat_allOnes, BitVec.toNat_ofNat, Nat.mod_eq_of_lt h] at h1
  exact h1
end Go.Crc

/- Numbers as bytes, told plainly: how they are written, how they are read. -/
namespace Go.Pack
open Go.Vm
/-! ### Writing -/
def vn : Nat → Nat → List Int
  | 0, _ => []
  | k + 1, n => bif decide (128 ≤ n) then ((n % 128 + 128 : Nat) : Int) :: vn k (n / 128) else [(n : Int)]
def top : Int := 4611686018427387904
def okN (n : Int) : Bool := decide (0 ≤ n) && decide (n ≤ top)
def okAll : List Int → Bool
  | [] => true
  | n :: r => okN n && okAll r
def num (n : Int) : List Int := vn 9 n.toNat
def nums : List Int → List Int
  | [] => []
  | n :: r => num n ++ nums r
theorem vn_len : ∀ (k n : Nat), (vn k n).length ≤ k
  | 0, _ => Nat.le_refl _
  | k + 1, n => by
    simp only [vn]
    cases h : decide (128 ≤ n) with
    | true => simp only [cond_true, List.length_cons]; have := vn_len k (n / 128); omega
    | false => simp
theorem vn_bytes : ∀ (k n : Nat), Crc.isBytes (vn k n)
  | 0, _ => fun x hx => by simp [vn] at hx
  | k + 1, n => fun x hx => by
    simp only [vn] at hx
    cases h : decide (128 ≤ n) with
    | true =>
      rw [h, cond_true, List.mem_cons] at hx
      rcases hx with rfl | hx
      · omega
      · exact vn_bytes k _ x hx
    | false =>
      rw [h, cond_false, List.mem_singleton] at hx
      simp at h
      subst hx
      omega
theorem num_len (n : Int) : (num n).length ≤ 9 := vn_len 9 _
theorem nums_len : ∀ l : List Int, (nums l).length ≤ 9 * l.length
  | [] => Nat.le_refl _
  | n :: r => by
    simp only [nums, List.length_append, List.length_cons]
    have := num_len n
    have := nums_len r
    omega
theorem nums_app : ∀ a b : List Int, nums (a ++ b) = nums a ++ nums b
  | [], _ => rfl
  | n :: r, b => by simp only [List.cons_append, nums, nums_app r b, List.append_assoc]

/-! ### Reading -/
inductive Rd where
  | short
  | form (r : List Int)
  | ok (n : Nat) (r : List Int)
def rd : Nat → List Int → Rd
  | _, [] => .short
  | k, x :: r => if x < 128 then (if 1 ≤ k ∧ x = 0 then .form r else .ok x.toNat r)
    else if k = 8 then .form r
    else match rd (k + 1) r with
      | .ok n q => .ok (x.toNat % 128 + 128 * n) q
      | y => y
structure St where
  b : List Int
  e : Int
def numR (s : St) (limit : Int) : St × Int :=
  if s.e = 0 then match rd 0 s.b with
    | .short => (⟨[], 20⟩, 0)
    | .form r => (⟨r, 21⟩, 0)
    | .ok n r => if (n : Int) > top ∨ (n : Int) > limit then (⟨r, 21⟩, 0) else (⟨r, 0⟩, (n : Int))
  else (s, 0)
def endR (s : St) : Int := if s.e = 0 then (if s.b.length = 0 then 0 else 22) else s.e
/-- n numbers, one behind the other. -/
def rowR (limit : Int) : Nat → St → St × List Int
  | 0, s => (s, [])
  | n + 1, s => match numR s limit with
    | (s1, x) => match rowR limit n s1 with
      | (s2, l) => (s2, x :: l)
theorem rd_lt : ∀ (b : List Int) (k n : Nat) (r : List Int), Crc.isBytes b → k ≤ 8 → rd k b = .ok n r → n < 128 ^ (9 - k)
  | [], k, n, r, _, _, h => by simp [rd] at h
  | x :: q, k, n, r, hb, hk, h => by
    have hx := hb x (by simp)
    simp only [rd] at h
    split at h
    · split at h
      · cases h
      · cases h
        rename_i h1 _
        have : 128 ^ 1 ≤ 128 ^ (9 - k) := Nat.pow_le_pow_right (by decide) (by omega)
        omega
    · split at h
      · cases h
      · rename_i h1 h2
        split at h
        · rename_i m q' hm
          cases h
          have := rd_lt q (k + 1) m r (fun y hy => hb y (by simp [hy])) (by omega) hm
          have e1 : 128 ^ (9 - k) = 128 * 128 ^ (9 - (k + 1)) := by
            rw [show 9 - k = (9 - (k + 1)) + 1 by omega, Nat.pow_succ, Nat.mul_comm]
          omega
        · rename_i y hy
          exact (hy n r h).elim
/-- what was read in the right form is as it would be written. -/
theorem rd_vn : ∀ (b : List Int) (k n : Nat) (r : List Int), Crc.isBytes b → k ≤ 8 → rd k b = .ok n r → b = vn (9 - k) n ++ r ∧ (1 ≤ k → n ≠ 0)
  | [], k, n, r, _, _, h => by simp [rd] at h
  | x :: q, k, n, r, hb, hk, h => by
    have hx := hb x (by simp)
    obtain ⟨m, hm⟩ : ∃ m, 9 - k = m + 1 := ⟨8 - k, by omega⟩
    simp only [rd] at h
    split at h
    · split at h
      · cases h
      · rename_i h1 h2
        cases h
        refine ⟨?_, fun h3 h4 => h2 ⟨h3, by omega⟩⟩
        rw [hm]
        simp only [vn]
        rw [decide_eq_false (by omega), cond_false, natCast_toNat hx.1]
        rfl
    · split at h
      · cases h
      · rename_i h1 h2
        split at h
        · rename_i n' q' hn
          cases h
          obtain ⟨g1, g2⟩ := rd_vn q (k + 1) n' r (fun y hy => hb y (by simp [hy])) (by omega) hn
          have g3 := g2 (by omega)
          refine ⟨?_, fun _ => by omega⟩
          rw [hm]
          simp only [vn]
          rw [decide_eq_true (by omega), cond_true, show (x.toNat % 128 + 128 * n') % 128 = x.toNat % 128 by omega, show (x.toNat % 128 + 128 * n') / 128 = n' by omega, show m = 9 - (k + 1) by omega, List.cons_append, ← g1]
          congr 1
          omega
        · rename_i y hy
          exact (hy n r h).elim
/-- what was written is read as it was. -/
theorem rd_num : ∀ (k n : Nat) (r : List Int), k ≤ 8 → n < 128 ^ (9 - k) → (1 ≤ k → n ≠ 0) → rd k (vn (9 - k) n ++ r) = .ok n r := by
  intro k n r hk hn hz
  generalize hm : 9 - k = m at hn
  induction m generalizing k n with
  | zero => omega
  | succ m ih =>
    simp only [vn]
    by_cases h : 128 ≤ n
    · rw [decide_eq_true h, cond_true, List.cons_append]
      have hk8 : k ≠ 8 := by
        intro h8
        have : m = 0 := by omega
        subst this
        have h3 : n < 128 := by simpa using hn
        omega
      simp only [rd]
      rw [if_neg (by omega), if_neg hk8]
      have := ih (k + 1) (n / 128) (by omega) (fun _ => by omega) (by omega) (by
        rw [Nat.pow_succ] at hn
        have h4 : n < 128 * 128 ^ m := by rw [Nat.mul_comm]; exact hn
        exact Nat.div_lt_of_lt_mul h4)
      rw [this]
      show Rd.ok (((n % 128 + 128 : Nat) : Int).toNat % 128 + 128 * (n / 128)) r = Rd.ok n r
      rw [Int.toNat_natCast, show (n % 128 + 128) % 128 + 128 * (n / 128) = n by omega]
    · rw [decide_eq_false h, cond_false]
      simp only [List.singleton_append, rd]
      rw [if_pos (by omega), if_neg (fun hh => hz hh.1 (by omega)), Int.toNat_natCast]
end Go.Pack
namespace Go.Pack
open Go.Vm
def failS (s : St) (x : Int) : St := ⟨s.b, bif s.e == 0 then x else s.e⟩
def takeS (s : St) (n : Int) : St × List Int :=
  bif s.e != 0 then (failS s 20, []) else bif decide (n > (s.b.length : Int)) then (failS s 20, []) else (⟨s.b.drop n.toNat, s.e⟩, s.b.take n.toNat)
def nextS (s : St) : St × Int × Bool :=
  match takeS s 1 with
  | (s1, []) => (s1, 0, false)
  | (s1, x :: _) => (s1, x, true)
end Go.Pack
namespace Go.Pack
open Go.Vm
theorem or_disjoint (a b k : Nat) (ha : a < 2 ^ k) : a ||| (b * 2 ^ k) = a + b * 2 ^ k := by
  rw [Nat.or_comm, ← Nat.shiftLeft_eq, ← Nat.shiftLeft_add_eq_or_of_lt ha, Nat.add_comm]
theorem bitop_or_i64 {a b : Nat} (ha : a < 2 ^ 63) (hb : b < 2 ^ 63) : bitop .or .i64 (a : Int) (b : Int) = ((a ||| b : Nat) : Int) := by
  have : a ||| b < 2 ^ 63 := Nat.or_lt_two_pow ha hb
  show IntKind.i64.wrap _ = _
  rw [show IntKind.i64.bits = 64 from rfl, or_u (w := 64) (by omega) (by omega)]
  exact wrap_i64 (by omega) (by omega)
theorem bitop_and127 {x : Int} (h : 0 ≤ x ∧ x ≤ 255) : bitop .and .u8 x 127 = ((x.toNat % 128 : Nat) : Int) := by
  have h1 : (BitVec.ofInt 8 x &&& BitVec.ofInt 8 127).toNat = x.toNat &&& 127 := by
    have := and_u (w := 8) (a := x.toNat) (b := 127) (by omega) (by decide)
    rw [natCast_toNat h.1] at this
    exact this
  show IntKind.u8.wrap _ = _
  rw [show IntKind.u8.bits = 8 from rfl, h1, show x.toNat &&& 127 = x.toNat % 128 from Nat.and_two_pow_sub_one_eq_mod x.toNat 7]
  exact wrap_u8 (by omega) (by omega)
/-- one digit more. -/
theorem digit {n k : Nat} {x : Int} (hn : n < 128 ^ k) (hk : k ≤ 8) (hx : 0 ≤ x ∧ x ≤ 255) :
    bitop .or .i64 (n : Int) (shiftL .i64 (IntKind.i64.wrap (bitop .and .u8 x 127)) (IntKind.i64.wrap (7 * (k : Int)))) = ((n + x.toNat % 128 * 128 ^ k : Nat) : Int) := by
  have e1 : (128 : Nat) ^ k = 2 ^ (7 * k) := by rw [Nat.pow_mul]
  have h2 : (2 : Nat) ^ (7 * k) ≤ 2 ^ 56 := Nat.pow_le_pow_right (by decide) (by omega)
  have h3 : x.toNat % 128 * 2 ^ (7 * k) ≤ 127 * 2 ^ 56 := Nat.mul_le_mul (by omega) h2
  rw [bitop_and127 hx, wrap_i64 (n := ((x.toNat % 128 : Nat) : Int)) (by omega) (by omega), wrap_i64 (n := 7 * (k : Int)) (by omega) (by omega)]
  have h4 : shiftL .i64 ((x.toNat % 128 : Nat) : Int) (7 * (k : Int)) = ((x.toNat % 128 * 2 ^ (7 * k) : Nat) : Int) := by
    unfold shiftL
    rw [show (7 * (k : Int)).toNat = 7 * k by omega, Nat.min_eq_left (by simp [IntKind.bits]; omega)]
    rw [show ((x.toNat % 128 : Nat) : Int) * 2 ^ (7 * k) = ((x.toNat % 128 * 2 ^ (7 * k) : Nat) : Int) by push_cast; rfl]
    exact wrap_i64 (by omega) (by omega)
  rw [h4, bitop_or_i64 (by omega) (by omega), or_disjoint _ _ _ (by rw [← e1]; exact hn), e1]
/-- what a reading of a number comes to, from the middle on: k digits were read. -/
def rdFrom (n k : Nat) (b : List Int) : Rd :=
  match rd k b with
  | .ok m r => .ok (n + 128 ^ k * m) r
  | y => y
theorem rdFrom_short (n k : Nat) : rdFrom n k [] = .short := rfl
theorem rdFrom_cons (n k : Nat) (x : Int) (r : List Int) : rdFrom n k (x :: r) = if x < 128 then (if 1 ≤ k ∧ x = 0 then .form r else .ok (n + 128 ^ k * x.toNat) r) else if k = 8 then .form r else rdFrom (n + x.toNat % 128 * 128 ^ k) (k + 1) r := by
  unfold rdFrom
  simp only [rd]
  by_cases h1 : x < 128
  · rw [if_pos h1, if_pos h1]
    by_cases h2 : 1 ≤ k ∧ x = 0
    · rw [if_pos h2, if_pos h2]
    · rw [if_neg h2, if_neg h2]
  · rw [if_neg h1, if_neg h1]
    by_cases h3 : k = 8
    · rw [if_pos h3, if_pos h3]
    · rw [if_neg h3, if_neg h3]
      cases rd (k + 1) r with
      | short => rfl
      | form q => rfl
      | ok m q =>
        show Rd.ok _ _ = Rd.ok _ _
        congr 1
        rw [Nat.mul_add, Nat.pow_succ, Nat.mul_comm (128 ^ k) (x.toNat % 128), ← Nat.mul_assoc]
        omega
theorem rdFrom_zero (b : List Int) : rdFrom 0 0 b = rd 0 b := by
  unfold rdFrom
  cases rd 0 b with
  | ok m r => show Rd.ok _ _ = _; congr 1; simp
  | _ => rfl
end Go.Pack
namespace Go.Pack
open Go.Vm
/-- the ways that a round of Reader.Num can go. -/
def numT (ok : Bool) (x K1 : Int) (sh : Bool) (ret0 form exit cont : Option Res) : Option Res :=
  bif !ok then ret0 else bif sh then
    bif decide (x < 128) then
      bif decide (K1 > 1) then
        bif x == 0 then (bif x == 0 then form else (bif decide (x < 128) then exit else cont))
        else (bif decide (x ≥ 128) then (bif K1 == 9 then form else (bif decide (x < 128) then exit else cont)) else (bif decide (x < 128) then exit else cont))
      else (bif decide (x ≥ 128) then (bif K1 == 9 then form else (bif decide (x < 128) then exit else cont)) else (bif decide (x < 128) then exit else cont))
    else (bif decide (x ≥ 128) then (bif K1 == 9 then form else (bif decide (x < 128) then exit else cont)) else (bif decide (x < 128) then exit else cont))
  else none
theorem numT_eq (x K1 : Int) (ret0 form exit cont : Option Res) : numT true x K1 true ret0 form exit cont = if x < 128 then (if K1 > 1 ∧ x = 0 then form else exit) else if K1 = 9 then form else cont := by
  unfold numT
  by_cases h1 : x < 128
  · have h2 : ¬ x ≥ 128 := by omega
    by_cases h3 : K1 > 1
    · by_cases h4 : x = 0
      · subst h4; simp [h3]
      · have : (x == 0) = false := by simpa using h4
        simp [h1, h2, h3, h4, this]
    · simp [h1, h2, h3]
  · have h2 : x ≥ 128 := by omega
    by_cases h3 : K1 = 9
    · subst h3; simp [h1, h2]
    · have : (K1 == 9) = false := by simpa using h3
      simp [h1, h2, h3, this]
end Go.Pack
namespace Go.Pack
open Go.Vm
/-- how the loop of Reader.Num ends: whether it returns, in which state, with which number; how often it wrote. -/
def rdEnd : Nat → Nat → List Int → Bool × St × Nat × Nat
  | n, _, [] => (true, ⟨[], 20⟩, n, 1)
  | n, k, x :: r => bif decide (x < 128) then (bif decide (1 ≤ k) && (x == 0) then (true, ⟨r, 21⟩, n + x.toNat % 128 * 128 ^ k, 2) else (false, ⟨r, 0⟩, n + x.toNat % 128 * 128 ^ k, 1))
    else bif Nat.beq k 8 then (true, ⟨r, 21⟩, n + x.toNat % 128 * 128 ^ k, 2)
    else match rdEnd (n + x.toNat % 128 * 128 ^ k) (k + 1) r with | (a, s, m, w) => (a, s, m, w + 1)
theorem rdEnd_eq : ∀ (b : List Int) (n k : Nat), Crc.isBytes b → (match rdFrom n k b with
    | .short => ∃ m w, rdEnd n k b = (true, ⟨[], 20⟩, m, w)
    | .form r => ∃ m w, rdEnd n k b = (true, ⟨r, 21⟩, m, w)
    | .ok m r => ∃ w, rdEnd n k b = (false, ⟨r, 0⟩, m, w))
  | [], n, k, _ => ⟨n, 1, rfl⟩
  | x :: r, n, k, hb => by
    have hx := hb x (by simp)
    rw [rdFrom_cons]
    simp only [rdEnd]
    by_cases h1 : x < 128
    · rw [if_pos h1, decide_eq_true h1, cond_true]
      by_cases h2 : 1 ≤ k ∧ x = 0
      · rw [if_pos h2]
        obtain ⟨h3, rfl⟩ := h2
        rw [decide_eq_true h3]
        exact ⟨_, _, rfl⟩
      · rw [if_neg h2]
        have : (decide (1 ≤ k) && (x == 0)) = false := by
          rw [Bool.and_eq_false_iff]
          by_cases h3 : 1 ≤ k
          · right; simpa using fun h => h2 ⟨h3, h⟩
          · left; simpa using h3
        rw [this]
        refine ⟨1, ?_⟩
        rw [Nat.mul_comm (128 ^ k), show x.toNat % 128 = x.toNat by omega]
        rfl
    · rw [if_neg h1, decide_eq_false h1, cond_false]
      by_cases h3 : k = 8
      · rw [if_pos h3, (beq_iff k 8).2 h3]
        exact ⟨_, _, rfl⟩
      · rw [if_neg h3, Vm.beq_false.2 h3, cond_false]
        have ih := rdEnd_eq r (n + x.toNat % 128 * 128 ^ k) (k + 1) (fun y hy => hb y (by simp [hy]))
        cases hr : rdFrom (n + x.toNat % 128 * 128 ^ k) (k + 1) r with
        | short => rw [hr] at ih; obtain ⟨m, w, h⟩ := ih; exact ⟨m, w + 1, by rw [h]⟩
        | form q => rw [hr] at ih; obtain ⟨m, w, h⟩ := ih; exact ⟨m, w + 1, by rw [h]⟩
        | ok m q => rw [hr] at ih; obtain ⟨w, h⟩ := ih; exact ⟨w + 1, by rw [h]⟩
end Go.Pack
namespace Go.Pack
open Go.Vm
theorem nextS_nil : nextS ⟨[], 0⟩ = (⟨[], 20⟩, 0, false) := rfl
theorem nextS_cons (x : Int) (r : List Int) : nextS ⟨x :: r, 0⟩ = (⟨r, 0⟩, x, true) := by
  unfold nextS takeS
  have h1 : decide ((1 : Int) > ((x :: r).length : Int)) = false := by simp <;> omega
  simp only [h1]
  rfl
theorem nextS_err (b : List Int) {e : Int} (h : e ≠ 0) : nextS ⟨b, e⟩ = (⟨b, e⟩, 0, false) := by
  have h1 : (e != 0) = true := by simpa using h
  have h2 : (e == 0) = false := by simpa using h
  unfold nextS takeS failS
  simp only [h1, h2, cond_true, cond_false]
end Go.Pack
namespace Go.Pack
open Go.Vm
def textR (s : St) (limit : Int) : St × List Int := takeS (numR s limit).1 (numR s limit).2
theorem numR_nonneg (s : St) (limit : Int) : 0 ≤ (numR s limit).2 := by
  unfold numR
  split
  · split
    · exact Int.le_refl _
    · exact Int.le_refl _
    · split
      · exact Int.le_refl _
      · exact Int.natCast_nonneg _
  · exact Int.le_refl _
theorem rd_bytes : ∀ (b : List Int) (k : Nat), Crc.isBytes b → (∀ n r, rd k b = .ok n r → Crc.isBytes r) ∧ (∀ r, rd k b = .form r → Crc.isBytes r)
  | [], k, _ => ⟨fun n r h => (nomatch h), fun r h => (nomatch h)⟩
  | x :: q, k, hb => by
    have hq : Crc.isBytes q := fun y hy => hb y (by simp [hy])
    have ih := rd_bytes q (k + 1) hq
    refine ⟨fun n r h => ?_, fun r h => ?_⟩
    · simp only [rd] at h
      split at h
      · split at h
        · cases h
        · cases h; exact hq
      · split at h
        · cases h
        · split at h
          · rename_i m q' hm
            cases h
            exact ih.1 _ _ hm
          · rename_i y hy
            exact (hy n r h).elim
    · simp only [rd] at h
      split at h
      · split at h
        · cases h; exact hq
        · cases h
      · split at h
        · cases h; exact hq
        · split at h
          · cases h
          · rename_i y hy
            exact ih.2 _ h
theorem numR_bytes {s : St} (h : Crc.isBytes s.b) (limit : Int) : Crc.isBytes (numR s limit).1.b := by
  unfold numR
  split
  · split
    · intro x hx; cases hx
    · rename_i r hr; exact (rd_bytes s.b 0 h).2 _ hr
    · rename_i n r hr
      split
      · exact (rd_bytes s.b 0 h).1 _ _ hr
      · exact (rd_bytes s.b 0 h).1 _ _ hr
  · exact h
end Go.Pack
namespace Go.Pack
open Go.Vm
def vpre : Nat → Nat → List Int
  | 0, _ => []
  | k + 1, n => bif decide (128 ≤ n) then ((n % 128 + 128 : Nat) : Int) :: vpre k (n / 128) else []
def vlast : Nat → Nat → Nat
  | 0, n => n
  | k + 1, n => bif decide (128 ≤ n) then vlast k (n / 128) else n
theorem vn_split : ∀ (k n : Nat), n < 128 ^ k → vn k n = vpre k n ++ [(vlast k n : Int)] ∨ k = 0
  | 0, _, _ => .inr rfl
  | k + 1, n, h => by
    left
    simp only [vn, vpre, vlast]
    by_cases h1 : 128 ≤ n
    · rw [decide_eq_true h1, cond_true, cond_true, cond_true]
      have h2 : n / 128 < 128 ^ k := by
        rw [Nat.pow_succ] at h
        have h4 : n < 128 * 128 ^ k := by rw [Nat.mul_comm]; exact h
        exact Nat.div_lt_of_lt_mul h4
      rcases vn_split k (n / 128) h2 with h3 | h3
      · rw [h3]; rfl
      · subst h3
        have : n / 128 < 1 := by simpa using h2
        omega
    · rw [decide_eq_false h1]; rfl
theorem vpre_len : ∀ (k n : Nat), (vpre k n).length ≤ k
  | 0, _ => Nat.le_refl _
  | k + 1, n => by
    simp only [vpre]
    cases decide (128 ≤ n) with
    | true => simp only [cond_true, List.length_cons]; have := vpre_len k (n / 128); omega
    | false => simp
theorem vlast_lt : ∀ (k n : Nat), n < 128 ^ k → vlast k n < 128
  | 0, n, h => by simp at h; simp [vlast, h]
  | k + 1, n, h => by
    simp only [vlast]
    by_cases h1 : 128 ≤ n
    · rw [decide_eq_true h1, cond_true]
      refine vlast_lt k _ ?_
      rw [Nat.pow_succ] at h
      have h4 : n < 128 * 128 ^ k := by rw [Nat.mul_comm]; exact h
      exact Nat.div_lt_of_lt_mul h4
    · rw [decide_eq_false h1, cond_false]; omega
theorem or128 (n : Nat) : bitop .or .u8 (IntKind.u8.wrap (n : Int)) 128 = ((n % 128 + 128 : Nat) : Int) := by
  have h0 : ∀ a : Fin 256, a.val ||| 128 = a.val % 128 + 128 := by decide +kernel
  have h1 := h0 ⟨n % 256, by omega⟩
  rw [wrap_u8_nat]
  show IntKind.u8.wrap _ = _
  have h2 : (BitVec.ofInt 8 ((n % 256 : Nat) : Int) ||| BitVec.ofInt 8 128).toNat = n % 256 ||| 128 := or_u (w := 8) (a := n % 256) (b := 128) (by omega) (by decide)
  rw [show IntKind.u8.bits = 8 from rfl, h2]
  simp only at h1
  rw [h1, show n % 256 % 128 = n % 128 by omega]
  exact wrap_u8 (by omega) (by omega)
end Go.Pack
namespace Go.Pack
open Go.Vm
/-! ### The document's way -/
def numS (n : Int) : List Int := bif okN n then num n else []
theorem vn_fuel : ∀ (k n : Nat), n < 128 ^ k → vn k n = vn (k + 1) n ∨ k = 0
  | 0, _, _ => .inr rfl
  | k + 1, n, h => by
    left
    rw [vn, vn]
    by_cases h1 : 128 ≤ n
    · rw [decide_eq_true h1, cond_true, cond_true]
      have h2 : n / 128 < 128 ^ k := by
        rw [Nat.pow_succ] at h
        have h4 : n < 128 * 128 ^ k := by rw [Nat.mul_comm]; exact h
        exact Nat.div_lt_of_lt_mul h4
      rcases vn_fuel k (n / 128) h2 with h3 | h3
      · rw [h3]
      · subst h3
        have : n / 128 < 1 := by simpa using h2
        omega
    · rw [decide_eq_false h1]; rfl
def lastN : Nat → List Int → Int
  | _, [] => -1
  | k, x :: r => bif decide (9 ≤ k) then -1 else bif decide (x < 128) then (k : Int) else lastN (k + 1) r
def dig (b : List Int) : Nat → Nat → Nat
  | 0, n => n
  | j + 1, n => dig b j (n * 128 + ((b[j]?).getD 0).toNat % 128)
theorem dig_cons (x : Int) (r : List Int) : ∀ (j n : Nat), dig (x :: r) (j + 1) n = dig r j n * 128 + x.toNat % 128
  | 0, n => by simp [dig]
  | j + 1, n => by
    rw [dig, dig_cons x r j]
    simp [dig]
theorem dig_lt (b : List Int) : ∀ (j n : Nat), dig b j n < (n + 1) * 128 ^ j
  | 0, n => by simp [dig]
  | j + 1, n => by
    rw [dig]
    have := dig_lt b j (n * 128 + ((b[j]?).getD 0).toNat % 128)
    refine Nat.lt_of_lt_of_le this ?_
    rw [Nat.pow_succ, Nat.mul_comm (128 ^ j) 128, ← Nat.mul_assoc]
    exact Nat.mul_le_mul_right _ (by omega)
theorem lastN_none : ∀ (b : List Int) (k : Nat), Crc.isBytes b → k ≤ 8 → lastN k b = -1 → rd k b = if k + b.length < 9 then .short else .form (b.drop (9 - k))
  | [], k, _, hk, _ => by simp [rd]; omega
  | x :: r, k, hb, hk, h => by
    have hx := hb x (by simp)
    simp only [lastN] at h
    rw [decide_eq_false (show ¬ 9 ≤ k by omega), cond_false] at h
    by_cases h1 : x < 128
    · rw [decide_eq_true h1, cond_true] at h; omega
    · rw [decide_eq_false h1, cond_false] at h
      simp only [rd, if_neg h1]
      by_cases h8 : k = 8
      · subst h8
        simp <;> omega
      · rw [if_neg h8, lastN_none r (k + 1) (fun y hy => hb y (by simp [hy])) (by omega) h]
        by_cases h2 : k + 1 + r.length < 9
        · rw [if_pos h2, if_pos (by simp; omega)]
        · rw [if_neg h2, if_neg (by simp; omega), show 9 - k = (9 - (k + 1)) + 1 by omega, List.drop_succ_cons]
theorem lastN_some : ∀ (b : List Int) (k : Nat), Crc.isBytes b → k ≤ 8 → lastN k b ≠ -1 → ∃ j : Nat, lastN k b = ((k + j : Nat) : Int) ∧ j < b.length ∧ k + j ≤ 8 ∧ rd k b = (if 1 ≤ k + j ∧ b[j]? = some 0 then .form (b.drop (j + 1)) else .ok (dig b (j + 1) 0) (b.drop (j + 1)))
  | [], k, _, _, h => absurd rfl h
  | x :: r, k, hb, hk, h => by
    have hx := hb x (by simp)
    simp only [lastN] at h ⊢
    rw [decide_eq_false (show ¬ 9 ≤ k by omega), cond_false] at h ⊢
    by_cases h1 : x < 128
    · rw [decide_eq_true h1, cond_true]
      refine ⟨0, by simp, by simp, by omega, ?_⟩
      simp only [rd, if_pos h1, Nat.add_zero, List.getElem?_cons_zero, Option.some.injEq, Nat.zero_add, List.drop_succ_cons, List.drop_zero, dig]
      by_cases h2 : 1 ≤ k ∧ x = 0
      · rw [if_pos h2, if_pos h2]
      · rw [if_neg h2, if_neg h2]
        congr 1
        simp
        omega
    · rw [decide_eq_false h1, cond_false] at h ⊢
      by_cases h8 : k = 8
      · exfalso
        subst h8
        apply h
        cases r with
        | nil => rfl
        | cons y r => simp [lastN]
      · obtain ⟨j, g1, g2, g3, g4⟩ := lastN_some r (k + 1) (fun y hy => hb y (by simp [hy])) (by omega) h
        refine ⟨j + 1, by rw [g1]; omega, by simp; omega, by omega, ?_⟩
        simp only [rd, if_neg h1, if_neg h8, g4, List.getElem?_cons_succ, List.drop_succ_cons]
        by_cases h2 : 1 ≤ k + 1 + j ∧ r[j]? = some 0
        · rw [if_pos h2, if_pos ⟨by omega, h2.2⟩]
        · rw [if_neg h2, if_neg (fun h3 => h2 ⟨by omega, h3.2⟩), dig_cons]
          show Rd.ok _ _ = Rd.ok _ _
          congr 1
          omega
/-- the document's test of what it read. -/
theorem numS_test {b : List Int} (hb : Crc.isBytes b) {j : Nat} (h2 : j < b.length) (h3 : j ≤ 8) : rd 0 b = (if 1 ≤ j ∧ b[j]? = some 0 then .form (b.drop (j + 1)) else .ok (dig b (j + 1) 0) (b.drop (j + 1))) →
    (numS (dig b (j + 1) 0 : Int) = b.take (j + 1) ↔ ¬ (1 ≤ j ∧ b[j]? = some 0) ∧ (dig b (j + 1) 0 : Int) ≤ top) := by
  intro hr
  have happ : b.take (j + 1) ++ b.drop (j + 1) = b := List.take_append_drop _ _
  constructor
  · intro hs
    have hne : okN (dig b (j + 1) 0 : Int) = true := by
      cases hk : okN (dig b (j + 1) 0 : Int) with
      | true => rfl
      | false =>
        exfalso
        unfold numS at hs
        rw [hk, cond_false] at hs
        have := congrArg List.length hs
        simp at this
        omega
    have hle : (dig b (j + 1) 0 : Int) ≤ top := by
      unfold okN at hne
      simp only [Bool.and_eq_true, decide_eq_true_eq] at hne
      exact hne.2
    refine ⟨fun hbad => ?_, hle⟩
    rw [if_pos hbad] at hr
    unfold numS at hs
    rw [hne, cond_true] at hs
    have h4 := rd_num 0 (dig b (j + 1) 0) (b.drop (j + 1)) (by omega) (by
      have : (128 : Nat) ^ (9 - 0) = 9223372036854775808 := by decide
      simp only [top] at hle
      omega) (by omega)
    unfold num at hs
    rw [Int.toNat_natCast] at hs
    rw [show 9 - 0 = 9 from rfl, hs, happ, hr] at h4
    cases h4
  · rintro ⟨hbad, hle⟩
    rw [if_neg hbad] at hr
    have h4 := (rd_vn b 0 _ _ hb (by omega) hr).1
    have hok : okN (dig b (j + 1) 0 : Int) = true := by
      unfold okN
      rw [decide_eq_true (by omega), decide_eq_true hle]; rfl
    unfold numS num
    rw [hok, cond_true, Int.toNat_natCast]
    have h5 : vn 9 (dig b (j + 1) 0) ++ b.drop (j + 1) = b.take (j + 1) ++ b.drop (j + 1) := by rw [happ]; exact h4.symm
    exact List.append_cancel_right h5
end Go.Pack

/- Records, told plainly. -/
namespace Go.Rec
open Go.Vm Go.Pack
def mayB (n : Int) : Bool := decide (0 ≤ n) && decide (n ≤ 1099511627776)
def tagsB : Int → List Int → Bool
  | _, [] => true
  | last, t :: r => (decide (last < t) && decide (t ≤ 1073741824)) && tagsB t r
def rightR (c n : Int) (t d : List Int) : Bool := (mayB c && mayB n) && ((decide (t.length ≤ 8) && decide (d.length ≤ 1024)) && tagsB 0 t)
def textR' (c n : Int) (t d : List Int) : List Int := num c ++ (num n ++ (num t.length ++ (nums t ++ (num d.length ++ d))))
theorem rightR_iff {c n : Int} {t d : List Int} : rightR c n t d = true ↔ (0 ≤ c ∧ c ≤ 1099511627776) ∧ (0 ≤ n ∧ n ≤ 1099511627776) ∧ t.length ≤ 8 ∧ d.length ≤ 1024 ∧ tagsB 0 t = true := by
  unfold rightR mayB
  simp only [Bool.and_eq_true, decide_eq_true_eq]
  constructor
  · rintro ⟨⟨h1, h2⟩, ⟨h3, h4⟩, h5⟩; exact ⟨h1, h2, h3, h4, h5⟩
  · rintro ⟨h1, h2, h3, h4, h5⟩; exact ⟨⟨h1, h2⟩, ⟨h3, h4⟩, h5⟩
theorem tagsB_ok : ∀ (t : List Int) (last : Int), 0 ≤ last → tagsB last t = true → okAll t = true
  | [], _, _, _ => rfl
  | x :: r, last, hl, h => by
    simp only [tagsB, Bool.and_eq_true, decide_eq_true_eq] at h
    simp only [okAll, Bool.and_eq_true]
    refine ⟨?_, tagsB_ok r x (by omega) h.2⟩
    unfold okN top
    rw [decide_eq_true (by omega), decide_eq_true (by omega)]; rfl
theorem okAll_numS : ∀ t : List Int, okAll t = true → (t.map numS).flatten = nums t
  | [], _ => rfl
  | x :: r, h => by
    simp only [okAll, Bool.and_eq_true] at h
    simp only [List.map_cons, List.flatten_cons, nums]
    rw [okAll_numS r h.2]
    unfold numS; rw [h.1]; rfl
end Go.Rec

/- Records, read; rows of numbers compared. -/
namespace Go.Vm
theorem rep_more {α : Type} (l : List α) : ∀ (n : Nat) (w : List α), app (repApp (n + 1) l) w = app (repApp n l) (app l w)
  | 0, w => by simp [repApp, app_eq]
  | n + 1, w => by
    rw [repApp]
    have := rep_more l n w
    simp only [app_eq, List.append_assoc] at this ⊢
    rw [this]
    simp only [repApp, app_eq, List.append_assoc]
def all0 : Wr → Bool
  | [] => true
  | (0, _) :: r => all0 r
  | _ :: _ => false
theorem outer_app0 : ∀ (a b : Wr), all0 a = true → outer (app a b) = outer b
  | [], _, _ => rfl
  | (0, _) :: a, b, h => outer_app0 a b h
  | (_ + 1, _) :: _, _, h => by cases h
theorem all0_rep {l : Wr} (h : all0 l = true) : ∀ n, all0 (repApp n l) = true
  | 0 => rfl
  | n + 1 => by
    have h2 := all0_rep h n
    have : ∀ a : Wr, all0 a = true → all0 (app a (repApp n l)) = true := by
      intro a
      induction a with
      | nil => intro _; exact h2
      | cons x a ih =>
        obtain ⟨x1, x2⟩ := x
        cases x1 with
        | zero => exact fun h => ih h
        | succ _ => intro h; cases h
    exact this l h
end Go.Vm
namespace Go.Rec
open Go.Vm Go.Pack
theorem numR_le {s : St} {limit : Int} (h : 0 ≤ limit) : (numR s limit).2 ≤ limit := by
  unfold numR
  split
  · split
    · exact h
    · exact h
    · split
      · exact h
      · rename_i h2
        simp only
        omega
  · exact h
def dA (b : List Int) : List Int := bif Crc.crcOK b then b.take (b.length - 4) else []
def d1 (a : List Int) : St × Int := numR ⟨a, 0⟩ 1099511627776
def d2 (a : List Int) : St × Int := numR (d1 a).1 1099511627776
def d3 (a : List Int) : St × Int := numR (d2 a).1 8
def d4 (a : List Int) : St × List Int := rowR 1073741824 (d3 a).2.toNat (d3 a).1
def d5 (a : List Int) : St × List Int := textR (d4 a).1 1024
def decGood (a : List Int) : Bool := !(endR (d5 a).1 != 0) && rightR (d1 a).2 (d2 a).2 (d4 a).2 (d5 a).2
def decErr (b : List Int) : Int := bif Crc.crcOK b then (bif decGood (dA b) then 0 else 40) else 41
def decOK (b : List Int) : Bool := Crc.crcOK b && decGood (dA b)
def decC (b : List Int) : Int := bif decOK b then (d1 (dA b)).2 else 0
def decN (b : List Int) : Int := bif decOK b then (d2 (dA b)).2 else 0
def decT (b : List Int) : List Int := bif decOK b then (d4 (dA b)).2 else []
def decD (b : List Int) : List Int := bif decOK b then (d5 (dA b)).2 else []
def sameB (c n : Int) (t d : List Int) (c2 n2 : Int) (t2 d2 : List Int) : Bool := (c == c2 && n == n2) && (t == t2 && d == d2)
theorem sameB_refl (c n : Int) (t d : List Int) : sameB c n t d c n t d = true := by unfold sameB; simp
theorem sameB_iff {c n : Int} {t d : List Int} {c2 n2 : Int} {t2 d2 : List Int} : sameB c n t d c2 n2 t2 d2 = true ↔ c = c2 ∧ n = n2 ∧ t = t2 ∧ d = d2 := by
  unfold sameB
  simp only [Bool.and_eq_true, beq_iff_eq]
  constructor
  · rintro ⟨⟨h1, h2⟩, h3, h4⟩; exact ⟨h1, h2, h3, h4⟩
  · rintro ⟨h1, h2, h3, h4⟩; exact ⟨⟨h1, h2⟩, h3, h4⟩
def lessB (a b c d : Int) : Bool := bif decide (a < c) then true else bif a == c then decide (b < d) else false
def hasB (t : List Int) (x : Int) : Bool := x == 0 || t.any (fun y => x == y)
def idxI (t : List Int) (x : Int) : Int := match idxP (fun y => x == y) 0 t with | some j => (j : Int) | none => -1
theorem idxI_any (t : List Int) (x : Int) : decide (idxI t x ≥ 0) = t.any (fun y => x == y) := by
  rw [← idxP_any (fun y => x == y) t 0]
  unfold idxI
  cases idxP (fun y => x == y) 0 t with
  | none => rfl
  | some j => simp
theorem idxP_lt {α : Type} (p : α → Bool) : ∀ (xs : List α) (j k : Nat), idxP p j xs = some k → k < j + xs.length
  | [], _, _, h => by cases h
  | x :: r, j, k, h => by
    simp only [idxP] at h
    cases hp : p x with
    | true => rw [hp] at h; cases h; simp
    | false => rw [hp] at h; have := idxP_lt p r (j + 1) k h; simp; omega
abbrev RecT : Ty := .pair (.pair (.int .i64) (.int .i64)) (.pair (.slice (.int .i64)) .str)
abbrev Rc : Type := (Int × Int) × (List Int × List Int)
/-- the places of those that have a tag. -/
def tagI (tag : Int) : Nat → List Rc → List Int
  | _, [] => []
  | j, x :: r => bif hasB x.2.1 tag then (j : Int) :: tagI tag (j + 1) r else tagI tag (j + 1) r
def tagW (tag : Int) : List Rc → Wr
  | [] => []
  | x :: r => app (tagW tag r) (bif hasB x.2.1 tag then [(0, 0), (0, 1)] else [(0, 1)])
theorem all0_app : ∀ {a b : Wr}, all0 a = true → all0 b = true → all0 (app a b) = true
  | [], _, _, h => h
  | (0, _) :: a, _, h, g => all0_app (a := a) h g
  | (_ + 1, _) :: _, _, h, _ => by cases h
theorem tagW_all0 (tag : Int) : ∀ l, all0 (tagW tag l) = true
  | [] => rfl
  | x :: r => by
    refine all0_app (tagW_all0 tag r) ?_
    cases hasB x.2.1 tag <;> rfl
theorem tagI_len (tag : Int) : ∀ (j : Nat) (l : List Rc), (tagI tag j l).length ≤ l.length
  | _, [] => Nat.le_refl _
  | j, x :: r => by
    have := tagI_len tag (j + 1) r
    simp only [tagI]
    cases hasB x.2.1 tag with
    | true => simp only [cond_true, List.length_cons]; omega
    | false => simp only [cond_false, List.length_cons]; omega
end Go.Rec

/- Records: what was written is read as it was; what was read is written as the same bytes. -/
namespace Go.Pack
open Go.Vm
theorem okN_iff' {n : Int} : okN n = true ↔ 0 ≤ n ∧ n ≤ top := by unfold okN; simp only [Bool.and_eq_true, decide_eq_true_eq]
theorem numR_num {n lim : Int} {r : List Int} (h0 : 0 ≤ n) (ht : n ≤ top) (hl : n ≤ lim) : numR ⟨num n ++ r, 0⟩ lim = (⟨r, 0⟩, n) := by
  have h1 := rd_num 0 n.toNat r (by omega) (by
    have : (128 : Nat) ^ (9 - 0) = 9223372036854775808 := by decide
    simp only [top] at ht
    omega) (by omega)
  have h2 : rd 0 (num n ++ r) = .ok n.toNat r := h1
  unfold numR
  simp only [if_true, h2]
  rw [natCast_toNat h0, if_neg (by omega)]
theorem row_nums {lim : Int} : ∀ {t r : List Int}, (∀ x ∈ t, 0 ≤ x ∧ x ≤ top ∧ x ≤ lim) → rowR lim t.length ⟨nums t ++ r, 0⟩ = (⟨r, 0⟩, t)
  | [], r, _ => rfl
  | x :: t, r, h => by
    obtain ⟨h0, h1, h2⟩ := h x (by simp)
    simp only [List.length_cons, rowR, nums, List.append_assoc, numR_num h0 h1 h2, row_nums (t := t) (r := r) fun y hy => h y (by simp [hy])]
theorem text_num {d r : List Int} {lim : Int} (hl : (d.length : Int) ≤ lim) (ht : (d.length : Int) ≤ top) : textR ⟨num d.length ++ (d ++ r), 0⟩ lim = (⟨r, 0⟩, d) := by
  unfold textR
  rw [numR_num (by omega) ht hl]
  unfold takeS
  have h1 : decide ((d.length : Int) > ((d ++ r).length : Int)) = false := decide_eq_false (by rw [List.length_append]; omega)
  simp only [h1]
  show (St.mk ((d ++ r).drop _) 0, (d ++ r).take _) = _
  rw [Int.toNat_natCast, List.drop_left, List.take_left]
/-! ### Back -/
theorem num_inv {s : St} {lim : Int} (hb : Crc.isBytes s.b) (h : (numR s lim).1.e = 0) : s.e = 0 ∧ s.b = num (numR s lim).2 ++ (numR s lim).1.b ∧ 0 ≤ (numR s lim).2 ∧ (numR s lim).2 ≤ top ∧ (numR s lim).2 ≤ lim := by
  obtain ⟨b, e⟩ := s
  unfold numR at h ⊢
  by_cases he : e = 0
  · subst he
    simp only [if_true] at h ⊢
    cases hr : rd 0 b with
    | short => rw [hr] at h; cases h
    | form r => rw [hr] at h; cases h
    | ok n r =>
      rw [hr] at h
      simp only at h ⊢
      by_cases hc : (n : Int) > top ∨ (n : Int) > lim
      · rw [if_pos hc] at h; cases h
      · rw [if_neg hc] at h ⊢
        have := (rd_vn b 0 n r hb (by omega) hr).1
        refine ⟨trivial, ?_, by simp, by simp only; omega, by simp only; omega⟩
        simp only
        unfold num
        rw [Int.toNat_natCast]
        exact this
  · simp only [if_neg he] at h
    exact absurd h he
theorem row_bytes {lim : Int} : ∀ {k : Nat} {s : St}, Crc.isBytes s.b → Crc.isBytes (rowR lim k s).1.b
  | 0, _, h => h
  | k + 1, s, h => row_bytes (k := k) (numR_bytes h lim)
theorem row_inv {lim : Int} : ∀ {k : Nat} {s : St}, Crc.isBytes s.b → (rowR lim k s).1.e = 0 → s.e = 0 ∧ s.b = nums (rowR lim k s).2 ++ (rowR lim k s).1.b ∧ (rowR lim k s).2.length = k
  | 0, _, _, h => ⟨h, rfl, rfl⟩
  | k + 1, s, hb, h => by
    obtain ⟨h1, h2, h3⟩ := row_inv (k := k) (numR_bytes hb lim) h
    obtain ⟨g1, g2, _⟩ := num_inv hb h1
    refine ⟨g1, ?_, ?_⟩
    · show s.b = nums ((numR s lim).2 :: (rowR lim k (numR s lim).1).2) ++ (rowR lim k (numR s lim).1).1.b
      simp only [nums, List.append_assoc]
      rw [← h2]
      exact g2
    · show ((numR s lim).2 :: (rowR lim k (numR s lim).1).2).length = k + 1
      rw [List.length_cons, h3]
theorem text_inv {s : St} {lim : Int} (hb : Crc.isBytes s.b) (h : (textR s lim).1.e = 0) : s.e = 0 ∧ s.b = num (textR s lim).2.length ++ ((textR s lim).2 ++ (textR s lim).1.b) := by
  unfold textR at h ⊢
  have h0 : (numR s lim).1.e = 0 := by
    unfold takeS at h
    by_cases h1 : (numR s lim).1.e = 0
    · exact h1
    · exfalso
      have h2 : ((numR s lim).1.e != 0) = true := by simpa using h1
      have h3 : ((numR s lim).1.e == 0) = false := by simpa using h1
      rw [h2, cond_true] at h
      unfold failS at h
      rw [h3] at h
      exact h1 h
  obtain ⟨g1, g2, g3, g4, g5⟩ := num_inv hb h0
  unfold takeS at h ⊢
  have h2 : ((numR s lim).1.e != 0) = false := by simp [h0]
  rw [h2, cond_false] at h ⊢
  by_cases hc : (numR s lim).2 > ((numR s lim).1.b.length : Int)
  · exfalso
    rw [decide_eq_true hc, cond_true] at h
    unfold failS at h
    rw [h0] at h
    cases h
  · rw [decide_eq_false hc, cond_false]
    refine ⟨g1, ?_⟩
    simp only
    rw [List.take_append_drop, List.length_take, Nat.min_eq_left (by omega), natCast_toNat g3]
    exact g2
theorem end_inv {s : St} (h : endR s = 0) : s.e = 0 ∧ s.b = [] := by
  unfold endR at h
  split at h
  · rename_i h1
    split at h
    · rename_i h2; exact ⟨h1, List.eq_nil_of_length_eq_zero h2⟩
    · cases h
  · rename_i h1; exact absurd h h1
end Go.Pack
namespace Go.Crc
theorem crcOK_put {b : List Int} : crcOK (crcPut b) = true := by
  unfold crcOK crcPut
  have h4 : (le4 (crcSum b)).length = 4 := rfl
  have e1 : (b ++ le4 (crcSum b)).length - 4 = b.length := by rw [List.length_append, h4]; omega
  rw [e1, List.drop_left, List.take_left, beq_self_eq_true, Bool.and_true]
  rw [List.length_append, h4]
  simp
theorem crcPut_cut {b : List Int} (h : crcOK b = true) : crcPut (b.take (b.length - 4)) = b := by
  unfold crcOK at h
  simp only [Bool.and_eq_true, decide_eq_true_eq, beq_iff_eq] at h
  unfold crcPut
  rw [← h.2, List.take_append_drop]
end Go.Crc
namespace Go.Rec
open Go.Vm Go.Pack
theorem tagsB_all : ∀ {t : List Int} {last : Int}, 0 ≤ last → tagsB last t = true → ∀ x ∈ t, 0 ≤ x ∧ x ≤ 1073741824
  | [], _, _, _, x, hx => by cases hx
  | y :: r, last, hl, h, x, hx => by
    simp only [tagsB, Bool.and_eq_true, decide_eq_true_eq] at h
    rcases List.mem_cons.1 hx with rfl | hx
    · omega
    · exact tagsB_all (t := r) (by omega) h.2 x hx
theorem dA_put (b : List Int) : dA (Crc.crcPut b) = b := by
  unfold dA
  rw [Crc.crcOK_put, cond_true]
  unfold Crc.crcPut
  have h4 : (Crc.le4 (Crc.crcSum b)).length = 4 := rfl
  rw [List.length_append, h4, Nat.add_sub_cancel, List.take_left]
/-- what was written is read as it was. -/
theorem dec_enc {c n : Int} {t d : List Int} (h : rightR c n t d = true) :
    let b := Crc.crcPut (textR' c n t d)
    decErr b = 0 ∧ decC b = c ∧ decN b = n ∧ decT b = t ∧ decD b = d := by
  intro b
  obtain ⟨h1, h2, h3, h4, h5⟩ := rightR_iff.1 h
  have ha : dA b = textR' c n t d := dA_put _
  have tp : (1099511627776 : Int) ≤ top := by decide
  have e1 : d1 (textR' c n t d) = (⟨num n ++ (num t.length ++ (nums t ++ (num d.length ++ d))), 0⟩, c) := numR_num h1.1 (by omega) h1.2
  have e2 : d2 (textR' c n t d) = (⟨num t.length ++ (nums t ++ (num d.length ++ d)), 0⟩, n) := by
    unfold d2; rw [e1]; exact numR_num h2.1 (by omega) h2.2
  have e3 : d3 (textR' c n t d) = (⟨nums t ++ (num d.length ++ d), 0⟩, (t.length : Int)) := by
    unfold d3; rw [e2]; exact numR_num (by omega) (by omega) (by omega)
  have e4 : d4 (textR' c n t d) = (⟨num d.length ++ d, 0⟩, t) := by
    unfold d4; rw [e3]
    exact row_nums fun x hx => by have := tagsB_all (by omega) h5 x hx; exact ⟨this.1, by omega, this.2⟩
  have e5 : d5 (textR' c n t d) = (⟨[], 0⟩, d) := by
    unfold d5; rw [e4]
    have := text_num (d := d) (r := []) (lim := 1024) (by omega) (by omega)
    rwa [List.append_nil] at this
  have hg : decGood (dA b) = true := by
    unfold decGood
    rw [ha, e1, e2, e4, e5, h]
    rfl
  have hok : decOK b = true := by unfold decOK; rw [hg, Crc.crcOK_put]; rfl
  refine ⟨?_, ?_, ?_, ?_, ?_⟩
  · unfold decErr; rw [Crc.crcOK_put, hg]; rfl
  · unfold decC; rw [hok, ha, e1]; rfl
  · unfold decN; rw [hok, ha, e2]; rfl
  · unfold decT; rw [hok, ha, e4]; rfl
  · unfold decD; rw [hok, ha, e5]; rfl
/-- what was read is written as the same bytes. -/
theorem enc_dec {b : List Int} (hb : Crc.isBytes b) (h : decErr b = 0) : rightR (decC b) (decN b) (decT b) (decD b) = true ∧ Crc.crcPut (textR' (decC b) (decN b) (decT b) (decD b)) = b := by
  have hc : Crc.crcOK b = true := by
    cases hc : Crc.crcOK b with
    | true => rfl
    | false => unfold decErr at h; rw [hc] at h; cases h
  have hg : decGood (dA b) = true := by
    cases hg : decGood (dA b) with
    | true => rfl
    | false => unfold decErr at h; rw [hc, hg] at h; cases h
  have hok : decOK b = true := by unfold decOK; rw [hg, hc]; rfl
  have hba : Crc.isBytes (dA b) := by
    unfold dA; rw [hc]
    exact fun x hx => hb x (List.mem_of_mem_take hx)
  unfold decC decN decT decD
  rw [hok]
  simp only [cond_true]
  unfold decGood at hg
  simp only [Bool.and_eq_true, Bool.not_eq_true', bne_eq_false_iff_eq] at hg
  refine ⟨hg.2, ?_⟩
  obtain ⟨k1, k2⟩ := end_inv hg.1
  have b1 : Crc.isBytes (d1 (dA b)).1.b := numR_bytes (s := ⟨dA b, 0⟩) hba _
  have b2 : Crc.isBytes (d2 (dA b)).1.b := numR_bytes b1 _
  have b3 : Crc.isBytes (d3 (dA b)).1.b := numR_bytes b2 _
  have b4 : Crc.isBytes (d4 (dA b)).1.b := row_bytes b3
  obtain ⟨m5, q5⟩ := text_inv (s := (d4 (dA b)).1) (lim := 1024) b4 k1
  obtain ⟨m4, q4, l4⟩ := row_inv (s := (d3 (dA b)).1) b3 m5
  obtain ⟨m3, q3, r3, _⟩ := num_inv (s := (d2 (dA b)).1) b2 m4
  obtain ⟨m2, q2, _⟩ := num_inv (s := (d1 (dA b)).1) b1 m3
  obtain ⟨m1, q1, _⟩ := num_inv (s := ⟨dA b, 0⟩) hba m2
  have e : textR' (d1 (dA b)).2 (d2 (dA b)).2 (d4 (dA b)).2 (d5 (dA b)).2 = dA b := by
    unfold textR'
    have f5 : num ((d5 (dA b)).2.length : Int) ++ (d5 (dA b)).2 = (d4 (dA b)).1.b := by
      have q5' : (d4 (dA b)).1.b = num ((d5 (dA b)).2.length : Int) ++ ((d5 (dA b)).2 ++ (d5 (dA b)).1.b) := q5
      rw [q5', k2, List.append_nil]
    have l4' : (((d4 (dA b)).2.length : Nat) : Int) = (d3 (dA b)).2 := by
      have l4'' : (d4 (dA b)).2.length = (d3 (dA b)).2.toNat := l4
      rw [l4'']; exact natCast_toNat r3
    have q4' : (d3 (dA b)).1.b = nums (d4 (dA b)).2 ++ (d4 (dA b)).1.b := q4
    have q3' : (d2 (dA b)).1.b = num (d3 (dA b)).2 ++ (d3 (dA b)).1.b := q3
    have q2' : (d1 (dA b)).1.b = num (d2 (dA b)).2 ++ (d2 (dA b)).1.b := q2
    have q1' : dA b = num (d1 (dA b)).2 ++ (d1 (dA b)).1.b := q1
    rw [f5, l4', ← q4', ← q3', ← q2', ← q1']
  rw [e]
  have : dA b = b.take (b.length - 4) := by unfold dA; rw [hc]; rfl
  rw [this]
  exact Crc.crcPut_cut hc
theorem dec_zero {b : List Int} (h : decErr b ≠ 0) : decC b = 0 ∧ decN b = 0 ∧ decT b = [] ∧ decD b = [] := by
  have hok : decOK b = false := by
    unfold decOK
    unfold decErr at h
    cases hc : Crc.crcOK b with
    | false => rfl
    | true =>
      cases hg : decGood (dA b) with
      | false => rfl
      | true => rw [hc, hg] at h; exact absurd rfl h
  unfold decC decN decT decD
  rw [hok]
  exact ⟨rfl, rfl, rfl, rfl⟩
/-! ### Tags of two rows -/
theorem tagI_app (tag : Int) : ∀ (a b : List Rc) (j : Nat), tagI tag j (a ++ b) = tagI tag j a ++ tagI tag (j + a.length) b
  | [], _, _ => rfl
  | x :: a, b, j => by
    simp only [List.cons_append, tagI, tagI_app tag a b (j + 1), List.length_cons, show j + 1 + a.length = j + (a.length + 1) by omega]
    cases hasB x.2.1 tag <;> rfl
theorem tagI_shift (tag : Int) : ∀ (b : List Rc) (j k : Nat), tagI tag (k + j) b = (tagI tag j b).map fun x => (k : Int) + x
  | [], _, _ => rfl
  | x :: b, j, k => by
    simp only [tagI]
    have := tagI_shift tag b (j + 1) k
    rw [← Nat.add_assoc] at this
    rw [this]
    cases hasB x.2.1 tag with
    | true => simp
    | false => rfl
theorem tagI_mem (tag : Int) : ∀ (b : List Rc) (j : Nat), ∀ x ∈ tagI tag j b, (j : Int) ≤ x ∧ x < j + b.length
  | [], _, x, hx => by cases hx
  | y :: b, j, x, hx => by
    simp only [tagI] at hx
    have ih := tagI_mem tag b (j + 1)
    simp only [List.length_cons]
    cases hh : hasB y.2.1 tag with
    | true =>
      rw [hh, cond_true, List.mem_cons] at hx
      rcases hx with rfl | hx
      · omega
      · have := ih x hx; omega
    | false =>
      rw [hh, cond_false] at hx
      have := ih x hx; omega
theorem tagI_zero : ∀ (b : List Rc) (j : Nat), (tagI 0 j b).length = b.length
  | [], _ => rfl
  | x :: b, j => by
    simp only [tagI]
    have : hasB x.2.1 0 = true := by unfold hasB; simp
    rw [this, cond_true, List.length_cons, List.length_cons, tagI_zero b (j + 1)]
theorem tagI_parts (tag : Int) {a b : List Rc} (ha : a.length ≤ 100) (hb : b.length ≤ 100) : tagI tag 0 ([] ++ a ++ b) = tagI tag 0 a ++ (tagI tag 0 b).map fun x => IntKind.i64.wrap ((a.length : Int) + x) := by
  rw [List.nil_append, tagI_app, Nat.zero_add]
  have := tagI_shift tag b 0 a.length
  rw [Nat.add_zero] at this
  rw [this]
  congr 1
  refine List.map_congr_left fun x hx => ?_
  have := tagI_mem tag b 0 x hx
  rw [wrap_i64 (by omega) (by omega)]
/-! ### Order -/
theorem lessB_iff {a b c d : Int} : lessB a b c d = true ↔ a < c ∨ (a = c ∧ b < d) := by
  unfold lessB
  by_cases h1 : a < c
  · simp [h1]
  · by_cases h2 : a = c
    · subst h2; simp
    · have : (a == c) = false := by simpa using h2
      rw [decide_eq_false h1, this]
      simp [h1, h2]
end Go.Rec
