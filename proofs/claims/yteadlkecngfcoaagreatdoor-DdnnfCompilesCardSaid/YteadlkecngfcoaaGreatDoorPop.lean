/- Plain: the number of bits of a word, as Go's library reckons it. No program in sight. -/
import Derived.Test.YteadlkecngfcoaaGreatDoorBase
namespace Go.Proofs.YteadlkecngfcoaaGreatDoor
namespace Pop

def pop : Nat → Nat → Nat
  | 0, _ => 0
  | n + 1, x => x % 2 + pop n (x / 2)

theorem and_split (d q m p : Nat) (hd : d < 256) (hm : m < 256) : (d + 256 * q) &&& (m + 256 * p) = (d &&& m) + 256 * (q &&& p) := by
  have h1 := Nat.mod_add_div ((d + 256 * q) &&& (m + 256 * p)) 256
  have h2 : ((d + 256 * q) &&& (m + 256 * p)) % 256 = d &&& m := by
    have := Nat.and_mod_two_pow (a := d + 256 * q) (b := m + 256 * p) (n := 8)
    rw [show (2 : Nat) ^ 8 = 256 by decide] at this
    rw [this]
    rw [show (d + 256 * q) % 256 = d by omega, show (m + 256 * p) % 256 = m by omega]
  have h3 : ((d + 256 * q) &&& (m + 256 * p)) / 256 = q &&& p := by
    have := Nat.and_div_two_pow (a := d + 256 * q) (b := m + 256 * p) (n := 8)
    rw [show (2 : Nat) ^ 8 = 256 by decide] at this
    rw [this]
    rw [show (d + 256 * q) / 256 = q by omega, show (m + 256 * p) / 256 = p by omega]
  rw [h2, h3] at h1
  exact h1.symm

/-- a byte in each of n places -/
def rep (m : Nat) : Nat → Nat
  | 0 => 0
  | n + 1 => m + 256 * rep m n

def s1 (n x : Nat) : Nat := (x / 2 &&& rep 85 n) + (x &&& rep 85 n)
def s2 (n x : Nat) : Nat := (x / 4 &&& rep 51 n) + (x &&& rep 51 n)
def s3 (n x : Nat) : Nat := (x / 16 + x) &&& rep 15 n
def t1 (d : Nat) : Nat := (d / 2 &&& 85) + (d &&& 85)
def t2 (d : Nat) : Nat := (d / 4 &&& 51) + (d &&& 51)

theorem low1 : ∀ d < 256, ∀ b < 2, (d / 2 + 128 * b) &&& 85 = d / 2 &&& 85 := by decide +kernel
theorem low2 : ∀ d < 256, ∀ b < 4, (d / 4 + 64 * b) &&& 51 = d / 4 &&& 51 := by decide +kernel
theorem bytes : ∀ d < 256, t1 d < 256 ∧ t2 (t1 d) < 256 ∧ t2 (t1 d) % 16 ≤ 4 ∧ t2 (t1 d) ≤ 68 ∧ (t2 (t1 d) / 16 + t2 (t1 d)) % 16 = pop 8 d := by decide +kernel
theorem pop8_le : ∀ d < 256, pop 8 d ≤ 8 := by decide +kernel

theorem s1_succ (n d q : Nat) (hd : d < 256) : s1 (n + 1) (d + 256 * q) = t1 d + 256 * s1 n q := by
  unfold s1 t1
  rw [show rep 85 (n + 1) = 85 + 256 * rep 85 n from rfl, and_split d q 85 _ hd (by decide), show (d + 256 * q) / 2 = (d / 2 + 128 * (q % 2)) + 256 * (q / 2) by omega, and_split _ _ 85 _ (by omega) (by decide), low1 d hd _ (by omega)]
  generalize rep 85 n = r
  omega
theorem s2_succ (n d q : Nat) (hd : d < 256) : s2 (n + 1) (d + 256 * q) = t2 d + 256 * s2 n q := by
  unfold s2 t2
  rw [show rep 51 (n + 1) = 51 + 256 * rep 51 n from rfl, and_split d q 51 _ hd (by decide), show (d + 256 * q) / 4 = (d / 4 + 64 * (q % 4)) + 256 * (q / 4) by omega, and_split _ _ 51 _ (by omega) (by decide), low2 d hd _ (by omega)]
  generalize rep 51 n = r
  omega
theorem s3_succ (n e q : Nat) (he : e ≤ 68) (hq : q % 16 ≤ 4) : s3 (n + 1) (e + 256 * q) = (e / 16 + e) % 16 + 256 * s3 n q := by
  unfold s3
  rw [show rep 15 (n + 1) = 15 + 256 * rep 15 n from rfl, show (e + 256 * q) / 16 + (e + 256 * q) = (e / 16 + e + 16 * (q % 16)) + 256 * (q / 16 + q) by omega, and_split _ _ 15 _ (by omega) (by decide)]
  have : (e / 16 + e + 16 * (q % 16)) &&& 15 = (e / 16 + e + 16 * (q % 16)) % 16 := Nat.and_two_pow_sub_one_eq_mod _ 4
  rw [this]
  congr 1
  omega

/-- the bytes' counts -/
def cnt : Nat → Nat → Nat
  | 0, _ => 0
  | n + 1, x => pop 8 (x % 256) + 256 * cnt n (x / 256)

theorem s21_succ (n x : Nat) : s2 (n + 1) (s1 (n + 1) x) = t2 (t1 (x % 256)) + 256 * s2 n (s1 n (x / 256)) := by
  have e : x = x % 256 + 256 * (x / 256) := by omega
  have hd : x % 256 < 256 := by omega
  conv => lhs; rw [e]
  rw [s1_succ n _ _ hd, s2_succ n _ _ (bytes _ hd).1]
theorem low_nib (n x : Nat) : s2 n (s1 n x) % 16 ≤ 4 := by
  cases n with
  | zero => simp [s2, s1, rep]
  | succ n =>
    rw [s21_succ]
    have := (bytes (x % 256) (by omega)).2.2.1
    generalize t2 (t1 (x % 256)) = t at *
    omega
theorem s321 (n : Nat) : ∀ x, s3 n (s2 n (s1 n x)) = cnt n x := by
  induction n with
  | zero => intro x; simp [s3, rep, cnt]
  | succ n ih =>
    intro x
    have hb := bytes (x % 256) (by omega)
    rw [s21_succ, s3_succ _ _ _ hb.2.2.2.1 (low_nib n _), hb.2.2.2.2, ih]
    rfl

theorem pop_add (n : Nat) : ∀ (m x : Nat), pop (n + m) x = pop n x + pop m (x / 2 ^ n) := by
  induction n with
  | zero => intro m x; simp [pop]
  | succ n ih =>
    intro m x
    rw [show n + 1 + m = (n + m) + 1 by omega]
    simp only [pop]
    rw [ih, Nat.div_div_eq_div_mul, Nat.pow_succ, Nat.mul_comm 2]
    omega
theorem pop_mod (n : Nat) : ∀ x, pop n (x % 2 ^ n) = pop n x := by
  induction n with
  | zero => intro x; rfl
  | succ n ih =>
    intro x
    simp only [pop]
    rw [show x % 2 ^ (n + 1) / 2 = (x / 2) % 2 ^ n by rw [Nat.pow_succ, Nat.mul_comm, Nat.mod_mul_right_div_self], ih,
      show x % 2 ^ (n + 1) % 2 = x % 2 from Nat.mod_mod_of_dvd _ ⟨2 ^ n, by rw [Nat.pow_succ, Nat.mul_comm]⟩]
theorem pop8_byte (x : Nat) : pop 8 (x % 256) = pop 8 x := pop_mod 8 x
theorem pop_byte (m x : Nat) : pop (8 + m) x = pop 8 (x % 256) + pop m (x / 256) := by rw [pop_add, pop8_byte]

theorem pop64 (x : Nat) : pop 64 x = pop 8 (x % 256) + (pop 8 (x / 256 % 256) + (pop 8 (x / 256 / 256 % 256) + (pop 8 (x / 256 / 256 / 256 % 256) + (pop 8 (x / 256 / 256 / 256 / 256 % 256) +
    (pop 8 (x / 256 / 256 / 256 / 256 / 256 % 256) + (pop 8 (x / 256 / 256 / 256 / 256 / 256 / 256 % 256) + pop 8 (x / 256 / 256 / 256 / 256 / 256 / 256 / 256 % 256))))))) := by
  rw [show (64 : Nat) = 8 + 56 from rfl, pop_byte, show (56 : Nat) = 8 + 48 from rfl, pop_byte, show (48 : Nat) = 8 + 40 from rfl, pop_byte, show (40 : Nat) = 8 + 32 from rfl, pop_byte,
    show (32 : Nat) = 8 + 24 from rfl, pop_byte, show (24 : Nat) = 8 + 16 from rfl, pop_byte, show (16 : Nat) = 8 + 8 from rfl, pop_byte, ← pop8_byte (x / 256 / 256 / 256 / 256 / 256 / 256 / 256)]
theorem cnt8 (x : Nat) : cnt 8 x = pop 8 (x % 256) + 256 * (pop 8 (x / 256 % 256) + 256 * (pop 8 (x / 256 / 256 % 256) + 256 * (pop 8 (x / 256 / 256 / 256 % 256) + 256 * (pop 8 (x / 256 / 256 / 256 / 256 % 256) +
    256 * (pop 8 (x / 256 / 256 / 256 / 256 / 256 % 256) + 256 * (pop 8 (x / 256 / 256 / 256 / 256 / 256 / 256 % 256) + 256 * (pop 8 (x / 256 / 256 / 256 / 256 / 256 / 256 / 256 % 256) + 256 * 0))))))) := rfl

theorem sum_of (g0 g1 g2 g3 g4 g5 g6 g7 c : Nat) (b0 : g0 ≤ 8) (b1 : g1 ≤ 8) (b2 : g2 ≤ 8) (b3 : g3 ≤ 8) (b4 : g4 ≤ 8) (b5 : g5 ≤ 8) (b6 : g6 ≤ 8) (b7 : g7 ≤ 8)
    (hc : c = g0 + 256 * (g1 + 256 * (g2 + 256 * (g3 + 256 * (g4 + 256 * (g5 + 256 * (g6 + 256 * g7))))))) :
    (((c + c / 256) + (c + c / 256) / 65536) + ((c + c / 256) + (c + c / 256) / 65536) / 4294967296) % 128 = g0 + (g1 + (g2 + (g3 + (g4 + (g5 + (g6 + g7)))))) := by
  have dv : ∀ a b n : Nat, a < n → (a + n * b) / n = b := fun a b n h => by
    rw [Nat.add_mul_div_left _ _ (by omega), Nat.div_eq_of_lt h, Nat.zero_add]
  have md : ∀ a b m d : Nat, a + b < 128 → ((a + 256 * m) + (b + 256 * d)) % 128 = a + b := fun a b m d h => by omega
  rw [show c / 256 = g1 + 256 * (g2 + 256 * (g3 + 256 * (g4 + 256 * (g5 + 256 * (g6 + 256 * g7))))) by rw [hc]; exact dv _ _ _ (by omega)]
  have hy : c + (g1 + 256 * (g2 + 256 * (g3 + 256 * (g4 + 256 * (g5 + 256 * (g6 + 256 * g7)))))) =
      (g0 + g1 + 256 * (g1 + g2)) + 65536 * ((g2 + g3) + 256 * ((g3 + g4) + 256 * ((g4 + g5) + 256 * ((g5 + g6) + 256 * ((g6 + g7) + 256 * g7))))) := by rw [hc]; simp only [Nat.mul_add, ← Nat.mul_assoc, Nat.reduceMul]; ac_rfl
  rw [hy, dv _ _ _ (by omega)]
  clear hy hc
  have hz : (g0 + g1 + 256 * (g1 + g2)) + 65536 * ((g2 + g3) + 256 * ((g3 + g4) + 256 * ((g4 + g5) + 256 * ((g5 + g6) + 256 * ((g6 + g7) + 256 * g7))))) + ((g2 + g3) + 256 * ((g3 + g4) + 256 * ((g4 + g5) + 256 * ((g5 + g6) + 256 * ((g6 + g7) + 256 * g7))))) =
      ((g0 + g1 + g2 + g3) + 256 * ((g1 + g2 + g3 + g4) + 256 * ((g2 + g3 + g4 + g5) + 256 * (g3 + g4 + g5 + g6)))) + 4294967296 * ((g4 + g5 + g6 + g7) + 256 * ((g5 + g6 + g7) + 256 * ((g6 + g7) + 256 * g7))) := by
    simp only [Nat.mul_add, ← Nat.mul_assoc, Nat.reduceMul]; ac_rfl
  rw [hz, dv _ _ _ (by omega)]
  rw [show ((g0 + g1 + g2 + g3) + 256 * ((g1 + g2 + g3 + g4) + 256 * ((g2 + g3 + g4 + g5) + 256 * (g3 + g4 + g5 + g6)))) + 4294967296 * ((g4 + g5 + g6 + g7) + 256 * ((g5 + g6 + g7) + 256 * ((g6 + g7) + 256 * g7))) =
    (g0 + g1 + g2 + g3) + 256 * (((g1 + g2 + g3 + g4) + 256 * ((g2 + g3 + g4 + g5) + 256 * (g3 + g4 + g5 + g6))) + 16777216 * ((g4 + g5 + g6 + g7) + 256 * ((g5 + g6 + g7) + 256 * ((g6 + g7) + 256 * g7)))) by
    simp only [Nat.mul_add, ← Nat.mul_assoc, Nat.reduceMul]; ac_rfl]
  rw [md _ _ _ _ (by omega)]
  omega

theorem sum_bytes (x : Nat) :
    (((cnt 8 x + cnt 8 x / 256) + (cnt 8 x + cnt 8 x / 256) / 65536) + ((cnt 8 x + cnt 8 x / 256) + (cnt 8 x + cnt 8 x / 256) / 65536) / 4294967296) % 128 = pop 64 x ∧ cnt 8 x < 650000000000000000 := by
  have h := cnt8 x
  rw [pop64]
  have b0 := pop8_le (x % 256) (by omega)
  have b1 := pop8_le (x / 256 % 256) (by omega)
  have b2 := pop8_le (x / 256 / 256 % 256) (by omega)
  have b3 := pop8_le (x / 256 / 256 / 256 % 256) (by omega)
  have b4 := pop8_le (x / 256 / 256 / 256 / 256 % 256) (by omega)
  have b5 := pop8_le (x / 256 / 256 / 256 / 256 / 256 % 256) (by omega)
  have b6 := pop8_le (x / 256 / 256 / 256 / 256 / 256 / 256 % 256) (by omega)
  have b7 := pop8_le (x / 256 / 256 / 256 / 256 / 256 / 256 / 256 % 256) (by omega)
  generalize pop 8 (x % 256) = g0 at *
  generalize pop 8 (x / 256 % 256) = g1 at *
  generalize pop 8 (x / 256 / 256 % 256) = g2 at *
  generalize pop 8 (x / 256 / 256 / 256 % 256) = g3 at *
  generalize pop 8 (x / 256 / 256 / 256 / 256 % 256) = g4 at *
  generalize pop 8 (x / 256 / 256 / 256 / 256 / 256 % 256) = g5 at *
  generalize pop 8 (x / 256 / 256 / 256 / 256 / 256 / 256 % 256) = g6 at *
  generalize pop 8 (x / 256 / 256 / 256 / 256 / 256 / 256 / 256 % 256) = g7 at *
  rw [Nat.mul_zero, Nat.add_zero] at h
  exact ⟨sum_of _ _ _ _ _ _ _ _ _ b0 b1 b2 b3 b4 b5 b6 b7 h, by omega⟩

/-! ### in the walk's spelling -/
theorem step1 (x : Nat) (hx : x < 18446744073709551616) : IntKind.u64.wrap (bits .and .u64 ((x : Int) / 2) 6148914691236517205 + bits .and .u64 (x : Int) 6148914691236517205) = (s1 8 x : Int) ∧ s1 8 x < 18446744073709551616 := by
  have e1 := u64_and_nat (x / 2) 6148914691236517205 (by omega) (by omega)
  have e2 := u64_and_nat x 6148914691236517205 (by omega) (by omega)
  rw [show ((x : Int) / 2) = ((x / 2 : Nat) : Int) by omega, show (6148914691236517205 : Int) = ((6148914691236517205 : Nat) : Int) by rfl, e1, e2, IntKind.wrap_u64]
  have h1 : x / 2 &&& 6148914691236517205 ≤ 6148914691236517205 := Nat.and_le_right
  have h2 : x &&& 6148914691236517205 ≤ 6148914691236517205 := Nat.and_le_right
  have h3 : s1 8 x = (x / 2 &&& 6148914691236517205) + (x &&& 6148914691236517205) := rfl
  omega
theorem step2 (x : Nat) (hx : x < 18446744073709551616) : IntKind.u64.wrap (bits .and .u64 ((x : Int) / 4) 3689348814741910323 + bits .and .u64 (x : Int) 3689348814741910323) = (s2 8 x : Int) ∧ s2 8 x < 8446744073709551616 := by
  have e1 := u64_and_nat (x / 4) 3689348814741910323 (by omega) (by omega)
  have e2 := u64_and_nat x 3689348814741910323 (by omega) (by omega)
  rw [show ((x : Int) / 4) = ((x / 4 : Nat) : Int) by omega, show (3689348814741910323 : Int) = ((3689348814741910323 : Nat) : Int) by rfl, e1, e2, IntKind.wrap_u64]
  have h1 : x / 4 &&& 3689348814741910323 ≤ 3689348814741910323 := Nat.and_le_right
  have h2 : x &&& 3689348814741910323 ≤ 3689348814741910323 := Nat.and_le_right
  have h3 : s2 8 x = (x / 4 &&& 3689348814741910323) + (x &&& 3689348814741910323) := rfl
  omega
theorem step3 (x : Nat) (hx : x < 8446744073709551616) : bits .and .u64 ((x : Int) / 16 + x) 1085102592571150095 = (s3 8 x : Int) := by
  have e1 := u64_and_nat (x / 16 + x) 1085102592571150095 (by omega) (by omega)
  rw [show ((x : Int) / 16 + x) = ((x / 16 + x : Nat) : Int) by omega, show (1085102592571150095 : Int) = ((1085102592571150095 : Nat) : Int) by rfl, e1]
  rfl
end Pop
end Go.Proofs.YteadlkecngfcoaaGreatDoor
