/- (Text seat) Numbers as bytes, and what a reader of numbers gives, as plain Lean. No condition. -/
import Derived.Lib.ItoaLen
import Derived.Lib.AtoiBound
import Derived.Test.YteadlkecngfcoaaGreatDoorBase
namespace Go.Proofs.YteadlkecngfcoaaGreatDoor
open Go.RowKit Go.Lib
set_option linter.unusedVariables false
set_option linter.unusedSimpArgs false

abbrev Bts := List UInt8
def isDig (b : UInt8) : Bool := decide (48 ≤ b) && decide (b ≤ 57)
theorem dig_nat {b : UInt8} : isDig b = true ↔ 48 ≤ b.toNat ∧ b.toNat ≤ 57 := by
  unfold isDig
  simp only [Bool.and_eq_true, decide_eq_true_eq, UInt8.le_iff_toNat_le]
  rfl
theorem digitVal_some {b : UInt8} (h : isDig b = true) : digitVal b = some (b.toNat - 48) := by
  unfold digitVal
  rw [if_pos (dig_nat.1 h)]
theorem digitVal_none {b : UInt8} (h : isDig b = false) : digitVal b = none := by
  unfold digitVal
  rw [if_neg]
  intro h2
  rw [dig_nat.2 h2] at h
  cases h
theorem decDigits_rec (u : Nat) (h : ¬ u < 10) : decDigits u = decDigits (u / 10) ++ [UInt8.ofNat (48 + u % 10)] := by rw [decDigits, dif_neg h]
theorem ofNat_toNat {d : Nat} (h : d < 10) : (UInt8.ofNat (48 + d)).toNat = 48 + d := by
  rw [UInt8.toNat_ofNat']
  omega
theorem dig_ofNat {d : Nat} (h : d < 10) : isDig (UInt8.ofNat (48 + d)) = true := by
  rw [dig_nat, ofNat_toNat h]
  omega
theorem dec_dig : ∀ (u : Nat), ∀ b ∈ decDigits u, isDig b = true := by
  intro u
  induction u using Nat.strongRecOn with
  | ind u ih =>
    intro b hb
    by_cases h : u < 10
    · rw [decDigits_one h] at hb
      have hb := List.mem_singleton.1 hb
      subst hb
      exact dig_ofNat h
    · rw [decDigits_rec u h] at hb
      rcases List.mem_append.1 hb with hb | hb
      · exact ih (u / 10) (by omega) b hb
      · have hb := List.mem_singleton.1 hb
        subst hb
        exact dig_ofNat (by omega)
theorem decFrom_app : ∀ (l m : Bts) (a : Nat), decFrom a (l ++ m) = (decFrom a l).bind fun n => decFrom n m
  | [], m, a => rfl
  | b :: r, m, a => by
    rw [List.cons_append, decFrom, decFrom]
    cases digitVal b with
    | none => rfl
    | some d => exact decFrom_app r m _
theorem decFrom_dec : ∀ (u : Nat), decFrom 0 (decDigits u) = some u := by
  intro u
  induction u using Nat.strongRecOn with
  | ind u ih =>
    by_cases h : u < 10
    · rw [decDigits_one h, decFrom, digitVal_some (dig_ofNat h), ofNat_toNat h]
      simp [decFrom]
    · rw [decDigits_rec u h, decFrom_app, ih (u / 10) (by omega)]
      show decFrom (u / 10) [_] = some u
      rw [decFrom, digitVal_some (dig_ofNat (by omega)), ofNat_toNat (by omega)]
      simp [decFrom]
      omega
theorem dec_ne (u : Nat) : decDigits u ≠ [] := by
  intro h
  have := decDigits_length u
  rw [h] at this
  have := nDigits_pos u
  simp at *
  omega
theorem decNat_dec (u : Nat) : decNat (decDigits u) = some u := by
  unfold decNat
  rw [if_neg, decFrom_dec]
  simp [dec_ne]
theorem dec_head (u : Nat) : ∃ b r, decDigits u = b :: r ∧ isDig b = true := by
  rcases h : decDigits u with _ | ⟨b, r⟩
  · exact absurd h (dec_ne u)
  · exact ⟨b, r, rfl, dec_dig u b (by rw [h]; exact List.mem_cons_self ..)⟩
theorem dig_no {b : UInt8} (h : isDig b = true) : (b == 45) = false ∧ (b == 43) = false := by
  rw [dig_nat] at h
  constructor <;> (rw [beq_eq_false_iff_ne]; intro e; subst e; revert h; decide)
theorem atoi_itoa (n : Int) : atoi (itoa n) = some n := by
  unfold itoa
  split
  · rw [atoi, if_pos (by decide), decNat_dec]
    simp
    omega
  · obtain ⟨b, r, h1, h2⟩ := dec_head n.toNat
    have h3 := decNat_dec n.toNat
    rw [h1] at h3 ⊢
    rw [atoi, if_neg (by rw [(dig_no h2).1]; simp), if_neg (by rw [(dig_no h2).2]; simp), h3]
    simp
    omega
theorem itoa_ne (n : Int) : itoa n ≠ [] := by
  unfold itoa
  split
  · simp
  · exact dec_ne _
theorem nDigits_le {u k : Nat} (hk : 1 ≤ k) (h : u < 10 ^ k) : nDigits u ≤ k := by
  induction k generalizing u with
  | zero => omega
  | succ k ih =>
    by_cases hu : u < 10
    · rw [nDigits_small hu]; omega
    · rw [nDigits_big hu]
      rw [Nat.pow_succ] at h
      rcases k with _ | k
      · simp at h; omega
      · have := @ih (u / 10) (by omega) (by omega)
        omega
theorem itoa_len {n : Int} (h1 : -1000000000 < n) (h2 : n < 1000000000) : (itoa n).length ≤ 10 := by
  unfold itoa
  split
  · rw [List.length_cons, decDigits_length]
    have := nDigits_le (u := n.natAbs) (k := 9) (by omega) (by omega)
    omega
  · rw [decDigits_length]
    have := nDigits_le (u := n.toNat) (k := 9) (by omega) (by omega)
    omega
/-! ### a number and what is behind it -/
/-- at most k bytes of digits -/
def digGo : Nat → Bts → Bts
  | 0, _ => []
  | _, [] => []
  | k + 1, b :: r => if isDig b = true then b :: digGo k r else []
/-- what the reader takes: a sign perhaps, digits, ten bytes at most -/
def tokM : Bts → Bts
  | [] => []
  | b :: r => if isDig b = true ∨ b = 45 then b :: digGo 9 r else []
theorem digGo_pre : ∀ (k : Nat) (l : Bts), ∃ m, l = digGo k l ++ m
  | 0, l => ⟨l, by simp [digGo]⟩
  | k + 1, [] => ⟨[], by simp [digGo]⟩
  | k + 1, b :: r => by
    rw [digGo]
    split
    · obtain ⟨m, h⟩ := digGo_pre k r
      exact ⟨m, by rw [List.cons_append, ← h]⟩
    · exact ⟨b :: r, rfl⟩
theorem tok_pre (l : Bts) : ∃ m, l = tokM l ++ m := by
  rcases l with _ | ⟨b, r⟩
  · exact ⟨[], rfl⟩
  · rw [tokM]
    split
    · obtain ⟨m, h⟩ := digGo_pre 9 r
      exact ⟨m, by rw [List.cons_append, ← h]⟩
    · exact ⟨b :: r, rfl⟩
theorem digGo_len : ∀ (k : Nat) (l : Bts), (digGo k l).length ≤ k
  | 0, l => by simp [digGo]
  | k + 1, [] => by simp [digGo]
  | k + 1, b :: r => by
    rw [digGo]
    split
    · have := digGo_len k r
      simp
      omega
    · simp
theorem tok_len (l : Bts) : (tokM l).length ≤ 10 := by
  rcases l with _ | ⟨b, r⟩
  · simp [tokM]
  · rw [tokM]
    split
    · have := digGo_len 9 r
      simp
      omega
    · simp
theorem digGo_app : ∀ (k : Nat) (l m : Bts), (∀ b ∈ l, isDig b = true) → l.length ≤ k → (∀ b r, m = b :: r → isDig b = false) → digGo k (l ++ m) = l
  | 0, [], m, _, _, _ => by rw [digGo]
  | k + 1, [], m, _, _, h => by
    rcases m with _ | ⟨b, r⟩
    · rw [List.nil_append, digGo]; simp
    · rw [List.nil_append, digGo, if_neg (by rw [h b r rfl]; simp)]
  | k + 1, b :: l, m, h, hl, hm => by
    rw [List.cons_append, digGo, if_pos (h b (List.mem_cons_self ..)), digGo_app k l m (fun x hx => h x (List.mem_cons_of_mem _ hx)) (by simp at hl; omega) hm]
theorem tok_itoa {n : Int} {m : Bts} (hl : (itoa n).length ≤ 10) (hm : ∀ b r, m = b :: r → isDig b = false) : tokM (itoa n ++ m) = itoa n := by
  unfold itoa at hl ⊢
  split
  · rename_i h
    rw [if_pos h] at hl
    rw [List.cons_append, tokM, if_pos (.inr rfl), digGo_app _ _ _ (dec_dig _) (by simpa using hl) hm]
  · rename_i h
    rw [if_neg h] at hl
    obtain ⟨b, r, h1, h2⟩ := dec_head n.toNat
    have h3 := dec_dig n.toNat
    rw [h1] at hl h3 ⊢
    rw [List.cons_append, tokM, if_pos (.inl h2), digGo_app _ _ _ (fun x hx => h3 x (List.mem_cons_of_mem _ hx)) (by simpa using hl) hm]
/-- the number read, and whether it is badly written -/
def valM (t : Bts) : Int := (atoi t).getD 0
def badM (t : Bts) : Bool := match atoi t with
  | some n => itoa n != t
  | none => true
theorem bad_no {t : Bts} (h : badM t = false) : t = itoa (valM t) := by
  unfold badM at h
  unfold valM
  rcases ha : atoi t with _ | n
  · rw [ha] at h; cases h
  · rw [ha] at h
    simp at h
    rw [Option.getD_some, h]
theorem bad_itoa (n : Int) : badM (itoa n) = false ∧ valM (itoa n) = n := by
  unfold badM valM
  rw [atoi_itoa]
  simp
theorem bad_nil : badM [] = true := rfl
end Go.Proofs.YteadlkecngfcoaaGreatDoor
