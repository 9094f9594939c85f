/- (Trace text seat) Numbers of 64 bits as bytes and back, and the sign behind a number, as plain Lean. -/
import Derived.Lib.AtoiAll
import Derived.Lib.AtoiAllCases
import Derived.Lib.IndexAny
import Derived.Test.YtljaegmmfjllkaaGreatDoorMn
namespace Go.Proofs.YtljaegmmfjllkaaGreatDoor
open Go.RowKit Go.Lib
set_option linter.unusedVariables false
set_option linter.unusedSimpArgs false

theorem pu_app : ∀ (l m : Bts) (a u : Nat), parseUint10 a l = .ok u → parseUint10 a (l ++ m) = parseUint10 u m
  | [], m, a, u, h => by
    rw [parseUint10] at h
    injection h with h
    rw [h, List.nil_append]
  | c :: r, m, a, u, h => by
    rw [parseUint10] at h
    rw [List.cons_append, parseUint10]
    split at h
    · rename_i h1
      rw [if_pos h1]
      split at h
      · cases h
      · rename_i h2
        rw [if_neg h2]
        split at h
        · cases h
        · rename_i h3
          rw [if_neg h3]
          exact pu_app r m _ u h
    · cases h
theorem pu_dig {a d : Nat} (hd : d < 10) (h : a * 10 + d < 18446744073709551616) : parseUint10 a [UInt8.ofNat (48 + d)] = .ok (a * 10 + d) := by
  rw [parseUint10, ofNat_toNat hd, if_pos ⟨by omega, by omega⟩, if_neg (by omega), if_neg (by omega), parseUint10]
  congr 1
  omega
theorem pu_dec : ∀ (u : Nat), u < 18446744073709551616 → parseUint10 0 (decDigits u) = .ok u := by
  intro u
  induction u using Nat.strongRecOn with
  | ind u ih =>
    intro hu
    by_cases h : u < 10
    · rw [decDigits_one h, pu_dig h (by omega)]
      congr 1
      omega
    · rw [decDigits_rec u h, pu_app _ _ _ _ (ih (u / 10) (by omega) (by omega)), pu_dig (by omega) (by omega)]
      congr 1
      omega
theorem mag_dec {u : Nat} (hu : u < 18446744073709551616) : parseMag (decDigits u) = .ok u := by
  unfold parseMag
  rw [if_neg (dec_ne u), pu_dec u hu]
/-- what Atoi gives on a printed number -/
theorem all_itoa {n : Int} (h1 : -9223372036854775808 ≤ n) (h2 : n ≤ 9223372036854775807) : atoiAll (itoa n) = .ok n := by
  unfold itoa
  split
  · rw [atoiAll_minus, mag_dec (by omega), signed, if_neg (by omega)]
    congr 1
    omega
  · have hm := mag_dec (u := n.toNat) (by omega)
    obtain ⟨b, r, hb, hd⟩ := dec_head n.toNat
    rw [hb] at hm ⊢
    rw [dig_nat] at hd
    rw [atoiAll_plain b r (by omega) (by omega), hm, signless, if_neg (by omega)]
    congr 1
    omega
theorem itoa_bytes {n : Int} {b : UInt8} (h : b ∈ itoa n) : b.toNat = 45 ∨ 48 ≤ b.toNat ∧ b.toNat ≤ 57 := by
  unfold itoa at h
  split at h
  · rcases List.mem_cons.1 h with h | h
    · subst h; exact .inl rfl
    · exact .inr (dig_nat.1 (dec_dig _ _ h))
  · exact .inr (dig_nat.1 (dec_dig _ _ h))
theorem idx_app {s : UInt8} (hs : s = 32 ∨ s = 10) (r : Bts) : ∀ l : Bts, (∀ b ∈ l, b.toNat = 45 ∨ 48 ≤ b.toNat ∧ b.toNat ≤ 57) → indexAny (l ++ s :: r) [32, 10] = l.length
  | [], _ => by
    rw [List.nil_append, indexAny]
    rcases hs with rfl | rfl <;> rfl
  | b :: l, h => by
    have ih := idx_app hs r l fun x hx => h x (List.mem_cons_of_mem _ hx)
    have hb := h b (List.mem_cons_self ..)
    have hc : ([32, 10] : Bts).contains b = false := by
      rw [List.contains_eq_mem, decide_eq_false_iff_not]
      intro hm
      rcases List.mem_cons.1 hm with e | hm
      · subst e; revert hb; decide
      · have e := List.mem_singleton.1 hm
        subst e; revert hb; decide
    rw [List.cons_append, indexAny, hc, ih, List.length_cons]
    have hn : ((l.length : Int) == -1) = false := by rw [beq_eq_false_iff_ne]; omega
    rw [hn]
    simp
/-- a printed number ends at its sign -/
theorem idx_itoa (n : Int) {s : UInt8} (hs : s = 32 ∨ s = 10) (r : Bts) : indexAny (itoa n ++ s :: r) [32, 10] = (itoa n).length := idx_app hs r _ fun _ h => itoa_bytes h
theorem itoa_all20 {n : Int} (h1 : -9223372036854775808 ≤ n) (h2 : n ≤ 9223372036854775807) : (itoa n).length ≤ 20 := by
  unfold itoa
  split
  · rw [List.length_cons, decDigits_length]
    have := nDigits_le (u := n.natAbs) (k := 19) (by omega) (by omega)
    omega
  · rw [decDigits_length]
    have := nDigits_le (u := n.toNat) (k := 19) (by omega) (by omega)
    omega
end Go.Proofs.YtljaegmmfjllkaaGreatDoor
