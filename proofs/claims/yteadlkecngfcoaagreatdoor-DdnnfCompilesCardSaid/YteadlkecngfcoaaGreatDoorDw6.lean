/- Walks of layer 33: the statements' own 'part' and 'check'. -/
import Derived.Test.YteadlkecngfcoaaGreatDoorDp0
import Derived.Test.YteadlkecngfcoaaGreatDoorDp1
import Derived.Test.YteadlkecngfcoaaGreatDoorDp2
import Derived.Test.YteadlkecngfcoaaGreatDoorDp3
import Derived.Test.YteadlkecngfcoaaGreatDoorDp4
import Derived.Test.YteadlkecngfcoaaGreatDoorDp5
import Derived.Test.YteadlkecngfcoaaGreatDoorDp6
import Derived.Test.YteadlkecngfcoaaGreatDoorDp7
namespace Go.Proofs.YteadlkecngfcoaaGreatDoor
open Go.ChangeShapes Go.WideShapes Go.ChangeAt Go.RowKit
set_option linter.unusedVariables false

theorem part_any {F : Nat → Prop} (V : Nat) (kind lit : Int) (kids : List Int) (pv mv kv : Value) (mss : List (List Bool)) (w : World)
    (hm : Rows1 Bools F w mv mss) (hk : Ints F w kv kids) (hv1 : V ≤ 40) (h2 : I64 lit) (hrow : ∀ r ∈ mss, r.length = V + 1) :
    Calls Tryz.prog 19 #[.agg #[.int .i64 V, pv], mv, .int .i64 mss.length, .agg #[.int .i64 kind, .int .i64 lit, kv]] w (PartPost w (partM V mss ⟨kind, lit, kids⟩)) := by
  by_cases hlo : kind < 0
  · have e : partM V mss ⟨kind, lit, kids⟩ = (1, []) := by
      have : bad1 kind lit kids.length = true := by
        have h0 : (kind == 0) = false := by rw [beq_eq_false_iff_ne]; omega
        have h1 : (kind == 1) = false := by rw [beq_eq_false_iff_ne]; omega
        have h2 : (kind == 2) = false := by rw [beq_eq_false_iff_ne]; omega
        have h3 : (kind != 3) = true := by rw [bne_iff_ne]; omega
        have h4 : (kind != 4) = true := by rw [bne_iff_ne]; omega
        simp only [bad1, leafB, h0, h1, h2, h3, h4]; simp
      simp [partM, this]
    rw [e]
    exact part_lo V kind lit kids pv mv kv mss w hm hk hv1 hlo
  by_cases hhi : 4 < kind
  · have e : partM V mss ⟨kind, lit, kids⟩ = (1, []) := by
      have : bad1 kind lit kids.length = true := by
        have h0 : (kind == 0) = false := by rw [beq_eq_false_iff_ne]; omega
        have h1 : (kind == 1) = false := by rw [beq_eq_false_iff_ne]; omega
        have h2 : (kind == 2) = false := by rw [beq_eq_false_iff_ne]; omega
        have h3 : (kind != 3) = true := by rw [bne_iff_ne]; omega
        have h4 : (kind != 4) = true := by rw [bne_iff_ne]; omega
        simp only [bad1, leafB, h0, h1, h2, h3, h4]; simp
      simp [partM, this]
    rw [e]
    exact part_hi V kind lit kids pv mv kv mss w hm hk hv1 hhi
  have hcase : kind = 0 ∨ kind = 1 ∨ kind = 2 ∨ kind = 3 ∨ kind = 4 := by omega
  have hkids : kids.length = 0 → kids = [] := List.eq_nil_of_length_eq_zero
  rcases hcase with rfl | rfl | rfl | rfl | rfl
  · by_cases hn : 0 < kids.length
    · have e : partM V mss ⟨0, lit, kids⟩ = (1, []) := by simp [partM, bad1, leafB, namesB, hn]
      rw [e]; exact part_a0 V lit kids pv mv kv mss w hm hk hv1 hn
    · have hn0 : kids.length = 0 := by omega
      obtain rfl := hkids hn0
      by_cases hl : lit = 0
      · subst hl
        have e : partM V mss ⟨0, 0, []⟩ = (0, List.replicate (V + 1) false) := by simp [partM, bad1, bad2, leafB, namesB, kids1, kids2]
        rw [e]; exact part_c0 V [] pv mv kv mss w hm hk hv1 hn0
      · have e : partM V mss ⟨0, lit, []⟩ = (1, []) := by simp [partM, bad1, leafB, namesB, hl]
        rw [e]; exact part_b0 V lit [] pv mv kv mss w hm hk hv1 hn0 (by simpa using hl)
  · by_cases hn : 0 < kids.length
    · have e : partM V mss ⟨1, lit, kids⟩ = (1, []) := by simp [partM, bad1, leafB, namesB, hn]
      rw [e]; exact part_a1 V lit kids pv mv kv mss w hm hk hv1 hn
    · have hn0 : kids.length = 0 := by omega
      obtain rfl := hkids hn0
      by_cases hl : lit = 0
      · subst hl
        have e : partM V mss ⟨1, 0, []⟩ = (0, List.replicate (V + 1) false) := by simp [partM, bad1, bad2, leafB, namesB, kids1, kids2]
        rw [e]; exact part_c1 V [] pv mv kv mss w hm hk hv1 hn0
      · have e : partM V mss ⟨1, lit, []⟩ = (1, []) := by simp [partM, bad1, leafB, namesB, hl]
        rw [e]; exact part_b1 V lit [] pv mv kv mss w hm hk hv1 hn0 (by simpa using hl)
  · by_cases hn : 0 < kids.length
    · have e : partM V mss ⟨2, lit, kids⟩ = (1, []) := by simp [partM, bad1, leafB, namesB, hn]
      rw [e]; exact part_a2 V lit kids pv mv kv mss w hm hk hv1 hn
    · have hn0 : kids.length = 0 := by omega
      obtain rfl := hkids hn0
      by_cases hl : lit = 0 ∨ (V : Int) < lit ∨ lit < -(V : Int)
      · have e : partM V mss ⟨2, lit, []⟩ = (3, []) := by
          have hb : bad2 2 lit V = true := by
            rcases hl with h | h | h <;> simp [bad2, namesB, h]
          simp [partM, bad1, leafB, namesB, hb]
        rw [e]; exact part_b2 V lit [] pv mv kv mss w hm hk hv1 hn0 hl h2
      · have e : partM V mss ⟨2, lit, []⟩ = (0, (List.replicate (V + 1) false).set lit.natAbs true) := by
          have hb : bad2 2 lit V = false := by
            simp [bad2, namesB]; omega
          simp [partM, bad1, leafB, namesB, hb, kids1, kids2]
        rw [e]
        by_cases hp : 0 < lit
        · exact part_c2 V lit [] pv mv kv mss w hm hk hv1 hn0 hp (by omega)
        · exact part_d2 V lit [] pv mv kv mss w hm hk hv1 hn0 (by omega) (by omega)
  · by_cases hl : lit = 0
    · subst hl
      rcases ha : kids.any (fun x => decide (x < 0 ∨ (mss.length : Int) ≤ x)) with _ | _
      · have e : partM V mss ⟨3, 0, kids⟩ = (match kids1 3 0 mss kids (List.replicate (V + 1) false) with | none => (2, []) | some m => (0, kids2 mss kids m)) := by
          simp only [partM, bad1, bad2, leafB, namesB, ha]
          simp
          generalize kids1 3 0 mss kids (List.replicate (V + 1) false) = o
          cases o <;> rfl
        rw [e]
        exact part_c3 V kids pv mv kv mss w hm hk hv1 hrow (fun k hk' => by
          have := List.any_eq_false.1 ha k hk'; simp at this; omega)
      · have e : partM V mss ⟨3, 0, kids⟩ = (10, []) := by
          simp only [partM, bad1, bad2, leafB, namesB, ha]
          simp
        rw [e]
        exact part_d3 V kids pv mv kv mss w hm hk hv1 ha
    · have e : partM V mss ⟨3, lit, kids⟩ = (1, []) := by simp [partM, bad1, leafB, namesB, hl]
      rw [e]; exact part_e3 V lit kids pv mv kv mss w hm hk hv1 (by simpa using hl)
  · by_cases hn : kids.length = 2
    · by_cases hl : lit < 1 ∨ (V : Int) < lit
      · have e : partM V mss ⟨4, lit, kids⟩ = (3, []) := by
          have hb : bad2 4 lit V = true := by
            simp [bad2, namesB]; omega
          simp [partM, bad1, leafB, namesB, hb, hn]
        rw [e]; exact part_b4 V lit kids pv mv kv mss w hm hk hv1 hn hl h2
      · have hb : bad2 4 lit V = false := by
          simp [bad2, namesB]; omega
        have hna : lit.natAbs = lit.toNat := by omega
        rcases ha : kids.any (fun x => decide (x < 0 ∨ (mss.length : Int) ≤ x)) with _ | _
        · have e : partM V mss ⟨4, lit, kids⟩ = (match kids1 4 lit mss kids ((List.replicate (V + 1) false).set lit.toNat true) with | none => (2, []) | some m => (0, kids2 mss kids m)) := by
            simp only [partM, hb, ha, hna]
            simp [bad1, leafB, namesB, hn]
            generalize kids1 4 lit mss kids _ = o
            cases o <;> rfl
          rw [e]
          exact part_c4 V lit kids pv mv kv mss w hm hk hv1 hn (by omega) (by omega) hrow (fun k hk' => by
            have := List.any_eq_false.1 ha k hk'; simp at this; omega)
        · have e : partM V mss ⟨4, lit, kids⟩ = (10, []) := by
            simp only [partM, hb, ha]
            simp [bad1, leafB, namesB, hn]
          rw [e]
          exact part_d4 V lit kids pv mv kv mss w hm hk hv1 ha hn (by omega) (by omega)
    · have e : partM V mss ⟨4, lit, kids⟩ = (1, []) := by simp [partM, bad1, leafB, namesB]; omega
      rw [e]; exact part_a4 V lit kids pv mv kv mss w hm hk hv1 hn
end Go.Proofs.YteadlkecngfcoaaGreatDoor
