/- Plain: how many assignments satisfy a test; tests of different variables are independent. No program in sight. -/
import Derived.Test.YtljljagkccmogaaCnt
import Derived.Test.YtljljagkccmogaaCw1
namespace Go.Proofs.Ytljljagkccmogaa

/-- how many lists of n values satisfy f -/
def Cn : Nat → (List Bool → Bool) → Nat
  | 0, f => (f []).toNat
  | n + 1, f => Cn n (fun a => f (false :: a)) + Cn n (fun a => f (true :: a))
/-- all lists of n values in lexicographic order -/
def allA : Nat → List (List Bool)
  | 0 => [[]]
  | n + 1 => (allA n).map (false :: ·) ++ (allA n).map (true :: ·)

theorem filter_map_len {α β : Type} (f : β → Bool) (g : α → β) (l : List α) : ((l.map g).filter f).length = (l.filter fun a => f (g a)).length := by
  rw [List.filter_map, List.length_map]; rfl
theorem Cn_filter : ∀ (n : Nat) (f : List Bool → Bool), Cn n f = ((allA n).filter f).length
  | 0, f => by simp only [Cn, allA, List.filter_cons, List.filter_nil]; cases f [] <;> simp
  | n + 1, f => by
    simp only [Cn, allA, List.filter_append, List.length_append, filter_map_len]
    rw [Cn_filter n, Cn_filter n]
theorem allA_len : ∀ (n : Nat), (allA n).length = 2 ^ n
  | 0 => rfl
  | n + 1 => by simp only [allA, List.length_append, List.length_map, allA_len n]; rw [Nat.pow_succ]; omega
theorem allA_mem : ∀ (n : Nat) (a : List Bool), a ∈ allA n → a.length = n
  | 0, a, h => by simp [allA] at h; subst h; rfl
  | n + 1, a, h => by
    simp only [allA, List.mem_append, List.mem_map] at h
    rcases h with ⟨b, hb, rfl⟩ | ⟨b, hb, rfl⟩ <;> simp [allA_mem n b hb]
theorem mem_allA : ∀ (n : Nat) (a : List Bool), a.length = n → a ∈ allA n
  | 0, a, h => by rw [List.eq_nil_of_length_eq_zero h]; simp [allA]
  | n + 1, [], h => by simp at h
  | n + 1, b :: a, h => by
    have := mem_allA n a (by simpa using h)
    simp only [allA, List.mem_append, List.mem_map]
    cases b
    · exact .inl ⟨a, this, rfl⟩
    · exact .inr ⟨a, this, rfl⟩

theorem assM_zero (k : Nat) : assM 0 k = [] := rfl
theorem assM_succ (n k : Nat) : assM (n + 1) k = k.testBit n :: assM n k := by
  unfold assM
  rw [List.range_succ_eq_map, List.map_cons, List.map_map]
  have h : List.map ((fun j => k.testBit (n + 1 - 1 - j)) ∘ Nat.succ) (List.range n) = List.map (fun j => k.testBit (n - 1 - j)) (List.range n) := by
    apply List.map_congr_left
    intro j hj
    simp only [Function.comp]
    rw [show n + 1 - 1 - (j + 1) = n - 1 - j by omega]
  rw [show (fun j => k.testBit (n + 1 - 1 - j)) ∘ (fun x => x + 1) = (fun j => k.testBit (n + 1 - 1 - j)) ∘ Nat.succ from rfl, h]
  simp
theorem assM_low (n k : Nat) : assM n (2 ^ n + k) = assM n k := by
  unfold assM
  apply List.map_congr_left
  intro j hj
  have hj' := List.mem_range.1 hj
  rw [Nat.testBit_two_pow_add_gt (by omega)]
theorem allA_eq : ∀ (n : Nat), allA n = (List.range (2 ^ n)).map (assM n)
  | 0 => rfl
  | n + 1 => by
    rw [allA, allA_eq n, Nat.pow_succ, Nat.mul_two, List.range_add, List.map_append, List.map_map, List.map_map, List.map_map]
    congr 1
    · apply List.map_congr_left
      intro k hk
      have hk' := List.mem_range.1 hk
      simp only [Function.comp]
      rw [assM_succ, Nat.testBit_lt_two_pow hk']
    · apply List.map_congr_left
      intro k hk
      have hk' := List.mem_range.1 hk
      simp only [Function.comp]
      rw [assM_succ, assM_low, Nat.testBit_two_pow_add_eq, Nat.testBit_lt_two_pow hk']
      rfl

theorem Cn_ext : ∀ (n : Nat) (f g : List Bool → Bool), (∀ a, a.length = n → f a = g a) → Cn n f = Cn n g
  | 0, f, g, h => by simp only [Cn]; rw [h [] rfl]
  | n + 1, f, g, h => by
    simp only [Cn]
    rw [Cn_ext n _ (fun a => g (false :: a)) fun a ha => h _ (by simp [ha]), Cn_ext n _ (fun a => g (true :: a)) fun a ha => h _ (by simp [ha])]
theorem Cn_le : ∀ (n : Nat) (f : List Bool → Bool), Cn n f ≤ 2 ^ n
  | 0, f => by simp only [Cn]; cases f [] <;> simp
  | n + 1, f => by
    have h1 := Cn_le n fun a => f (false :: a)
    have h2 := Cn_le n fun a => f (true :: a)
    simp only [Cn, Nat.pow_succ]
    omega
theorem Cn_true : ∀ (n : Nat), Cn n (fun _ => true) = 2 ^ n
  | 0 => rfl
  | n + 1 => by simp only [Cn, Cn_true n, Nat.pow_succ]; omega
theorem Cn_false : ∀ (n : Nat), Cn n (fun _ => false) = 0
  | 0 => rfl
  | n + 1 => by simp only [Cn, Cn_false n]
/-- a and not a -/
theorem Cn_split : ∀ (n : Nat) (f g : List Bool → Bool), Cn n f = Cn n (fun a => f a && g a) + Cn n (fun a => f a && !g a)
  | 0, f, g => by simp only [Cn]; cases f [] <;> cases g [] <;> rfl
  | n + 1, f, g => by
    have h1 := Cn_split n (fun a => f (false :: a)) (fun a => g (false :: a))
    have h2 := Cn_split n (fun a => f (true :: a)) (fun a => g (true :: a))
    simp only [Cn]
    omega

/-- f looks only at the places in S -/
def DepOn (S : Nat → Prop) (n : Nat) (f : List Bool → Bool) : Prop := ∀ a b, a.length = n → b.length = n → (∀ i, S i → a.getD i false = b.getD i false) → f a = f b
theorem DepOn.tail {S : Nat → Prop} {n : Nat} {f : List Bool → Bool} (h : DepOn S (n + 1) f) (x : Bool) : DepOn (fun i => S (i + 1)) n (fun a => f (x :: a)) := fun a b ha hb hi =>
  h _ _ (by simp [ha]) (by simp [hb]) fun i hs => by
    cases i with
    | zero => rfl
    | succ i => exact hi i hs
theorem DepOn.head {S : Nat → Prop} {n : Nat} {f : List Bool → Bool} (h : DepOn S (n + 1) f) (h0 : ¬ S 0) (a : List Bool) (ha : a.length = n) : f (false :: a) = f (true :: a) :=
  h _ _ (by simp [ha]) (by simp [ha]) fun i hs => by
    cases i with
    | zero => exact absurd hs h0
    | succ i => rfl
theorem DepOn.mono {S T : Nat → Prop} {n : Nat} {f : List Bool → Bool} (h : DepOn S n f) (hst : ∀ i, S i → T i) : DepOn T n f := fun a b ha hb hi => h a b ha hb fun i hs => hi i (hst i hs)

theorem Cn_and : ∀ (n : Nat) (f g : List Bool → Bool) (S T : Nat → Prop), DepOn S n f → DepOn T n g → (∀ i, S i → T i → False) → Cn n (fun a => f a && g a) * 2 ^ n = Cn n f * Cn n g
  | 0, f, g, _, _, _, _, _ => by simp only [Cn]; cases f [] <;> cases g [] <;> rfl
  | n + 1, f, g, S, T, hf, hg, hd => by
    have h0 := Cn_and n _ _ _ _ (hf.tail false) (hg.tail false) (fun i => hd (i + 1))
    have h1 := Cn_and n _ _ _ _ (hf.tail true) (hg.tail true) (fun i => hd (i + 1))
    simp only [Cn, Nat.pow_succ]
    by_cases hs : S 0
    · have e := Cn_ext n _ _ (hg.head fun ht => hd 0 hs ht)
      rw [← e] at h1 ⊢
      rw [← Nat.mul_assoc, Nat.add_mul, h0, h1, ← Nat.add_mul, Nat.mul_assoc, Nat.mul_two]
    · have e := Cn_ext n _ _ (hf.head hs)
      rw [← e] at h1 ⊢
      rw [← Nat.mul_assoc, Nat.add_mul, h0, h1, ← Nat.mul_add, Nat.mul_right_comm, Nat.mul_two]
theorem Cn_ite : ∀ (n v : Nat) (f g : List Bool → Bool) (S : Nat → Prop), v < n → DepOn S n f → DepOn S n g → ¬ S v → 2 * Cn n (fun a => if a.getD v false = true then g a else f a) = Cn n f + Cn n g
  | 0, v, _, _, _, h, _, _, _ => by omega
  | n + 1, 0, f, g, S, _, hf, hg, hs => by
    have e1 := Cn_ext n _ _ (hf.head hs)
    have e2 := Cn_ext n _ _ (hg.head hs)
    simp only [Cn, List.getD_cons_zero]
    simp only [Bool.false_eq_true, if_false, if_true]
    rw [← e1, ← e2]
    omega
  | n + 1, v + 1, f, g, S, h, hf, hg, hs => by
    have h0 := Cn_ite n v _ _ _ (by omega) (hf.tail false) (hg.tail false) hs
    have h1 := Cn_ite n v _ _ _ (by omega) (hf.tail true) (hg.tail true) hs
    simp only [Cn, List.getD_cons_succ]
    omega
theorem Cn_var (n v : Nat) (b : Bool) (h : v < n) : Cn n (fun a => a.getD v false == b) = 2 ^ (n - 1) := by
  have h1 := Cn_ite n v (fun _ => false == b) (fun _ => true == b) (fun _ => False) h (fun _ _ _ _ _ => rfl) (fun _ _ _ _ _ => rfl) (fun h => h)
  have h2 : Cn n (fun a => a.getD v false == b) = Cn n (fun a => if a.getD v false = true then (true == b) else (false == b)) := Cn_ext n _ _ fun a _ => by
    cases a.getD v false <;> rfl
  rw [h2]
  have h3 : Cn n (fun _ => false == b) + Cn n (fun _ => true == b) = 2 ^ n := by
    cases b <;> simp [Cn_true, Cn_false]
  obtain ⟨m, rfl⟩ : ∃ m, n = m + 1 := ⟨n - 1, by omega⟩
  rw [Nat.pow_succ] at h3
  simp only [Nat.add_sub_cancel]
  omega
end Go.Proofs.Ytljljagkccmogaa
