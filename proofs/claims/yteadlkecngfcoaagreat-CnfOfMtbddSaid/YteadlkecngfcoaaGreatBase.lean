/- Reading predicates on worlds, and laws for slices that a call makes itself. No condition: these are lemmas that the walks of this seat share. -/
import Derived.WalkKit
import Derived.ProofKit
import Derived.Lib.Hide
import Derived.Maps.AppendAt
namespace Go.Proofs.YteadlkecngfcoaaGreat
open Go.RowKit

def I64 (n : Int) : Prop := -9223372036854775808 ≤ n ∧ n ≤ 9223372036854775807

/-- a slice of one-cell elements: the j-th holds us[j]; its block satisfies F -/
def Sl1 (F : Nat → Prop) (w : World) (v : Value) (us : List Value) : Prop :=
  ∃ a cap, v = .slice a us.length cap ∧ us.length ≤ 9223372036854775807 ∧ ∀ j u, us[j]? = some u → ∃ b off, a = some ⟨b, off, none⟩ ∧ F b ∧ w.cell? ⟨b, off + j, none⟩ = some u

/-- a slice of elements of three cells -/
def Sl3 (F : Nat → Prop) (w : World) (v : Value) (us : List (Value × Value × Value)) : Prop :=
  ∃ a cap, v = .slice a us.length cap ∧ us.length ≤ 9223372036854775807 ∧ ∀ j u, us[j]? = some u → ∃ b off, a = some ⟨b, off, none⟩ ∧ F b ∧
    w.cell? ⟨b, off + j * 3, none⟩ = some u.1 ∧ w.cell? ⟨b, off + j * 3 + 1, none⟩ = some u.2.1 ∧ w.cell? ⟨b, off + j * 3 + 2, none⟩ = some u.2.2

theorem drop_cons {α : Type} {xs : List α} {k : Nat} {x : α} {r : List α} (h : xs.drop k = x :: r) : xs[k]? = some x ∧ xs.drop (k + 1) = r ∧ k < xs.length := by
  have h1 : (xs.drop k)[0]? = some x := by rw [h]; rfl
  have h2 : (xs.drop k).drop 1 = r := by rw [h]; rfl
  rw [List.getElem?_drop] at h1
  rw [List.drop_drop] at h2
  have h3 : k < xs.length := by
    by_cases hk : k < xs.length
    · exact hk
    · rw [List.getElem?_eq_none (by omega)] at h1; cases h1
  exact ⟨h1, h2, h3⟩

theorem drop_nil {α : Type} {xs : List α} {k : Nat} (h : xs.drop k = []) : xs.length ≤ k := by
  have := congrArg List.length h
  simp at this
  omega

theorem block_lt {w : World} {b o : Nat} {v : Value} (h : w.cell? ⟨b, o, none⟩ = some v) : b < w.heap.size := World.block_lt_of_cell? w _ h

theorem cell_alloc {w : World} {p : Addr} {v : Value} (o : Obj) (h : w.cell? p = some v) : (w.alloc o).cell? p = some v :=
  (World.cell?_of_block (Below.heap_alloc w o p.block (World.block_lt_of_cell? w p h))).trans h

/-- all old cells and marks read as before: as rules for the walk -/
theorem bcell {W w1 : World} (hb : Below W.heap.size W w1) : (∀ b o, b < W.heap.size → w1.cell? ⟨b, o, none⟩ = W.cell? ⟨b, o, none⟩) ∧ (∀ b o, b < W.heap.size → w1.frozen? ⟨b, o, none⟩ = W.frozen? ⟨b, o, none⟩) :=
  ⟨fun b o h => hb.cell (p := ⟨b, o, none⟩) h, fun b o h => hb.frozen (p := ⟨b, o, none⟩) h⟩

theorem below_c {B : Nat} {w w' : World} (h : Below B w w') {b o : Nat} {v : Value} (hb : b < B) (hv : w.cell? ⟨b, o, none⟩ = some v) : w'.cell? ⟨b, o, none⟩ = some v := (h.cell (p := ⟨b, o, none⟩) hb).trans hv
theorem below_z {B : Nat} {w w' : World} (h : Below B w w') {b o : Nat} (hb : b < B) (hv : w.frozen? ⟨b, o, none⟩ = false) : w'.frozen? ⟨b, o, none⟩ = false := (h.frozen (p := ⟨b, o, none⟩) hb).trans hv

theorem set_ne {w : World} {b o b' o' : Nat} {u v : Value} (hne : b' ≠ b ∨ o' ≠ o) (h : w.cell? ⟨b, o, none⟩ = some v) : (w.setCell ⟨b', o', none⟩ u).cell? ⟨b, o, none⟩ = some v := by
  rw [World.cell?_setCell_other]
  · exact h
  · intro e; injection e with e1 e2; omega
theorem set_eq {w : World} {b o : Nat} {u v : Value} (h : w.cell? ⟨b, o, none⟩ = some v) : (w.setCell ⟨b, o, none⟩ u).cell? ⟨b, o, none⟩ = some u := World.cell?_setCell_same _ _ _ h
theorem own_below {w w' : World} {base : Nat} {e : TypeId} {size : Nat} {v : Value} {n : Nat} {xs : List Value} (h : w.ownsRow base e size v n xs) (hb : Below w.heap.size w w') : w'.ownsRow base e size v n xs :=
  h.kept (row := none) ⟨hb.os, hb.tape, hb.output, hb.size, fun i hi _ => hb.block i hi⟩ (by cases h : v.ownBlock <;> simp)

section sl1
variable {F G : Nat → Prop} {w w' : World} {v : Value} {us : List Value}

theorem Sl1.mono (h : Sl1 F w v us) (hg : ∀ b, F b → G b) : Sl1 G w v us := by
  obtain ⟨a, cap, rfl, hl, hc⟩ := h
  exact ⟨a, cap, rfl, hl, fun j u hu => let ⟨b, off, h1, h2, h3⟩ := hc j u hu; ⟨b, off, h1, hg b h2, h3⟩⟩

/-- the blocks of a reading exist -/
theorem Sl1.lt (h : Sl1 F w v us) : Sl1 (fun b => F b ∧ b < w.heap.size) w v us := by
  obtain ⟨a, cap, rfl, hl, hc⟩ := h
  exact ⟨a, cap, rfl, hl, fun j u hu => let ⟨b, off, h1, h2, h3⟩ := hc j u hu; ⟨b, off, h1, ⟨h2, block_lt h3⟩, h3⟩⟩

theorem Sl1.move (h : Sl1 F w v us) (hm : ∀ b, F b → b < w.heap.size → w'.heap[b]? = w.heap[b]?) : Sl1 F w' v us := by
  obtain ⟨a, cap, rfl, hl, hc⟩ := h
  exact ⟨a, cap, rfl, hl, fun j u hu => let ⟨b, off, h1, h2, h3⟩ := hc j u hu; ⟨b, off, h1, h2, (World.cell?_of_block (hm b h2 (block_lt h3))).trans h3⟩⟩

theorem Sl1.below (h : Sl1 F w v us) (hb : Below w.heap.size w w') : Sl1 F w' v us := h.move fun b _ hlt => hb.block b hlt

theorem Sl1.len {a : Option Addr} {n cap : Nat} (h : Sl1 F w (.slice a n cap) us) : n = us.length ∧ n ≤ 9223372036854775807 := by
  obtain ⟨a', cap', he, hl, hc⟩ := h
  injection he with h1 h2 h3
  subst h2
  exact ⟨rfl, hl⟩

theorem Sl1.at {a : Option Addr} {n cap k : Nat} {u : Value} (h : Sl1 F w (.slice a n cap) us) (hu : us[k]? = some u) : ∃ b off, a = some ⟨b, off, none⟩ ∧ F b ∧ b < w.heap.size ∧ w.cell? ⟨b, off + k, none⟩ = some u := by
  obtain ⟨a', cap', he, hl, hc⟩ := h
  injection he with h1 h2 h3
  subst h1
  obtain ⟨b, off, h1, h2, h3⟩ := hc k u hu
  exact ⟨b, off, h1, h2, block_lt h3, h3⟩

theorem Sl1.form (h : Sl1 F w v us) : ∃ a cap, v = .slice a us.length cap ∧ us.length ≤ 9223372036854775807 := by
  obtain ⟨a', cap', he, hl, hc⟩ := h
  exact ⟨a', cap', he, hl⟩

theorem Sl1.nil (F : Nat → Prop) (w : World) : Sl1 F w (.slice none 0 0) [] := ⟨none, 0, rfl, by simp, fun j u hu => by simp at hu⟩
end sl1

section sl3
variable {F G : Nat → Prop} {w w' : World} {v : Value} {us : List (Value × Value × Value)}

theorem Sl3.mono (h : Sl3 F w v us) (hg : ∀ b, F b → G b) : Sl3 G w v us := by
  obtain ⟨a, cap, rfl, hl, hc⟩ := h
  exact ⟨a, cap, rfl, hl, fun j u hu => let ⟨b, off, h1, h2, h3⟩ := hc j u hu; ⟨b, off, h1, hg b h2, h3⟩⟩

theorem Sl3.move (h : Sl3 F w v us) (hm : ∀ b, F b → b < w.heap.size → w'.heap[b]? = w.heap[b]?) : Sl3 F w' v us := by
  obtain ⟨a, cap, rfl, hl, hc⟩ := h
  exact ⟨a, cap, rfl, hl, fun j u hu => let ⟨b, off, h1, h2, h3, h4, h5⟩ := hc j u hu
    ⟨b, off, h1, h2, (World.cell?_of_block (hm b h2 (block_lt h3))).trans h3, (World.cell?_of_block (hm b h2 (block_lt h3))).trans h4, (World.cell?_of_block (hm b h2 (block_lt h3))).trans h5⟩⟩

theorem Sl3.below (h : Sl3 F w v us) (hb : Below w.heap.size w w') : Sl3 F w' v us := h.move fun b _ hlt => hb.block b hlt

theorem Sl3.len {a : Option Addr} {n cap : Nat} (h : Sl3 F w (.slice a n cap) us) : n = us.length ∧ n ≤ 9223372036854775807 := by
  obtain ⟨a', cap', he, hl, hc⟩ := h
  injection he with h1 h2 h3
  subst h2
  exact ⟨rfl, hl⟩

theorem Sl3.at {a : Option Addr} {n cap k : Nat} {u : Value × Value × Value} (h : Sl3 F w (.slice a n cap) us) (hu : us[k]? = some u) : ∃ b off, a = some ⟨b, off, none⟩ ∧ F b ∧ b < w.heap.size ∧
    w.cell? ⟨b, off + k * 3, none⟩ = some u.1 ∧ w.cell? ⟨b, off + k * 3 + 1, none⟩ = some u.2.1 ∧ w.cell? ⟨b, off + k * 3 + 2, none⟩ = some u.2.2 := by
  obtain ⟨a', cap', he, hl, hc⟩ := h
  injection he with h1 h2 h3
  subst h1
  obtain ⟨b, off, h1, h2, h3⟩ := hc k u hu
  exact ⟨b, off, h1, h2, block_lt h3.1, h3⟩

theorem Sl3.form (h : Sl3 F w v us) : ∃ a cap, v = .slice a us.length cap ∧ us.length ≤ 9223372036854775807 := by
  obtain ⟨a', cap', he, hl, hc⟩ := h
  exact ⟨a', cap', he, hl⟩

theorem Sl3.nil (F : Nat → Prop) (w : World) : Sl3 F w (.slice none 0 0) [] := ⟨none, 0, rfl, by simp, fun j u hu => by simp at hu⟩
end sl3

/-! ### slices of ints (of a kind), bools -/
def Nums (k : IntKind) (F : Nat → Prop) (w : World) (v : Value) (xs : List Int) : Prop := Sl1 F w v (xs.map (.int k)) ∧ ∀ x ∈ xs, k.min ≤ x ∧ x ≤ k.max
def Ints (F : Nat → Prop) (w : World) (v : Value) (xs : List Int) : Prop := Sl1 F w v (xs.map (.int .i64)) ∧ ∀ x ∈ xs, I64 x
def Bools (F : Nat → Prop) (w : World) (v : Value) (xs : List Bool) : Prop := Sl1 F w v (xs.map .bool)

section ints
variable {F G : Nat → Prop} {w w' : World} {v : Value} {xs : List Int}
theorem Ints.mono (h : Ints F w v xs) (hg : ∀ b, F b → G b) : Ints G w v xs := ⟨h.1.mono hg, h.2⟩
theorem Ints.lt (h : Ints F w v xs) : Ints (fun b => F b ∧ b < w.heap.size) w v xs := ⟨h.1.lt, h.2⟩
theorem Ints.move (h : Ints F w v xs) (hm : ∀ b, F b → b < w.heap.size → w'.heap[b]? = w.heap[b]?) : Ints F w' v xs := ⟨h.1.move hm, h.2⟩
theorem Ints.below (h : Ints F w v xs) (hb : Below w.heap.size w w') : Ints F w' v xs := ⟨h.1.below hb, h.2⟩
theorem Ints.len {a : Option Addr} {n cap : Nat} (h : Ints F w (.slice a n cap) xs) : n = xs.length ∧ n ≤ 9223372036854775807 := by
  have := h.1.len; simpa using this
theorem Ints.form (h : Ints F w v xs) : ∃ a cap, v = .slice a xs.length cap ∧ xs.length ≤ 9223372036854775807 := by
  have := h.1.form; simpa using this
theorem Ints.at {a : Option Addr} {n cap k : Nat} {x : Int} (h : Ints F w (.slice a n cap) xs) (hu : xs[k]? = some x) :
    ∃ b off, a = some ⟨b, off, none⟩ ∧ F b ∧ b < w.heap.size ∧ w.cell? ⟨b, off + k, none⟩ = some (.int .i64 x) ∧ I64 x := by
  obtain ⟨b, off, h1, h2, h3, h4⟩ := h.1.at (k := k) (u := .int .i64 x) (by simp [hu])
  exact ⟨b, off, h1, h2, h3, h4, h.2 x (List.mem_of_getElem? hu)⟩
theorem Ints.form' (h : Ints F w v xs) : ∃ a n cap, v = .slice a n cap ∧ Hid (n = xs.length) ∧ n ≤ 9223372036854775807 := by
  obtain ⟨a, cap, h1, h2⟩ := h.form
  exact ⟨a, _, cap, h1, rfl, h2⟩
theorem Ints.nil (F : Nat → Prop) (w : World) : Ints F w (.slice none 0 0) [] := ⟨Sl1.nil F w, by simp⟩
end ints

section bools
variable {F G : Nat → Prop} {w w' : World} {v : Value} {xs : List Bool}
theorem Bools.mono (h : Bools F w v xs) (hg : ∀ b, F b → G b) : Bools G w v xs := Sl1.mono h hg
theorem Bools.lt (h : Bools F w v xs) : Bools (fun b => F b ∧ b < w.heap.size) w v xs := Sl1.lt h
theorem Bools.move (h : Bools F w v xs) (hm : ∀ b, F b → b < w.heap.size → w'.heap[b]? = w.heap[b]?) : Bools F w' v xs := Sl1.move h hm
theorem Bools.below (h : Bools F w v xs) (hb : Below w.heap.size w w') : Bools F w' v xs := Sl1.below h hb
theorem Bools.len {a : Option Addr} {n cap : Nat} (h : Bools F w (.slice a n cap) xs) : n = xs.length ∧ n ≤ 9223372036854775807 := by
  have := Sl1.len h; simpa using this
theorem Bools.form (h : Bools F w v xs) : ∃ a cap, v = .slice a xs.length cap ∧ xs.length ≤ 9223372036854775807 := by
  have := Sl1.form h; simpa using this
theorem Bools.at {a : Option Addr} {n cap k : Nat} {x : Bool} (h : Bools F w (.slice a n cap) xs) (hu : xs[k]? = some x) :
    ∃ b off, a = some ⟨b, off, none⟩ ∧ F b ∧ b < w.heap.size ∧ w.cell? ⟨b, off + k, none⟩ = some (.bool x) :=
  Sl1.at h (k := k) (u := .bool x) (by simp [hu])
theorem Bools.nil (F : Nat → Prop) (w : World) : Bools F w (.slice none 0 0) [] := Sl1.nil F w
end bools

/-- a slice of uint64 below 2^40 -/
def Nats (F : Nat → Prop) (w : World) (v : Value) (xs : List Nat) : Prop := Sl1 F w v (xs.map fun (x : Nat) => .int .u64 (x : Int)) ∧ ∀ x ∈ xs, x < 1099511627776
section nats
variable {F G : Nat → Prop} {w w' : World} {v : Value} {xs : List Nat}
theorem Nats.mono (h : Nats F w v xs) (hg : ∀ b, F b → G b) : Nats G w v xs := ⟨h.1.mono hg, h.2⟩
theorem Nats.move (h : Nats F w v xs) (hm : ∀ b, F b → b < w.heap.size → w'.heap[b]? = w.heap[b]?) : Nats F w' v xs := ⟨h.1.move hm, h.2⟩
theorem Nats.below (h : Nats F w v xs) (hb : Below w.heap.size w w') : Nats F w' v xs := ⟨h.1.below hb, h.2⟩
theorem Nats.len {a : Option Addr} {n cap : Nat} (h : Nats F w (.slice a n cap) xs) : n = xs.length ∧ n ≤ 9223372036854775807 := by
  have := h.1.len; simpa using this
theorem Nats.form (h : Nats F w v xs) : ∃ a cap, v = .slice a xs.length cap ∧ xs.length ≤ 9223372036854775807 := by
  have := h.1.form; simpa using this
theorem Nats.at {a : Option Addr} {n cap k : Nat} {x : Nat} (h : Nats F w (.slice a n cap) xs) (hu : xs[k]? = some x) :
    ∃ b off, a = some ⟨b, off, none⟩ ∧ F b ∧ b < w.heap.size ∧ w.cell? ⟨b, off + k, none⟩ = some (.int .u64 x) ∧ x < 1099511627776 := by
  obtain ⟨b, off, h1, h2, h3, h4⟩ := h.1.at (k := k) (u := .int .u64 x) (by simp [hu])
  exact ⟨b, off, h1, h2, h3, h4, h.2 x (List.mem_of_getElem? hu)⟩
theorem Nats.nil (F : Nat → Prop) (w : World) : Nats F w (.slice none 0 0) [] := ⟨Sl1.nil F w, by simp⟩
end nats

/-! ### slices of slices -/
/-- a slice whose elements are slices that read by R -/
def Rows1 {α : Type} (R : (Nat → Prop) → World → Value → α → Prop) (F : Nat → Prop) (w : World) (v : Value) (xs : List α) : Prop :=
  ∃ us : List Value, Sl1 F w v us ∧ us.length = xs.length ∧ ∀ (j : Nat) u x, us[j]? = some u → xs[j]? = some x → R F w u x

section rows1
variable {α : Type} {R : (Nat → Prop) → World → Value → α → Prop} {F G : Nat → Prop} {w w' : World} {v : Value} {xs : List α}
theorem Rows1.mono (hR : ∀ F G w v x, R F w v x → (∀ b, F b → G b) → R G w v x) (h : Rows1 R F w v xs) (hg : ∀ b, F b → G b) : Rows1 R G w v xs := by
  obtain ⟨us, h1, h2, h3⟩ := h
  exact ⟨us, h1.mono hg, h2, fun j u x hu hx => hR _ _ _ _ _ (h3 j u x hu hx) hg⟩
theorem Rows1.move (hR : ∀ F w w' v x, R F w v x → (∀ b, F b → b < w.heap.size → w'.heap[b]? = w.heap[b]?) → R F w' v x) (h : Rows1 R F w v xs) (hm : ∀ b, F b → b < w.heap.size → w'.heap[b]? = w.heap[b]?) : Rows1 R F w' v xs := by
  obtain ⟨us, h1, h2, h3⟩ := h
  exact ⟨us, h1.move hm, h2, fun j u x hu hx => hR _ _ _ _ _ (h3 j u x hu hx) hm⟩
theorem Rows1.len {a : Option Addr} {n cap : Nat} (h : Rows1 R F w (.slice a n cap) xs) : n = xs.length ∧ n ≤ 9223372036854775807 := by
  obtain ⟨us, h1, h2, h3⟩ := h
  rw [← h2]; exact h1.len
theorem Rows1.form (h : Rows1 R F w v xs) : ∃ a cap, v = .slice a xs.length cap ∧ xs.length ≤ 9223372036854775807 := by
  obtain ⟨us, h1, h2, h3⟩ := h
  rw [← h2]; exact h1.form
theorem Rows1.at {a : Option Addr} {n cap k : Nat} {x : α} (h : Rows1 R F w (.slice a n cap) xs) (hx : xs[k]? = some x) :
    ∃ b off u, a = some ⟨b, off, none⟩ ∧ F b ∧ b < w.heap.size ∧ w.cell? ⟨b, off + k, none⟩ = some u ∧ R F w u x := by
  obtain ⟨us, h1, h2, h3⟩ := h
  have hk : k < us.length := by rw [h2]; exact (List.getElem?_eq_some_iff.1 hx).1
  obtain ⟨b, off, e1, e2, e3, e4⟩ := h1.at (List.getElem?_eq_getElem hk)
  exact ⟨b, off, _, e1, e2, e3, e4, h3 k _ x (List.getElem?_eq_getElem hk) hx⟩
theorem Rows1.nil (F : Nat → Prop) (w : World) : Rows1 R F w (.slice none 0 0) [] := ⟨[], Sl1.nil F w, rfl, by simp⟩
end rows1

/-! ### blocks that are written out -/
theorem new_at (w : World) (o : Obj) : (w.alloc o).heap[w.heap.size]? = some o := by show (w.heap.push o)[w.heap.size]? = _; simp
theorem new_at' (w : World) (o : Obj) {n : Nat} (h : n = w.heap.size) : (w.alloc o).heap[n]? = some o := by subst h; exact new_at w o
theorem old_at (w : World) (o x : Obj) {n : Nat} (h : w.heap[n]? = some x) : (w.alloc o).heap[n]? = some x := (Below.heap_alloc w o n (Array.getElem?_eq_some_iff.1 h).1).trans h

theorem sl1_block {w : World} {b : Nat} {arr : Array Value} {T : TypeId} {fr : Nat × Nat} (us : List Value) (cap : Nat) (h : w.heap[b]? = some (.cells arr T fr)) (hl : us.length ≤ 9223372036854775807)
    (harr : ∀ (j : Nat) u, us[j]? = some u → arr[j]? = some u) : Sl1 (fun c => c = b) w (.slice (some ⟨b, 0, none⟩) us.length cap) us := by
  refine ⟨_, _, rfl, hl, fun j u hu => ⟨b, 0, rfl, rfl, ?_⟩⟩
  rw [cell_of_row w b _ arr T fr h, Nat.zero_add]
  exact harr j u hu
theorem sl3_block {w : World} {b : Nat} {arr : Array Value} {T : TypeId} {fr : Nat × Nat} (us : List (Value × Value × Value)) (cap : Nat) (h : w.heap[b]? = some (.cells arr T fr)) (hl : us.length ≤ 9223372036854775807)
    (harr : ∀ (j : Nat) u, us[j]? = some u → arr[j * 3]? = some u.1 ∧ arr[j * 3 + 1]? = some u.2.1 ∧ arr[j * 3 + 2]? = some u.2.2) : Sl3 (fun c => c = b) w (.slice (some ⟨b, 0, none⟩) us.length cap) us := by
  refine ⟨_, _, rfl, hl, fun j u hu => ⟨b, 0, rfl, rfl, ?_⟩⟩
  rw [cell_of_row w b _ arr T fr h, cell_of_row w b _ arr T fr h, cell_of_row w b _ arr T fr h, Nat.zero_add]
  exact harr j u hu
theorem ints_block {w : World} {b : Nat} {arr : Array Value} {T : TypeId} {fr : Nat × Nat} (xs : List Int) (cap : Nat) (h : w.heap[b]? = some (.cells arr T fr)) (hl : xs.length ≤ 9223372036854775807)
    (harr : arr = (xs.map (.int .i64)).toArray) (hx : ∀ x ∈ xs, I64 x) : Ints (fun c => c = b) w (.slice (some ⟨b, 0, none⟩) xs.length cap) xs := by
  have := sl1_block (xs.map (.int .i64)) cap h (by simpa using hl) (fun j u hu => by rw [harr]; simpa using hu)
  simp only [List.length_map] at this
  exact ⟨this, hx⟩

/-! ### what a call owns -/
theorem ownsRow_sl1 {w : World} {base : Nat} {e : TypeId} {v : Value} {n : Nat} {us : List Value} (h : w.ownsRow base e 1 v n us) (hn : n ≤ 9223372036854775807) :
    Sl1 (fun b => base ≤ b ∧ v.ownBlock = some b) w v us := by
  have hl : us.length = n := by simpa using h.1
  have hc := fun g hg => h.cells (g := g) hg
  have hlt := h.lt
  rcases h.2 with ⟨rfl, rfl⟩ | ⟨g, cap, cur, rfl, hb, _⟩
  · have : us = [] := List.eq_nil_of_length_eq_zero hl
    subst this
    exact Sl1.nil _ _
  · refine ⟨some ⟨g, 0, none⟩, cap, by rw [hl], by omega, fun j u hu => ⟨g, 0, rfl, ⟨hb, rfl⟩, ?_⟩⟩
    have := hc g rfl j u hu
    have hadd : (⟨g, 0, none⟩ : Addr).add j = ⟨g, 0 + j, none⟩ := by unfold Addr.add; split <;> simp_all
    rw [hadd] at this
    exact this

section push
variable {P : Program} {ops : Array Oper} {rest : List Oper} {o : Oper} {a : Act} {Q : Exit → Act → World → Prop}

/-- append of one element of one cell, which has just been laid in a block of its own -/
theorem wpList_push1 (hgd : o.guard = none) (s x : Operand) (t : TypeId)
    (ho : o.op = .call { callee := .builtin .append, args := #[s, x], argTypes := #[t, t] })
    (E : TypeId) (z : Value) (bytes : Nat) (ht : P.underlying t = some (.slice E)) (hinfo : (P.info? E).map (fun i => (i.zero, i.size, i.bytes)) = some (some z, 1, bytes)) (hz1 : z.cells.size = 1)
    (base : Nat) (v : Value) (n : Nat) (xs : List Value) (w0 : World) (u : Value)
    (hs : a.eval s = v) (hx : a.eval x = .slice (some ⟨w0.heap.size, 0, none⟩) 1 1) (hown : w0.ownsRow base E 1 v n xs) (hu : u.oneCell' = true)
    (hn : (n + 1) * bytes ≤ 140737488355328) (hby : 1 ≤ bytes) (hbase : base ≤ w0.heap.size)
    (h : ∀ (g cap' : Nat) w', w'.ownsRow base E 1 (.slice (some ⟨g, 0, none⟩) (n + 1) cap') (n + 1) (xs ++ [u]) → w0.grownBy w' v.ownBlock → w0.heap.size < w'.heap.size → base ≤ g → g < w'.heap.size → (v.ownBlock = some g ∨ w0.heap.size ≤ g) → wpList P ops Q rest (a.put o.dst (.slice (some ⟨g, 0, none⟩) (n + 1) cap')) w') :
    wpList P ops Q (o :: rest) a (w0.alloc (.cells #[u] E)) := by
  obtain ⟨i, hi, hz, h1, h2⟩ := info_parts hinfo
  have hle : n + 1 ≤ (n + 1) * bytes := Nat.le_mul_of_pos_right _ hby
  refine wpList_append_own_at _ hgd s x t ho base E i z 1 bytes ht hi hz h1 h2 hz1 (by decide) v n xs hs (hown.alloc _) ⟨w0.heap.size, 0, none⟩ 1 1 [u] hx rfl ?_ ?_ ?_ hn ?_ ?_
  · intro j y hj
    match j, hj with
    | 0, hj => simp at hj; subst hj; simp [Addr.add]
  · intro y hy; simp at hy; subst hy; exact hu
  · unfold maxLen; omega
  · simp; omega
  · intro v' w' hown' hg _ hat
    rcases hown'.2 with ⟨_, h0⟩ | ⟨g, cap', cur, rfl, hb, hh, _⟩
    · omega
    refine h g cap' w' hown' ⟨hg.os, hg.tape, hg.output, ?_, ?_⟩ ?_ hb (Array.getElem?_eq_some_iff.1 hh).1 ?_
    · have := hg.size; simp at this; omega
    · intro k hk hne
      rw [hg.block k (by simp; omega) hne]
      exact Below.heap_alloc w0 _ k hk
    · have := hg.size; simp at this; omega
    · rcases hat with h | h
      · exact .inl h.symm
      · right; simp [Value.ownBlock] at h; omega
end push

theorem made_bools (n : Nat) : (madeCells (Value.cells (.bool false)) (n * 1)).toList = (List.replicate n false).map .bool := by
  apply List.ext_getElem?
  intro i
  by_cases h : i < n <;> simp [madeCells, Value.cells, h, Nat.mod_one]

/-- the six ways of a kind, as the walk's tests -/
theorem kind6 (k : Int) :
    ((k == 0) = true ∧ (k == 1) = false ∧ (k == 2) = false ∧ (k == 3) = false ∧ (k == 4) = false ∧ (k != 3) = true ∧ (k != 4) = true) ∨
    ((k == 0) = false ∧ (k == 1) = true ∧ (k == 2) = false ∧ (k == 3) = false ∧ (k == 4) = false ∧ (k != 3) = true ∧ (k != 4) = true) ∨
    ((k == 0) = false ∧ (k == 1) = false ∧ (k == 2) = true ∧ (k == 3) = false ∧ (k == 4) = false ∧ (k != 3) = true ∧ (k != 4) = true) ∨
    ((k == 0) = false ∧ (k == 1) = false ∧ (k == 2) = false ∧ (k == 3) = true ∧ (k == 4) = false ∧ (k != 3) = false ∧ (k != 4) = true) ∨
    ((k == 0) = false ∧ (k == 1) = false ∧ (k == 2) = false ∧ (k == 3) = false ∧ (k == 4) = true ∧ (k != 3) = true ∧ (k != 4) = false) ∨
    ((k == 0) = false ∧ (k == 1) = false ∧ (k == 2) = false ∧ (k == 3) = false ∧ (k == 4) = false ∧ (k != 3) = true ∧ (k != 4) = true) := by
  simp only [beq_iff_eq, beq_eq_false_iff_ne, bne_iff_ne, bne_eq_false_iff_eq, ne_eq]
  omega

/-- a place of a row that the call owns -/
theorem own_at {α : Type} (c : α → Value) {w : World} {base : Nat} {e : TypeId} {g n cap v : Nat} {ms : List α} (h : w.ownsRow base e 1 (.slice (some ⟨g, 0, none⟩) n cap) n (ms.map c)) (hv : v < n) :
    ∃ x, ms[v]? = some x ∧ w.cell? ⟨g, v, none⟩ = some (c x) ∧ w.frozen? ⟨g, v, none⟩ = false ∧ base ≤ g ∧ g < w.heap.size ∧
      ∀ u : α, (w.setCell ⟨g, v, none⟩ (c u)).ownsRow base e 1 (.slice (some ⟨g, 0, none⟩) n cap) n ((ms.set v u).map c) := by
  have hl : ms.length = n := by simpa using h.1
  have h1 := h.cellAt v (by omega)
  have hlt := h.lt g rfl
  refine ⟨ms[v], List.getElem?_eq_getElem (by omega), ?_, h.frozenAt v, hlt.1, hlt.2, fun u => ?_⟩
  · rw [h1, List.getElem?_map, List.getElem?_eq_getElem (by omega)]; rfl
  · have := (h.stored v (c u)).1
    rwa [← List.map_set] at this

theorem own_any {α : Type} (c : α → Value) {w : World} {base : Nat} {e : TypeId} {val : Value} {n v : Nat} {ms : List α} (h : w.ownsRow base e 1 val n (ms.map c)) (hv : v < n) :
    ∃ g cap x, val = .slice (some ⟨g, 0, none⟩) n cap ∧ ms[v]? = some x ∧ w.cell? ⟨g, v, none⟩ = some (c x) ∧ base ≤ g ∧ g < w.heap.size := by
  rcases h.2 with ⟨_, h0⟩ | ⟨g, cap, cur, rfl, _⟩
  · omega
  · obtain ⟨x, h1, h2, _, h4, h5, _⟩ := own_at c h hv
    exact ⟨g, cap, x, rfl, h1, h2, h4, h5⟩

theorem bool2 (b : Bool) : b = true ∨ b = false := by cases b <;> simp
/-- a slice of slices of bools that the call owns: its rows lie elsewhere -/
def RowsOwn (w : World) (base : Nat) (e : TypeId) (v : Value) (n : Nat) (mss : List (List Bool)) : Prop :=
  ∃ us, w.ownsRow base e 1 v n us ∧ us.length = mss.length ∧ ∀ (j : Nat) u m, us[j]? = some u → mss[j]? = some m → Bools (fun b => v.ownBlock ≠ some b) w u m
theorem RowsOwn.nil (w : World) (base : Nat) (e : TypeId) : RowsOwn w base e (.slice none 0 0) 0 [] := ⟨[], World.ownsRow_nil _ _ _ _, rfl, by simp⟩
theorem RowsOwn.rows1 {w : World} {base : Nat} {e : TypeId} {v : Value} {n : Nat} {mss : List (List Bool)} (h : RowsOwn w base e v n mss) (hn : n ≤ 9223372036854775807) : Rows1 Bools (fun _ => True) w v mss := by
  obtain ⟨us, h1, h2, h3⟩ := h
  exact ⟨us, (ownsRow_sl1 h1 hn).mono fun _ _ => trivial, h2, fun j u m hu hm => (h3 j u m hu hm).mono fun _ _ => trivial⟩
theorem RowsOwn.below {w w' : World} {base : Nat} {e : TypeId} {v : Value} {n : Nat} {mss : List (List Bool)} (h : RowsOwn w base e v n mss) (hb : Below w.heap.size w w') : RowsOwn w' base e v n mss := by
  obtain ⟨us, h1, h2, h3⟩ := h
  exact ⟨us, own_below h1 hb, h2, fun j u m hu hm => (h3 j u m hu hm).below hb⟩
theorem RowsOwn.lt {w : World} {base : Nat} {e : TypeId} {v : Value} {n : Nat} {mss : List (List Bool)} (h : RowsOwn w base e v n mss) : ∀ k, v.ownBlock = some k → k < w.heap.size := by
  obtain ⟨us, h1, _⟩ := h
  exact fun k hk => (h1.lt k hk).2
theorem RowsOwn.push {w w' : World} {base : Nat} {e : TypeId} {v : Value} {n g cap : Nat} {mss : List (List Bool)} {us : List Value} {rv : Value} {m : List Bool}
    (h2 : us.length = mss.length) (h3 : ∀ (j : Nat) u m, us[j]? = some u → mss[j]? = some m → Bools (fun b => v.ownBlock ≠ some b) w u m) (hr : Bools (fun b => v.ownBlock ≠ some b) w rv m)
    (hown : w'.ownsRow base e 1 (.slice (some ⟨g, 0, none⟩) (n + 1) cap) (n + 1) (us ++ [rv])) (hg : w.grownBy w' v.ownBlock) (hat : v.ownBlock = some g ∨ w.heap.size ≤ g) :
    RowsOwn w' base e (.slice (some ⟨g, 0, none⟩) (n + 1) cap) (n + 1) (mss ++ [m]) := by
  have mv : ∀ u m, Bools (fun b => v.ownBlock ≠ some b) w u m → Bools (fun b => (Value.slice (some ⟨g, 0, none⟩) (n + 1) cap).ownBlock ≠ some b) w' u m := by
    intro u m hu
    refine (hu.lt.move (w' := w') fun b hb hlt => hg.block b hlt (fun e => hb.1 e.symm)).mono fun b hb => ?_
    simp only [Value.ownBlock]
    intro e
    injection e with e
    subst e
    rcases hat with h | h
    · exact hb.1 h
    · omega
  refine ⟨_, hown, by simp [h2], fun j u x hu hx => ?_⟩
  rcases Nat.lt_or_ge j us.length with hj | hj
  · rw [List.getElem?_append_left hj] at hu
    rw [List.getElem?_append_left (by omega)] at hx
    exact mv u x (h3 j u x hu hx)
  · rw [List.getElem?_append_right hj] at hu
    rw [List.getElem?_append_right (by omega)] at hx
    rw [h2] at hu
    rcases hk : j - mss.length with _ | k
    · rw [hk] at hu hx
      simp at hu hx
      subst hu hx
      exact mv rv m hr
    · rw [hk] at hu
      simp at hu
theorem push_ints {w : World} {base : Nat} {e : TypeId} {v : Value} {n : Nat} {xs : List Int} {x : Int} (h : w.ownsRow base e 1 v n (xs.map (.int .i64) ++ [.int .i64 x])) : w.ownsRow base e 1 v n ((xs ++ [x]).map (.int .i64)) := by simpa using h
theorem grown_below {w w' : World} {base : Nat} {e : TypeId} {v : Value} {n : Nat} {us : List Value} (hg : w.grownBy w' v.ownBlock) (hb : base ≤ w.heap.size) (hown : w.ownsRow base e 1 v n us) : Below base w w' :=
  (Below.refl _ _).grown hg hb fun k hk => (hown.lt k hk).1
end Go.Proofs.YteadlkecngfcoaaGreat
