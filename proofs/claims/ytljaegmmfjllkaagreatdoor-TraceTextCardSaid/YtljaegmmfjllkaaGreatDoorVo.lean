/- (Trace seat) Walk of layer 34's worked example. No condition. -/
import Derived.Test.YtljaegmmfjllkaaGreatDoorVm
namespace Go.Proofs.YtljaegmmfjllkaaGreatDoor
open Go.ChangeShapes Go.WideShapes Go.ChangeAt Go.RowKit
set_option linter.unusedVariables false

/-! ### the numbers -/
def exT (n : Int) : List Claim := [⟨[], 0, 0, [], 1⟩, ⟨[[2]], 2, 2, [0], 1⟩, ⟨[[1, 2]], 3, 1, [1, 0], n⟩]
theorem occ0 : occM [] = [] := (occ_eq (by simp [Strict]) (by simp [mags])).symm
theorem occ1 : occM [[2]] = [2] := (occ_eq (by simp [Strict]) (by simp [mags, magsC, varM, magR])).symm
theorem occ2 : occM [[1, 2]] = [1, 2] := (occ_eq (by simp [Strict, cmpM]) (by simp [mags, magsC, varM, magR])).symm
theorem ex_kids (n : Int) : kidsM (exT n) ⟨[[1, 2]], 3, 1, [1, 0], n⟩ = [⟨[[2]], 2, 2, [0], 1⟩, ⟨[], 0, 0, [], 1⟩] := rfl
theorem ex_kids1 (n : Int) : kidsM (exT n) ⟨[[2]], 2, 2, [0], 1⟩ = [⟨[], 0, 0, [], 1⟩] := rfl
theorem ex_cc0 : ccM 2 (exT 3) 0 = 0 := by
  unfold ccM
  simp only [show (exT 3).getD (0 : Int).toNat clNil = ⟨[], 0, 0, [], 1⟩ from rfl, occ0]
  decide +kernel
theorem ex_cc1 : ccM 2 (exT 3) 1 = 0 := by
  unfold ccM
  simp only [show (exT 3).getD (1 : Int).toNat clNil = ⟨[[2]], 2, 2, [0], 1⟩ from rfl, occ1, ex_kids1]
  unfold folM unitM liftM
  simp only [show ([⟨[], 0, 0, [], 1⟩] : List Claim).getD 0 clNil = ⟨[], 0, 0, [], 1⟩ from rfl, occ0]
  decide +kernel
theorem fol3 (n : Int) : folM 2 ⟨[[1, 2]], 3, 1, [1, 0], n⟩ [⟨[[2]], 2, 2, [0], 1⟩, ⟨[], 0, 0, [], 1⟩] [1, 2] = (n == 3) := by
  unfold folM decM liftM
  simp only [show ([⟨[[2]], 2, 2, [0], 1⟩, ⟨[], 0, 0, [], 1⟩] : List Claim).getD 0 clNil = ⟨[[2]], 2, 2, [0], 1⟩ from rfl, show ([⟨[[2]], 2, 2, [0], 1⟩, ⟨[], 0, 0, [], 1⟩] : List Claim).getD 1 clNil = ⟨[], 0, 0, [], 1⟩ from rfl, occ0, occ1]
  rw [show resB ⟨[[1, 2]], 3, 1, [1, 0], n⟩ [⟨[[2]], 2, 2, [0], 1⟩, ⟨[], 0, 0, [], 1⟩] 0 (-varK 1 [1, 2]) = true by unfold resB; show ([[2]] == resM [[1, 2]] (-varK 1 [1, 2])) = true; decide +kernel, show resB ⟨[[1, 2]], 3, 1, [1, 0], n⟩ [⟨[[2]], 2, 2, [0], 1⟩, ⟨[], 0, 0, [], 1⟩] 1 (varK 1 [1, 2]) = true by unfold resB; show ([] == resM [[1, 2]] (varK 1 [1, 2])) = true; decide +kernel]
  rw [show dblM (lostM (varK 1 [1, 2]) (keptM 2 [1, 2]) [2]) 1 = 1 by decide +kernel, show dblM (lostM (varK 1 [1, 2]) (keptM 2 [1, 2]) []) 1 = 2 by decide +kernel, show varK 1 [1, 2] = 1 by decide +kernel]
  simp
theorem ex_cc2 (n : Int) : ccM 2 (exT n) 2 = if n < 0 ∨ 4 < n then 3 else if n = 3 then 0 else 13 := by
  unfold ccM
  simp only [show (exT n).getD (2 : Int).toNat clNil = ⟨[[1, 2]], 3, 1, [1, 0], n⟩ from rfl, occ2, ex_kids, fol3]
  rw [show canB [[1, 2]] = true by decide +kernel, show (keptM 2 [1, 2]).length = 2 by decide +kernel]
  simp [exT]
theorem ex_tck : tckM 2 2 [[1, 2]] (exT 3) = 0 := by
  unfold tckM
  rw [show checkM 2 2 [[1, 2]] = 0 by decide +kernel]
  have : ccGo 2 (exT 3) (exT 3).length 0 = 0 := by
    show ccGo 2 (exT 3) 3 0 = 0
    simp only [ccGo]
    rw [show ((0 : Nat) : Int) = 0 from rfl, show ((0 + 1 : Nat) : Int) = 1 from rfl, show ((0 + 1 + 1 : Nat) : Int) = 2 from rfl, ex_cc0, if_neg (by simp), ex_cc1, if_neg (by simp), ex_cc2]
    simp
  rw [this]
  decide +kernel
theorem ex_tot : totA 2 2 [[1, 2]] (exT 3) = 3 := by
  unfold totA totN
  rw [ex_tck, occ2]
  decide +kernel
theorem ex_4 : ccM 2 (exT 4) 2 = 13 := by rw [ex_cc2]; simp
theorem ex_5 : ccM 2 (exT 5) 2 = 3 := by rw [ex_cc2]; simp


/-! ### the claims' own block -/
def exA (u1 u2 u3 u4 : Value) (n : Int) : Array Value := #[.slice none 0 0, .int .i64 0, .int .i64 0, .slice none 0 0, .int .i64 1, u1, .int .i64 2, .int .i64 2, u2, .int .i64 1, u3, .int .i64 3, .int .i64 1, u4, .int .i64 n]
structure ExAt (w : World) (g : Nat) (u1 u2 u3 u4 : Value) (n : Int) : Prop where
  cells : ∀ (o : Nat) v, (exA u1 u2 u3 u4 n)[o]? = some v → w.cell? ⟨g, o, none⟩ = some v
  thaw : w.frozen? ⟨g, 14, none⟩ = false
  p1 : Clss (fun b => b ≠ g) w u1 [[2]]
  p2 : Ints (fun b => b ≠ g) w u2 [0]
  p3 : Clss (fun b => b ≠ g) w u3 [[1, 2]]
  p4 : Ints (fun b => b ≠ g) w u4 [1, 0]
theorem ExAt.lt {w : World} {g : Nat} {u1 u2 u3 u4 : Value} {n : Int} (h : ExAt w g u1 u2 u3 u4 n) : g < w.heap.size := block_lt (h.cells 0 _ rfl)
theorem ExAt.below {w w' : World} {g : Nat} {u1 u2 u3 u4 : Value} {n : Int} (h : ExAt w g u1 u2 u3 u4 n) (hb : Below w.heap.size w w') : ExAt w' g u1 u2 u3 u4 n :=
  ⟨fun o v hv => below_c hb h.lt (h.cells o v hv), below_z hb h.lt h.thaw, h.p1.below hb, h.p2.below hb, h.p3.below hb, h.p4.below hb⟩
theorem ExAt.set {w : World} {g : Nat} {u1 u2 u3 u4 : Value} {n : Int} (h : ExAt w g u1 u2 u3 u4 n) (m : Int) : ExAt (w.setCell ⟨g, 14, none⟩ (.int .i64 m)) g u1 u2 u3 u4 m := by
  have hm : ∀ b, b ≠ g → b < w.heap.size → (w.setCell ⟨g, 14, none⟩ (.int .i64 m)).heap[b]? = w.heap[b]? := fun b hb _ => Below.heap_setCell _ _ _ _ hb
  refine ⟨fun o v hv => ?_, by rw [World.frozen?_setCell]; exact h.thaw, Rows1.move (fun _ _ _ _ _ h hm => h.move hm) h.p1 hm, h.p2.move hm, Rows1.move (fun _ _ _ _ _ h hm => h.move hm) h.p3 hm, h.p4.move hm⟩
  by_cases ho : o = 14
  · subst ho
    have : v = .int .i64 m := by simpa [exA] using hv.symm
    subst this
    exact set_eq (h.cells 14 _ rfl)
  · refine set_ne (.inr (fun e => ho e.symm)) (h.cells o v ?_)
    rw [← hv]
    unfold exA
    match o, ho with
    | 0, _ => rfl | 1, _ => rfl | 2, _ => rfl | 3, _ => rfl | 4, _ => rfl | 5, _ => rfl | 6, _ => rfl | 7, _ => rfl | 8, _ => rfl | 9, _ => rfl | 10, _ => rfl | 11, _ => rfl | 12, _ => rfl | 13, _ => rfl
    | 14, h => exact absurd rfl h
    | o + 15, _ => rfl
theorem ExAt.claims {w : World} {g : Nat} {u1 u2 u3 u4 : Value} {n : Int} (h : ExAt w g u1 u2 u3 u4 n) (hn : I64 n) : Claims (fun _ => True) w (.slice (some ⟨g, 0, none⟩) 3 3) (exT n) := by
  refine ⟨[(.slice none 0 0, .int .i64 0, .int .i64 0, .slice none 0 0, .int .i64 1), (u1, .int .i64 2, .int .i64 2, u2, .int .i64 1), (u3, .int .i64 3, .int .i64 1, u4, .int .i64 n)], ⟨some ⟨g, 0, none⟩, 3, rfl, by simp, fun j u hu => ⟨g, 0, rfl, trivial, ?_⟩⟩, rfl, fun j u c hu hc => ?_⟩
  · match j, hu with
    | 0, hu => simp at hu; subst hu; exact ⟨h.cells 0 _ rfl, h.cells 1 _ rfl, h.cells 2 _ rfl, h.cells 3 _ rfl, h.cells 4 _ rfl⟩
    | 1, hu => simp at hu; subst hu; exact ⟨h.cells 5 _ rfl, h.cells 6 _ rfl, h.cells 7 _ rfl, h.cells 8 _ rfl, h.cells 9 _ rfl⟩
    | 2, hu => simp at hu; subst hu; exact ⟨h.cells 10 _ rfl, h.cells 11 _ rfl, h.cells 12 _ rfl, h.cells 13 _ rfl, h.cells 14 _ rfl⟩
    | j + 3, hu => simp at hu
  · match j, hu, hc with
    | 0, hu, hc => simp at hu; simp [exT] at hc; subst hu hc; exact ⟨⟨Rows1.nil _ _, rfl, rfl, Ints.nil _ _, rfl⟩, by simp [I64]⟩
    | 1, hu, hc => simp at hu; simp [exT] at hc; subst hu hc; exact ⟨⟨Rows1.mono (fun _ _ _ _ _ h hg => h.mono hg) h.p1 (fun _ _ => trivial), rfl, rfl, h.p2.mono (fun _ _ => trivial), rfl⟩, by simp [I64]⟩
    | 2, hu, hc => simp at hu; simp [exT] at hc; subst hu hc; exact ⟨⟨Rows1.mono (fun _ _ _ _ _ h hg => h.mono hg) h.p3 (fun _ _ => trivial), rfl, rfl, h.p4.mono (fun _ _ => trivial), rfl⟩, by simp [I64], by simp [I64], hn⟩
    | j + 3, hu, hc => simp at hu
theorem exT_sz (n : Int) : ∀ c ∈ exT n, SzC c := by
  intro c hc
  simp only [exT, List.mem_cons, List.not_mem_nil, or_false] at hc
  rcases hc with rfl | rfl | rfl <;> exact ⟨by simp, by simp, by simp⟩
def ExPost (W : World) (e : Ending) (w' : World) : Prop :=
  ∃ g cv u1 u2 u3 u4, e = .returned (.tuple #[.agg #[.int .i64 2, .int .i64 2, cv], .agg #[.slice (some ⟨g, 0, none⟩) 3 3]]) ∧ Below W.heap.size W w' ∧ W.heap.size ≤ g ∧ Clss (fun b => b ≠ g) w' cv [[1, 2]] ∧ ExAt w' g u1 u2 u3 u4 3
theorem clss_one {w : World} {b : Nat} {T : TypeId} {fr : Nat × Nat} {u : Value} {x : List Int} {F : Nat → Prop} (h : w.heap[b]? = some (.cells #[u] T fr)) (hF : F b) (hu : Ints F w u x) : Clss F w (.slice (some ⟨b, 0, none⟩) 1 1) [x] := by
  have hs := sl1_block [u] 1 h (by simp) (fun j v hv => by simpa using hv)
  refine ⟨_, hs.mono fun b' hb' => by rw [show b' = b from hb']; exact hF, by simp, fun j v p hv hp => ?_⟩
  match j, hv, hp with
  | 0, hv, hp => simp at hv hp; subst hv hp; exact hu
  | j + 1, hv, _ => simp at hv
set_option maxRecDepth 100000 in
theorem ex_post (w : World) : ExPost w (.returned (.tuple #[.agg #[.int .i64 2, .int .i64 2, .slice (some ⟨w.heap.size + 1 + 1 + 1, 0, none⟩) 1 1], .agg #[.slice (some ⟨w.heap.size + 1 + 1 + 1 + 1 + 1 + 1 + 1 + 1 + 1 + 1 + 1, 0, none⟩) 3 3]])) ((((((((((((w.alloc (.cells #[.int .i64 2, .int .i64 2, .slice (some ⟨w.heap.size + 1 + 1 + 1, 0, none⟩) 1 1] 37)).alloc (.cells #[.slice (some ⟨w.heap.size + 1 + 1 + 1 + 1 + 1 + 1 + 1 + 1 + 1 + 1 + 1, 0, none⟩) 3 3] 24)).alloc (.cells #[.int .i64 1, .int .i64 2] 3)).alloc (.cells #[.slice (some ⟨w.heap.size + 1 + 1, 0, none⟩) 2 2] 43)).alloc (.cells #[.int .i64 2, .int .i64 2, .slice (some ⟨w.heap.size + 1 + 1 + 1, 0, none⟩) 1 1] 37)).alloc (.cells #[.int .i64 2] 3)).alloc (.cells #[.slice (some ⟨w.heap.size + 1 + 1 + 1 + 1 + 1, 0, none⟩) 1 1] 43)).alloc (.cells #[.int .i64 0] 3)).alloc (.cells #[.int .i64 1, .int .i64 2] 3)).alloc (.cells #[.slice (some ⟨w.heap.size + 1 + 1 + 1 + 1 + 1 + 1 + 1 + 1, 0, none⟩) 2 2] 43)).alloc (.cells #[.int .i64 1, .int .i64 0] 3)).alloc (.cells #[.slice none 0 0, .int .i64 0, .int .i64 0, .slice none 0 0, .int .i64 1, .slice (some ⟨w.heap.size + 1 + 1 + 1 + 1 + 1 + 1, 0, none⟩) 1 1, .int .i64 2, .int .i64 2, .slice (some ⟨w.heap.size + 1 + 1 + 1 + 1 + 1 + 1 + 1, 0, none⟩) 1 1, .int .i64 1, .slice (some ⟨w.heap.size + 1 + 1 + 1 + 1 + 1 + 1 + 1 + 1 + 1, 0, none⟩) 1 1, .int .i64 3, .int .i64 1, .slice (some ⟨w.heap.size + 1 + 1 + 1 + 1 + 1 + 1 + 1 + 1 + 1 + 1, 0, none⟩) 2 2, .int .i64 3] 45)) := by
  obtain ⟨W, hW⟩ : ∃ W, ((((((((((((w.alloc (.cells #[.int .i64 2, .int .i64 2, .slice (some ⟨w.heap.size + 1 + 1 + 1, 0, none⟩) 1 1] 37)).alloc (.cells #[.slice (some ⟨w.heap.size + 1 + 1 + 1 + 1 + 1 + 1 + 1 + 1 + 1 + 1 + 1, 0, none⟩) 3 3] 24)).alloc (.cells #[.int .i64 1, .int .i64 2] 3)).alloc (.cells #[.slice (some ⟨w.heap.size + 1 + 1, 0, none⟩) 2 2] 43)).alloc (.cells #[.int .i64 2, .int .i64 2, .slice (some ⟨w.heap.size + 1 + 1 + 1, 0, none⟩) 1 1] 37)).alloc (.cells #[.int .i64 2] 3)).alloc (.cells #[.slice (some ⟨w.heap.size + 1 + 1 + 1 + 1 + 1, 0, none⟩) 1 1] 43)).alloc (.cells #[.int .i64 0] 3)).alloc (.cells #[.int .i64 1, .int .i64 2] 3)).alloc (.cells #[.slice (some ⟨w.heap.size + 1 + 1 + 1 + 1 + 1 + 1 + 1 + 1, 0, none⟩) 2 2] 43)).alloc (.cells #[.int .i64 1, .int .i64 0] 3)).alloc (.cells #[.slice none 0 0, .int .i64 0, .int .i64 0, .slice none 0 0, .int .i64 1, .slice (some ⟨w.heap.size + 1 + 1 + 1 + 1 + 1 + 1, 0, none⟩) 1 1, .int .i64 2, .int .i64 2, .slice (some ⟨w.heap.size + 1 + 1 + 1 + 1 + 1 + 1 + 1, 0, none⟩) 1 1, .int .i64 1, .slice (some ⟨w.heap.size + 1 + 1 + 1 + 1 + 1 + 1 + 1 + 1 + 1, 0, none⟩) 1 1, .int .i64 3, .int .i64 1, .slice (some ⟨w.heap.size + 1 + 1 + 1 + 1 + 1 + 1 + 1 + 1 + 1 + 1, 0, none⟩) 2 2, .int .i64 3] 45)) = W := ⟨_, rfl⟩
  rw [hW]
  have hB : Below w.heap.size w W := by rw [← hW]; exact (((((((((((((Below.refl _ _).alloc (Nat.le_refl _) _).alloc (by simp <;> omega) _).alloc (by simp <;> omega) _).alloc (by simp <;> omega) _).alloc (by simp <;> omega) _).alloc (by simp <;> omega) _).alloc (by simp <;> omega) _).alloc (by simp <;> omega) _).alloc (by simp <;> omega) _).alloc (by simp <;> omega) _).alloc (by simp <;> omega) _).alloc (by simp <;> omega) _)
  have r2 : W.heap[w.heap.size + 1 + 1]? = some (.cells #[.int .i64 1, .int .i64 2] 3) := by rw [← hW]; exact (old_at _ _ _ (old_at _ _ _ (old_at _ _ _ (old_at _ _ _ (old_at _ _ _ (old_at _ _ _ (old_at _ _ _ (old_at _ _ _ (old_at _ _ _ (new_at' _ _ (by simp)))))))))))
  have r3 : W.heap[w.heap.size + 1 + 1 + 1]? = some (.cells #[.slice (some ⟨w.heap.size + 1 + 1, 0, none⟩) 2 2] 43) := by rw [← hW]; exact (old_at _ _ _ (old_at _ _ _ (old_at _ _ _ (old_at _ _ _ (old_at _ _ _ (old_at _ _ _ (old_at _ _ _ (old_at _ _ _ (new_at' _ _ (by simp))))))))))
  have r5 : W.heap[w.heap.size + 1 + 1 + 1 + 1 + 1]? = some (.cells #[.int .i64 2] 3) := by rw [← hW]; exact (old_at _ _ _ (old_at _ _ _ (old_at _ _ _ (old_at _ _ _ (old_at _ _ _ (old_at _ _ _ (new_at' _ _ (by simp))))))))
  have r6 : W.heap[w.heap.size + 1 + 1 + 1 + 1 + 1 + 1]? = some (.cells #[.slice (some ⟨w.heap.size + 1 + 1 + 1 + 1 + 1, 0, none⟩) 1 1] 43) := by rw [← hW]; exact (old_at _ _ _ (old_at _ _ _ (old_at _ _ _ (old_at _ _ _ (old_at _ _ _ (new_at' _ _ (by simp)))))))
  have r7 : W.heap[w.heap.size + 1 + 1 + 1 + 1 + 1 + 1 + 1]? = some (.cells #[.int .i64 0] 3) := by rw [← hW]; exact (old_at _ _ _ (old_at _ _ _ (old_at _ _ _ (old_at _ _ _ (new_at' _ _ (by simp))))))
  have r8 : W.heap[w.heap.size + 1 + 1 + 1 + 1 + 1 + 1 + 1 + 1]? = some (.cells #[.int .i64 1, .int .i64 2] 3) := by rw [← hW]; exact (old_at _ _ _ (old_at _ _ _ (old_at _ _ _ (new_at' _ _ (by simp)))))
  have r9 : W.heap[w.heap.size + 1 + 1 + 1 + 1 + 1 + 1 + 1 + 1 + 1]? = some (.cells #[.slice (some ⟨w.heap.size + 1 + 1 + 1 + 1 + 1 + 1 + 1 + 1, 0, none⟩) 2 2] 43) := by rw [← hW]; exact (old_at _ _ _ (old_at _ _ _ (new_at' _ _ (by simp))))
  have r10 : W.heap[w.heap.size + 1 + 1 + 1 + 1 + 1 + 1 + 1 + 1 + 1 + 1]? = some (.cells #[.int .i64 1, .int .i64 0] 3) := by rw [← hW]; exact (old_at _ _ _ (new_at' _ _ (by simp)))
  have r11 : W.heap[w.heap.size + 1 + 1 + 1 + 1 + 1 + 1 + 1 + 1 + 1 + 1 + 1]? = some (.cells #[.slice none 0 0, .int .i64 0, .int .i64 0, .slice none 0 0, .int .i64 1, .slice (some ⟨w.heap.size + 1 + 1 + 1 + 1 + 1 + 1, 0, none⟩) 1 1, .int .i64 2, .int .i64 2, .slice (some ⟨w.heap.size + 1 + 1 + 1 + 1 + 1 + 1 + 1, 0, none⟩) 1 1, .int .i64 1, .slice (some ⟨w.heap.size + 1 + 1 + 1 + 1 + 1 + 1 + 1 + 1 + 1, 0, none⟩) 1 1, .int .i64 3, .int .i64 1, .slice (some ⟨w.heap.size + 1 + 1 + 1 + 1 + 1 + 1 + 1 + 1 + 1 + 1, 0, none⟩) 2 2, .int .i64 3] 45) := by rw [← hW]; exact (new_at' _ _ (by simp))
  clear hW
  have i2 : Ints (fun b => b ≠ w.heap.size + 1 + 1 + 1 + 1 + 1 + 1 + 1 + 1 + 1 + 1 + 1) W (.slice (some ⟨w.heap.size + 1 + 1, 0, none⟩) 2 2) [1, 2] := (ints_block [1, 2] 2 r2 (by decide) rfl (by simp [I64])).mono fun b hb => (by have hb : b = _ := hb; omega)
  have i5 : Ints (fun b => b ≠ w.heap.size + 1 + 1 + 1 + 1 + 1 + 1 + 1 + 1 + 1 + 1 + 1) W (.slice (some ⟨w.heap.size + 1 + 1 + 1 + 1 + 1, 0, none⟩) 1 1) [2] := (ints_block [2] 1 r5 (by decide) rfl (by simp [I64])).mono fun b hb => (by have hb : b = _ := hb; omega)
  have i7 : Ints (fun b => b ≠ w.heap.size + 1 + 1 + 1 + 1 + 1 + 1 + 1 + 1 + 1 + 1 + 1) W (.slice (some ⟨w.heap.size + 1 + 1 + 1 + 1 + 1 + 1 + 1, 0, none⟩) 1 1) [0] := (ints_block [0] 1 r7 (by decide) rfl (by simp [I64])).mono fun b hb => (by have hb : b = _ := hb; omega)
  have i8 : Ints (fun b => b ≠ w.heap.size + 1 + 1 + 1 + 1 + 1 + 1 + 1 + 1 + 1 + 1 + 1) W (.slice (some ⟨w.heap.size + 1 + 1 + 1 + 1 + 1 + 1 + 1 + 1, 0, none⟩) 2 2) [1, 2] := (ints_block [1, 2] 2 r8 (by decide) rfl (by simp [I64])).mono fun b hb => (by have hb : b = _ := hb; omega)
  have i10 : Ints (fun b => b ≠ w.heap.size + 1 + 1 + 1 + 1 + 1 + 1 + 1 + 1 + 1 + 1 + 1) W (.slice (some ⟨w.heap.size + 1 + 1 + 1 + 1 + 1 + 1 + 1 + 1 + 1 + 1, 0, none⟩) 2 2) [1, 0] := (ints_block [1, 0] 2 r10 (by decide) rfl (by simp [I64])).mono fun b hb => (by have hb : b = _ := hb; omega)
  refine ⟨_, _, .slice (some ⟨w.heap.size + 1 + 1 + 1 + 1 + 1 + 1, 0, none⟩) 1 1, .slice (some ⟨w.heap.size + 1 + 1 + 1 + 1 + 1 + 1 + 1, 0, none⟩) 1 1, .slice (some ⟨w.heap.size + 1 + 1 + 1 + 1 + 1 + 1 + 1 + 1 + 1, 0, none⟩) 1 1, .slice (some ⟨w.heap.size + 1 + 1 + 1 + 1 + 1 + 1 + 1 + 1 + 1 + 1, 0, none⟩) 2 2, rfl, hB, by omega, clss_one r3 (by omega) i2, ⟨fun o v h => by rw [cell_of_row _ _ _ _ _ _ r11]; exact h, by simp only [World.frozen?, r11]; simp, clss_one r6 (by omega) i5, i7, clss_one r9 (by omega) i8, i10⟩⟩
set_option maxRecDepth 100000 in
set_option maxHeartbeats 8000000 in
theorem example_any (w : World) : Calls Tryz.prog 12 #[] w (ExPost w) := by
  go_enter Tryz.func12, Tryz.ntmps12
  go_wp2_with fail
  have hres : Tryz.f12.results = #[.cell 0 37, .cell 1 24] := rfl
  refine bodyPost_ret ?_ rfl (ex_post w)
  simp only [results, hres]
  go_simp
def KnPost (W : World) (e : Ending) (w' : World) : Prop := e = .returned (.bool true) ∧ Below W.heap.size W w'
set_option maxRecDepth 100000 in
set_option maxHeartbeats 8000000 in
theorem known_any (w : World) : Calls Tryz.prog 5 #[] w (KnPost w) := by
  have hex := example_any
  go_enter Tryz.func5, Tryz.ntmps5
  go_wp2_with fail
  refine (hex w).mono ?_
  rintro e w1 ⟨g, cv, u1, u2, u3, u4, rfl, hb1, hg, hcv, hx⟩
  clear hex
  obtain ⟨ca, cn, cc, rfl, _, _⟩ := hcv.form'
  obtain ⟨bb, hbb⟩ : ∃ b, w1.heap.size = b := ⟨_, rfl⟩
  obtain ⟨W1, hW1⟩ : ∃ W, (w1.alloc (.cells #[.int .i64 2, .int .i64 2, .slice ca cn cc] 37)).alloc (.cells #[.slice (some ⟨g, 0, none⟩) 3 3] 24) = W := ⟨_, rfl⟩
  have hbW : Below w1.heap.size w1 W1 := by rw [← hW1]; exact ((Below.refl _ _).alloc (Nat.le_refl _) _).alloc (by simp) _
  have hs1 : W1.heap.size = bb + 1 + 1 := by rw [← hW1]; simp; omega
  have hr0 : W1.heap[bb]? = some (.cells #[.int .i64 2, .int .i64 2, .slice ca cn cc] 37) := by rw [← hW1]; exact old_at _ _ _ (new_at' _ _ hbb.symm)
  have hr1 : W1.heap[bb + 1]? = some (.cells #[.slice (some ⟨g, 0, none⟩) 3 3] 24) := by rw [← hW1]; exact new_at' _ _ (by simp; omega)
  have c0 : W1.cell? ⟨bb, 0, none⟩ = some (.int .i64 2) := by rw [cell_of_row _ _ _ _ _ _ hr0]; rfl
  have c1 : W1.cell? ⟨bb, 1, none⟩ = some (.int .i64 2) := by rw [cell_of_row _ _ _ _ _ _ hr0]; rfl
  have c2 : W1.cell? ⟨bb, 2, none⟩ = some (.slice ca cn cc) := by rw [cell_of_row _ _ _ _ _ _ hr0]; rfl
  have t0 : W1.cell? ⟨bb + 1, 0, none⟩ = some (.slice (some ⟨g, 0, none⟩) 3 3) := by rw [cell_of_row _ _ _ _ _ _ hr1]; rfl
  have hx1 := hx.below hbW
  have hcv1 := Clss.below hcv hbW
  have hto := total_any _ 2 2 _ _ [[1, 2]] (exT 3) W1 hcv1 (hx1.claims (by simp [I64])) (by simp [I64]) (by simp [I64]) (exT_sz 3) (by simp [exT]) (by simp) (by simp)
  rw [ex_tot, ex_tck] at hto
  have HTO := Lib.hid hto
  have HB1 : Hid (Below w.heap.size w W1) := Lib.hid (hb1.trans (hbW.mono hb1.size))
  have HCV := Lib.hid hcv1
  have HX := Lib.hid hx1
  have HG := Lib.hid (show g ≠ bb + 1 by have := hx.lt; omega)
  have HGW := Lib.hid hg
  have HBW : Hid (w.heap.size ≤ bb) := Lib.hid (by have := hb1.size; omega)
  clear hto hb1 hcv hx hg hx1 hcv1 hr0 hr1 hbW
  go_wp2_with fail
  clear hW1 hbb
  refine HTO.out.mono ?_
  rintro e w2 ⟨rfl, hb2⟩
  have HB2 := Lib.hid (HB1.out.trans (hb2.mono HB1.out.size))
  have HCV2 := Lib.hid (Clss.below HCV.out hb2)
  have HX2 := Lib.hid (HX.out.below hb2)
  have y0 := below_c hb2 (by omega) c0
  have y1 := below_c hb2 (by omega) c1
  have y2 := below_c hb2 (by omega) c2
  have yt := below_c hb2 (by omega) t0
  have hs2 := hb2.size
  have hck := tcheck_any _ 2 2 _ _ [[1, 2]] (exT 3) w2 HCV2.out (HX2.out.claims (by simp [I64])) (by simp [I64]) (by simp [I64]) (exT_sz 3) (by simp [exT])
  rw [ex_tck] at hck
  have HCK := Lib.hid hck
  clear hck hb2 HTO HB1 HCV HX c0 c1 c2 t0
  go_wp2_with fail
  refine HCK.out.mono ?_
  rintro e w3 ⟨rfl, hb3⟩
  have HB3 := Lib.hid (HB2.out.trans (hb3.mono HB2.out.size))
  have HX3 := Lib.hid (HX2.out.below hb3)
  have zt := below_c hb3 (by omega) yt
  have hs3 := hb3.size
  clear hb3 HCK HB2 HCV2 HX2 y0 y1 y2 yt
  have hf := HX3.out.thaw
  have hc14 := HX3.out.cells 14 _ rfl
  go_wp2_with fail
  obtain ⟨w4, hw4⟩ : ∃ W, w3.setCell ⟨g, 14, none⟩ (.int .i64 4) = W := ⟨_, rfl⟩
  have hx4 := HX3.out.set 4
  have hb4 : Below w.heap.size w w4 := by rw [← hw4]; exact HB3.out.setCell (by have := HGW.out; exact this) _
  have z4 : w4.cell? ⟨bb + 1, 0, none⟩ = some (.slice (some ⟨g, 0, none⟩) 3 3) := by rw [← hw4]; exact set_ne (.inl HG.out) zt
  have hs4 : w4.heap.size = w3.heap.size := by rw [← hw4]; simp
  rw [hw4] at hx4 ⊢
  have hcc := cc_any 2 2 _ (exT 4) w4 (hx4.claims (by simp [I64])) (by simp [I64]) (by simp [I64]) (exT_sz 4) (by simp [exT])
  rw [ex_4] at hcc
  have HCC := Lib.hid hcc
  have HX4 := Lib.hid hx4
  have HB4 := Lib.hid hb4
  clear hw4 hcc hx4 hb4 zt hf hc14 HX3 HB3
  refine HCC.out.mono ?_
  rintro e w5 ⟨rfl, hb5⟩
  have HB5 := Lib.hid (HB4.out.trans (hb5.mono HB4.out.size))
  have HX5 := Lib.hid (HX4.out.below hb5)
  have z5 := below_c hb5 (by omega) z4
  have hs5 := hb5.size
  clear hb5 HCC HB4 HX4 z4
  have hf := HX5.out.thaw
  have hc14 := HX5.out.cells 14 _ rfl
  go_wp2_with fail
  obtain ⟨w6, hw6⟩ : ∃ W, w5.setCell ⟨g, 14, none⟩ (.int .i64 5) = W := ⟨_, rfl⟩
  have hx6 := HX5.out.set 5
  have hb6 : Below w.heap.size w w6 := by rw [← hw6]; exact HB5.out.setCell (by have := HGW.out; exact this) _
  rw [hw6] at hx6 ⊢
  have hcc := cc_any 2 2 _ (exT 5) w6 (hx6.claims (by simp [I64])) (by simp [I64]) (by simp [I64]) (exT_sz 5) (by simp [exT])
  rw [ex_5] at hcc
  have HCC := Lib.hid hcc
  have HB6 := Lib.hid hb6
  clear hw6 hcc hx6 hb6 hf hc14 HX5 HB5
  refine HCC.out.mono ?_
  rintro e w7 ⟨rfl, hb7⟩
  have HB7 := Lib.hid (HB6.out.trans (hb7.mono HB6.out.size))
  clear hb7
  go_wp2_with fail
  go_ret
  exact ⟨rfl, HB7.out⟩
end Go.Proofs.YtljaegmmfjllkaaGreatDoor
