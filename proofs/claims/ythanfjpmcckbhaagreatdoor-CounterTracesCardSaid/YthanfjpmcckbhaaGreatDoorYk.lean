/- (Counter seat) The prover's state in memory; walk: claim. No condition but the sizes. -/
import Derived.Test.YthanfjpmcckbhaaGreatDoorYc
import Derived.Test.YthanfjpmcckbhaaGreatDoorYi
namespace Go.Proofs.YthanfjpmcckbhaaGreatDoor
open Go.ChangeShapes Go.WideShapes Go.ChangeAt Go.RowKit
set_option linter.unusedVariables false
set_option linter.unusedSimpArgs false

/-- blocks that the prover does not turn -/
def Apart (pb mb : Nat) (cv : Value) (b : Nat) : Prop := b ≠ pb ∧ b ≠ mb ∧ cv.ownBlock ≠ some b
/-- and that it does not read -/
def AX (Ex : Nat → Prop) (pb mb : Nat) (cv : Value) (b : Nat) : Prop := Apart pb mb cv b ∧ ¬ Ex b
/-- how the world goes on: only the prover's block, its map and its row of claims are turned -/
structure Grw (pb mb : Nat) (cv : Value) (w : World) (cv' : Value) (w' : World) : Prop where
  os : w'.os = w.os
  tape : w'.tape = w.tape
  output : w'.output = w.output
  size : w.heap.size ≤ w'.heap.size
  block : ∀ b, b < w.heap.size → Apart pb mb cv b → w'.heap[b]? = w.heap[b]?
  own : ∀ b, cv'.ownBlock = some b → cv.ownBlock = some b ∨ w.heap.size ≤ b
section grw
variable {pb mb : Nat} {cv cv' cv2 : Value} {w w' w2 : World}
theorem Grw.trans (h : Grw pb mb cv w cv' w') (h2 : Grw pb mb cv' w' cv2 w2) : Grw pb mb cv w cv2 w2 :=
  ⟨h2.os.trans h.os, h2.tape.trans h.tape, h2.output.trans h.output, Nat.le_trans h.size h2.size, fun b hb ha => (h2.block b (Nat.lt_of_lt_of_le hb h.size) ⟨ha.1, ha.2.1, fun e => by
    rcases h.own b e with h1 | h1
    · exact ha.2.2 h1
    · omega⟩).trans (h.block b hb ha), fun b hb => by
    rcases h2.own b hb with h1 | h1
    · exact h.own b h1
    · exact .inr (Nat.le_trans h.size h1)⟩
theorem Grw.of_below (h : Below w.heap.size w w') : Grw pb mb cv w cv w' := ⟨h.os, h.tape, h.output, h.size, fun b hb _ => h.block b hb, fun b hb => .inl hb⟩
theorem Grw.below {B : Nat} (h : Grw pb mb cv w cv' w') (hp : B ≤ pb) (hm : B ≤ mb) (hc : ∀ b, cv.ownBlock = some b → B ≤ b) (hB : B ≤ w.heap.size) : Below B w w' :=
  ⟨h.os, h.tape, h.output, h.size, fun b hb => h.block b (by omega) ⟨by omega, by omega, fun e => by have := hc b e; omega⟩⟩
end grw
/-- what is known: a map from keys to claims -/
def KnownM (w : World) (mb n : Nat) (ts : List Claim) : Prop :=
  ∃ D : DataW Unit, w.ownsMap Tryz.prog 9 (plainElem Tryz.prog 3) mb n D ∧ Maps.IsMap D ∧
    ∀ l : List (List Int), Maps.has D (.string (keyB l)) = true → ∃ j : Nat, j < ts.length ∧ (ts.getD j clNil).cls = l ∧ D.atKey (.string (keyB l)) (.lit (.int .i64 0)) = .lit (.int .i64 j)
theorem KnownM.kept {w w' : World} {mb n : Nat} {ts : List Claim} {row : Option Nat} (h : KnownM w mb n ts) (hg : w.grownBy w' row) (hne : some mb ≠ row) : KnownM w' mb n ts := by
  obtain ⟨D, h1, h2⟩ := h
  exact ⟨D, h1.kept hg hne, h2⟩
theorem KnownM.more {w : World} {mb n : Nat} {ts us : List Claim} (h : KnownM w mb n ts) : KnownM w mb n (ts ++ us) := by
  obtain ⟨D, h1, h2, h3⟩ := h
  refine ⟨D, h1, h2, fun l hl => ?_⟩
  obtain ⟨j, hj, e1, e2⟩ := h3 l hl
  exact ⟨j, by rw [List.length_append]; omega, by rw [getD_app_left hj]; exact e1, e2⟩
/-- the state of a prover without a limit -/
structure PrS (Ex : Nat → Prop) (B : Nat) (w : World) (pb mb : Nat) (keep : Int) (cv : Value) (ts : List Claim) (n : Nat) : Prop where
  c0 : w.cell? ⟨pb, 0, none⟩ = some (.int .i64 keep)
  c1 : w.cell? ⟨pb, 1, none⟩ = some (.int .i64 0)
  c2 : w.cell? ⟨pb, 2, none⟩ = some cv
  c3 : w.cell? ⟨pb, 3, none⟩ = some (.map (some mb))
  c4 : w.cell? ⟨pb, 4, none⟩ = some (.bool false)
  free : ∀ o, w.frozen? ⟨pb, o, none⟩ = false
  rows : ∃ us : List Row5, w.ownsRow B 52 5 cv ts.length (cells5 us) ∧ us.length = ts.length ∧ ∀ (j : Nat) u c, us[j]? = some u → ts[j]? = some c → ClaimV (fun b => b < w.heap.size ∧ AX Ex pb mb cv b) w u c
  known : KnownM w mb n ts
  diff : pb ≠ mb ∧ cv.ownBlock ≠ some pb ∧ cv.ownBlock ≠ some mb
  low : B ≤ pb ∧ B ≤ mb ∧ B ≤ w.heap.size
  acc : AccS keep ts
  keep0 : 0 ≤ keep ∧ keep ≤ 40
  sz : ∀ c ∈ ts, SzC c
  ex : ∀ b, Ex b → b < w.heap.size
theorem PrS.below {Ex : Nat → Prop} {B : Nat} {w w' : World} {pb mb : Nat} {keep : Int} {cv : Value} {ts : List Claim} {n : Nat} (h : PrS Ex B w pb mb keep cv ts n) (hb : Below w.heap.size w w') : PrS Ex B w' pb mb keep cv ts n := by
  have hlt := block_lt h.c0
  obtain ⟨us, r1, r2, r3⟩ := h.rows
  exact ⟨below_c hb hlt h.c0, below_c hb hlt h.c1, below_c hb hlt h.c2, below_c hb hlt h.c3, below_c hb hlt h.c4, fun o => below_z hb hlt (h.free o),
    ⟨us, own_below r1 hb, r2, fun j u c hu hc => ((r3 j u c hu hc).move fun b hbb hl => hb.block b hl).mono fun b hbb => ⟨Nat.lt_of_lt_of_le hbb.1 hb.size, hbb.2⟩⟩,
    h.known.kept (row := none) ⟨hb.os, hb.tape, hb.output, hb.size, fun i hi _ => hb.block i hi⟩ (by simp), h.diff, ⟨h.low.1, h.low.2.1, Nat.le_trans h.low.2.2 hb.size⟩, h.acc, h.keep0, h.sz, fun b hx => Nat.lt_of_lt_of_le (h.ex b hx) hb.size⟩
theorem grow_opt' {W w1 w2 : World} {r0 row : Option Nat} (h : W.grownBy w1 r0) (h2 : w1.grownBy w2 row) (hr : ∀ b, row = some b → r0 = some b ∨ W.heap.size ≤ b) : W.grownBy w2 r0 :=
  ⟨h2.os.trans h.os, h2.tape.trans h.tape, h2.output.trans h.output, Nat.le_trans h.size h2.size, fun k hk hne => by
    rw [h2.block k (Nat.lt_of_lt_of_le hk h.size) (fun e => by
      rcases hr k e.symm with h1 | h1
      · exact hne h1.symm
      · omega), h.block k hk hne]⟩
theorem clss_and {F : Nat → Prop} {w : World} {v : Value} {cs : List (List Int)} (h : Clss F w v cs) : Clss (fun b => b < w.heap.size ∧ F b) w v cs := by
  obtain ⟨us, h1, h2, h3⟩ := h
  exact ⟨us, h1.lt.mono fun b hb => ⟨hb.2, hb.1⟩, h2, fun j u x hu hx => ((h3 j u x hu hx).lt).mono fun b hb => ⟨hb.2, hb.1⟩⟩
theorem claimV_and {F : Nat → Prop} {w : World} {u : Row5} {c : Claim} (h : ClaimV F w u c) : ClaimV (fun b => b < w.heap.size ∧ F b) w u c :=
  ⟨⟨clss_and h.1.1, h.1.2.1, h.1.2.2.1, (h.1.2.2.2.1.lt).mono fun b hb => ⟨hb.2, hb.1⟩, h.1.2.2.2.2⟩, h.2⟩
theorem set_heap {w : World} {b o i : Nat} {v : Value} (h : i ≠ b) : (w.setCell ⟨b, o, none⟩ v).heap[i]? = w.heap[i]? := Below.heap_setCell _ _ _ _ h
theorem PrS.set4 {Ex : Nat → Prop} {B : Nat} {w : World} {pb mb : Nat} {keep : Int} {cv : Value} {ts : List Claim} {n : Nat} (h : PrS Ex B w pb mb keep cv ts n) : PrS Ex B (w.setCell ⟨pb, 4, none⟩ (.bool false)) pb mb keep cv ts n := by
  obtain ⟨us, r1, r2, r3⟩ := h.rows
  exact ⟨set_ne (.inr (by omega)) h.c0, set_ne (.inr (by omega)) h.c1, set_ne (.inr (by omega)) h.c2, set_ne (.inr (by omega)) h.c3, set_eq h.c4, fun o => by rw [World.frozen?_setCell]; exact h.free o,
    ⟨us, own_same r1 fun k hk => set_heap (fun e => h.diff.2.1 (by rw [hk, e])), r2, fun j u c hu hc => ((r3 j u c hu hc).move fun b hb _ => set_heap hb.2.1.1).mono fun b hb => ⟨by simpa using hb.1, hb.2⟩⟩,
    h.known.kept (set_grown _ _ _ _) (fun e => h.diff.1 (by injection e with e; exact e.symm)), h.diff, ⟨h.low.1, h.low.2.1, by simpa using h.low.2.2⟩, h.acc, h.keep0, h.sz, fun b hx => by simpa using h.ex b hx⟩
theorem Grw.set {pb mb : Nat} {cv : Value} (w : World) (o : Nat) (v : Value) : Grw pb mb cv w cv (w.setCell ⟨pb, o, none⟩ v) := ⟨rfl, rfl, rfl, by simp, fun b _ ha => set_heap ha.1, fun b hb => .inl hb⟩
/-- what claim hands back -/
def ClaimPost (Ex : Nat → Prop) (B : Nat) (W : World) (pb mb : Nat) (keep : Int) (cv : Value) (ts : List Claim) (n : Nat) (c : Claim) (e : Ending) (w' : World) : Prop :=
  ∃ cv', e = .returned (.int .i64 ts.length) ∧ PrS Ex B w' pb mb keep cv' (ts ++ [c]) n ∧ Grw pb mb cv W cv' w'
set_option maxRecDepth 100000 in
set_option maxHeartbeats 8000000 in
theorem claim_any (Ex : Nat → Prop) (B pb mb : Nat) (keep : Int) (cv r0 r1 r2 r3 r4 : Value) (ts : List Claim) (n : Nat) (c : Claim) (w : World) (h : PrS Ex B w pb mb keep cv ts n) (hc : ClaimV (AX Ex pb mb cv) w (r0, r1, r2, r3, r4) c)
    (hk : ∀ k ∈ c.kids, 0 ≤ k ∧ k < (ts.length : Int)) (hf : Fits keep c (kidsM ts c)) (hl : ts.length ≤ 100000) (hsz : SzC c) :
    Calls Tryz.prog 86 #[.pointer (some ⟨pb, 0, none⟩), .agg #[r0, r1, r2, r3, r4]] w (ClaimPost Ex B w pb mb keep cv ts n c) := by
  obtain ⟨⟨hcl, h1, h2, hki, h4⟩, hir, hil, hic⟩ := id hc
  have h1 : r1 = _ := h1
  have h2 : r2 = _ := h2
  have h4 : r4 = _ := h4
  subst h1 h2 h4
  have hcl : Clss (AX Ex pb mb cv) w r0 c.cls := hcl
  have hki : Ints (AX Ex pb mb cv) w r3 c.kids := hki
  obtain ⟨ua, un, uc, rfl, _, _⟩ := hcl.form'
  obtain ⟨ka, kn, kc, rfl, _, _⟩ := hki.form'
  obtain ⟨bx, hbx⟩ : ∃ b, w.heap.size = b := ⟨_, rfl⟩
  obtain ⟨W1, hW1⟩ : ∃ W, w.alloc (.cells #[.slice ua un uc, .int .i64 c.rule, .int .i64 c.lit, .slice ka kn kc, .int .i64 c.count] 52) = W := ⟨_, rfl⟩
  have hb1 : Below w.heap.size w W1 := by rw [← hW1]; exact (Below.refl _ _).alloc (Nat.le_refl _) _
  have hrow : W1.heap[bx]? = some (.cells #[.slice ua un uc, .int .i64 c.rule, .int .i64 c.lit, .slice ka kn kc, .int .i64 c.count] 52) := by rw [← hW1]; exact new_at' _ _ hbx.symm
  have b0 : W1.cell? ⟨bx, 0, none⟩ = some (.slice ua un uc) := by rw [cell_of_row _ _ _ _ _ _ hrow]; rfl
  have b1 : W1.cell? ⟨bx, 1, none⟩ = some (.int .i64 c.rule) := by rw [cell_of_row _ _ _ _ _ _ hrow]; rfl
  have b2 : W1.cell? ⟨bx, 2, none⟩ = some (.int .i64 c.lit) := by rw [cell_of_row _ _ _ _ _ _ hrow]; rfl
  have b3 : W1.cell? ⟨bx, 3, none⟩ = some (.slice ka kn kc) := by rw [cell_of_row _ _ _ _ _ _ hrow]; rfl
  have b4 : W1.cell? ⟨bx, 4, none⟩ = some (.int .i64 c.count) := by rw [cell_of_row _ _ _ _ _ _ hrow]; rfl
  have hs1 : W1.heap.size = bx + 1 := by rw [← hW1]; simp; omega
  have hP1 := h.below hb1
  have HSZ : Hid (∀ x ∈ ts ++ [c], SzC x) := Lib.hid fun x hx => by
    rcases List.mem_append.1 hx with h1 | h1
    · exact h.sz x h1
    · simp at h1; subst h1; exact hsz
  clear hsz
  obtain ⟨p0, p1, p2, p3, p4, pf, ⟨us, hown, hul, hel⟩, hkn, ⟨d1, d2, d3⟩, hlow, hacc, hkp, hszs, hexs⟩ := id hP1
  have HEX := Lib.hid hexs
  clear hszs hexs
  have hplt := block_lt h.c0
  have hmlt : mb < w.heap.size := by obtain ⟨D, q, _⟩ := h.known; exact q.lt
  obtain ⟨qa, qc, hqv⟩ := own_form hown
  obtain ⟨k, hkl⟩ : ∃ k, ts.length = k := ⟨_, rfl⟩
  rw [hkl] at hown hqv
  subst hqv
  have hownlt : ∀ b, (Value.slice qa k qc).ownBlock = some b → b < w.heap.size := by
    obtain ⟨us', r1, _⟩ := h.rows
    exact fun b hb => (r1.lt b hb).2
  have HNP : Hid ((Value.slice qa k qc).ownBlock ≠ some pb) := Lib.hid d2
  have HNX : Hid ((Value.slice qa k qc).ownBlock ≠ some bx) := Lib.hid fun e => by have := hownlt bx e; omega
  have HI5 := Lib.hid (show (Tryz.prog.info? 52).map (fun i => (i.zero, i.size, i.bytes)) = some (some (.agg #[.slice none 0 0, .int .i64 0, .int .i64 0, .slice none 0 0, .int .i64 0]), 5, 72) by kernel_rfl)
  have HFA : Hid (∀ o, (W1.alloc (.cells #[.slice ua un uc, .int .i64 c.rule, .int .i64 c.lit, .slice ka kn kc, .int .i64 c.count] 52)).frozen? ⟨pb, o, none⟩ = false) := Lib.hid fun o => below_z ((Below.refl W1.heap.size W1).alloc (Nat.le_refl _) _) (by omega) (pf o)
  have zz2 := cell_alloc (.cells #[.slice ua un uc, .int .i64 c.rule, .int .i64 c.lit, .slice ka kn kc, .int .i64 c.count] 52) p2
  have hnr : (W1.alloc (.cells #[.slice ua un uc, .int .i64 c.rule, .int .i64 c.lit, .slice ka kn kc, .int .i64 c.count] 52)).heap[bx + 1]? = some (.cells #[.slice ua un uc, .int .i64 c.rule, .int .i64 c.lit, .slice ka kn kc, .int .i64 c.count] 52) := new_at' _ _ hs1.symm
  have hx0 : (W1.alloc (.cells #[.slice ua un uc, .int .i64 c.rule, .int .i64 c.lit, .slice ka kn kc, .int .i64 c.count] 52)).cell? ⟨bx + 1, 0, none⟩ = some (.slice ua un uc) := by rw [cell_of_row _ _ _ _ _ _ hnr]; rfl
  have hx1 : (W1.alloc (.cells #[.slice ua un uc, .int .i64 c.rule, .int .i64 c.lit, .slice ka kn kc, .int .i64 c.count] 52)).cell? ⟨bx + 1, 1, none⟩ = some (.int .i64 c.rule) := by rw [cell_of_row _ _ _ _ _ _ hnr]; rfl
  have hx2 : (W1.alloc (.cells #[.slice ua un uc, .int .i64 c.rule, .int .i64 c.lit, .slice ka kn kc, .int .i64 c.count] 52)).cell? ⟨bx + 1, 2, none⟩ = some (.int .i64 c.lit) := by rw [cell_of_row _ _ _ _ _ _ hnr]; rfl
  have hx3 : (W1.alloc (.cells #[.slice ua un uc, .int .i64 c.rule, .int .i64 c.lit, .slice ka kn kc, .int .i64 c.count] 52)).cell? ⟨bx + 1, 3, none⟩ = some (.slice ka kn kc) := by rw [cell_of_row _ _ _ _ _ _ hnr]; rfl
  have hx4 : (W1.alloc (.cells #[.slice ua un uc, .int .i64 c.rule, .int .i64 c.lit, .slice ka kn kc, .int .i64 c.count] 52)).cell? ⟨bx + 1, 4, none⟩ = some (.int .i64 c.count) := by rw [cell_of_row _ _ _ _ _ _ hnr]; rfl
  have hga : W1.grownBy (W1.alloc (.cells #[.slice ua un uc, .int .i64 c.rule, .int .i64 c.lit, .slice ka kn kc, .int .i64 c.count] 52)).drew none := ⟨rfl, rfl, rfl, by simp, fun b hb _ => Below.heap_alloc _ _ _ hb⟩
  have HGA := Lib.hid hga
  have HP := Lib.hid h
  have HP1 := Lib.hid hP1
  have HB1 := Lib.hid hb1
  have HUL := Lib.hid hul
  have HEL := Lib.hid hel
  have HKL := Lib.hid hkl
  have HCV := Lib.hid hc
  have HKD := Lib.hid hk
  have HFI := Lib.hid hf
  have HOL := Lib.hid hownlt
  have hB1 : B ≤ W1.heap.size := hlow.2.2
  have hk5 : k ≤ 100000 := by omega
  clear hcl hki hrow hb1 h hP1 hul hel hkl hc hk hf hownlt hga hkn hacc pf d1 d2 d3
  go_enter Tryz.func86, Tryz.ntmps86
  go_upto_region 1 with fail
  try rw [hW1]
  try rw [hbx]
  clear hW1
  refine wp_region_held_drew (S := fun w' => w'.cell? ⟨bx, 0, none⟩ = some (.slice ua un uc) ∧ w'.cell? ⟨bx, 1, none⟩ = some (.int .i64 c.rule) ∧ w'.cell? ⟨bx, 2, none⟩ = some (.int .i64 c.lit) ∧ w'.cell? ⟨bx, 3, none⟩ = some (.slice ka kn kc) ∧ w'.cell? ⟨bx, 4, none⟩ = some (.int .i64 c.count)) (by kernel_rfl) (by exact ⟨b0, b1, b2, b3, b4⟩) (fun hHeld => ?_)
  refine wpAnyH_take (i := 0) (v := ?_) rfl (by kernel_rfl) (by kernel_rfl) (by kernel_rfl) (fun _ _ _ h => h) (Or.inl ⟨by rfl, ?_⟩) (by assumption) ?_
  rotate_left
  · intro w hSw
    try dsimp only at hSw
    go_simp
    try with_reducible rfl
  try simp only [Act.put, List.getElem_toArray, List.getElem_cons_succ, List.getElem_cons_zero, List.setIfInBounds_toArray, List.set_cons_zero, List.set_cons_succ]
  refine wpAnyH_take (i := 1) (v := ?_) rfl (by kernel_rfl) (by kernel_rfl) (by kernel_rfl) (fun _ _ _ h => h) (Or.inl ⟨by rfl, ?_⟩) (by assumption) ?_
  rotate_left
  · intro w hSw
    try dsimp only at hSw
    go_simp
    try with_reducible rfl
  try simp only [Act.put, List.getElem_toArray, List.getElem_cons_succ, List.getElem_cons_zero, List.setIfInBounds_toArray, List.set_cons_zero, List.set_cons_succ]
  refine wpAnyH_take (i := 2) (v := ?_) rfl (by kernel_rfl) (by kernel_rfl) (by kernel_rfl) (fun _ _ _ h => h) (Or.inl ⟨by rfl, ?_⟩) (by assumption) ?_
  rotate_left
  · intro w hSw
    try dsimp only at hSw
    go_simp
    try with_reducible rfl
  try simp only [Act.put, List.getElem_toArray, List.getElem_cons_succ, List.getElem_cons_zero, List.setIfInBounds_toArray, List.set_cons_zero, List.set_cons_succ]
  refine wpAnyH_take (i := 3) (v := ?_) rfl (by kernel_rfl) (by kernel_rfl) (by kernel_rfl) (fun _ _ _ h => h) (Or.inl ⟨by rfl, ?_⟩) (by assumption) ?_
  rotate_left
  · intro w hSw
    try dsimp only at hSw
    go_simp
    try with_reducible rfl
  try simp only [Act.put, List.getElem_toArray, List.getElem_cons_succ, List.getElem_cons_zero, List.setIfInBounds_toArray, List.set_cons_zero, List.set_cons_succ]
  refine wpAnyH_take (i := 5) (v := ?_) rfl (by kernel_rfl) (by kernel_rfl) (by kernel_rfl) (fun _ _ _ h => h) (Or.inl ⟨by rfl, ?_⟩) (by assumption) ?_
  rotate_left
  · intro w hSw
    try dsimp only at hSw
    go_simp
    try with_reducible rfl
  try simp only [Act.put, List.getElem_toArray, List.getElem_cons_succ, List.getElem_cons_zero, List.setIfInBounds_toArray, List.set_cons_zero, List.set_cons_succ]
  refine wpAnyH_ready (rs := [4, 6]) (by kernel_rfl) (by simp) ?_
  refine AllReadyH.cons rfl (fun K hK => ?_) (AllReadyH.cons rfl (fun K hK => ?_) AllReadyH.nil)
  rotate_left
  · go_simp
    refine hK.out _ _ (by go_keep) (fun hHeld2 => ?_)
    clear hK K
    try simp only [Act.put, List.getElem_toArray, List.getElem_cons_succ, List.getElem_cons_zero, List.setIfInBounds_toArray, List.set_cons_zero, List.set_cons_succ]
    refine wpAnyH_ready (rs := [4]) (by kernel_rfl) (by simp) ?_
    refine AllReadyH.cons rfl (fun K hK => ?_) AllReadyH.nil
    go_simp
    refine hK.out _ _ (by go_keep) (fun hHeld2 => ?_)
    clear hK K
    try simp only [Act.put, List.getElem_toArray, List.getElem_cons_succ, List.getElem_cons_zero, List.setIfInBounds_toArray, List.set_cons_zero, List.set_cons_succ]
    refine wpAnyH_ready (rs := [7]) (by kernel_rfl) (by simp) ?_
    refine AllReadyH.cons rfl (fun K hK => ?_) AllReadyH.nil
    (refine step_push5 rfl _ _ 45 rfl 52 (.agg #[.slice none 0 0, .int .i64 0, .int .i64 0, .slice none 0 0, .int .i64 0]) 72 Tryz.underlying45 HI5.out rfl B (.slice qa k qc) k (cells5 us) (bx + 1) (.slice ua un uc) (.int .i64 c.rule) (.int .i64 c.lit) (.slice ka kn kc) (.int .i64 c.count) rfl rfl (by simp; exact hx0) (by simp; exact hx1) (by simp; exact hx2) (by simp; exact hx3) (by simp; exact hx4) (own_same (hown.alloc _) fun _ _ => rfl) rfl rfl rfl rfl rfl (by omega) (by omega) (by simp; omega) ?_; intro g9 cap9 w9 hown9 hg9 hat9; have hne9 : some pb ≠ (Value.slice qa k qc).ownBlock := (fun e => HNP.out e.symm); have r0 := grown_c2 hg9 hne9 (cell_alloc _ p0); have r1 := grown_c2 hg9 hne9 (cell_alloc _ p1); have r2 := grown_c2 hg9 hne9 (cell_alloc _ p2); have r3 := grown_c2 hg9 hne9 (cell_alloc _ p3); have r4 := grown_c2 hg9 hne9 (cell_alloc _ p4); have rf : ∀ o, w9.frozen? ⟨pb, o, none⟩ = false := (fun o => (World.frozen?_of_block (a := ⟨pb, o, none⟩) (hg9.block pb (by simp; omega) hne9)).trans (HFA.out o)); have hnb : some bx ≠ (Value.slice qa k qc).ownBlock := (fun e => HNX.out e.symm); have m0 := grown_c2 hg9 hnb (cell_alloc _ b0); have m1 := grown_c2 hg9 hnb (cell_alloc _ b1); have m2 := grown_c2 hg9 hnb (cell_alloc _ b2); have m3 := grown_c2 hg9 hnb (cell_alloc _ b3); have m4 := grown_c2 hg9 hnb (cell_alloc _ b4); have HG9 := Lib.hid hg9; have HO9 := Lib.hid hown9; have HAT := Lib.hid hat9; have rf2 := rf 2; have HRF := Lib.hid rf; clear hown9 hg9 hat9 hown rf)
    refine hK.out _ _ (by exact ⟨m0, m1, m2, m3, m4⟩) (fun hHeld2 => ?_)
    clear hK K
    try simp only [Act.put, List.getElem_toArray, List.getElem_cons_succ, List.getElem_cons_zero, List.setIfInBounds_toArray, List.set_cons_zero, List.set_cons_succ]
    refine wpAnyH_take (i := 8) (v := ?_) rfl (by kernel_rfl) (by kernel_rfl) (by kernel_rfl) (fun _ _ _ h => h) (Or.inl ⟨by rfl, ?_⟩) (by assumption) ?_
    rotate_left
    · intro w hSw
      try dsimp only at hSw
      go_simp
      try with_reducible rfl
    try simp only [Act.put, List.getElem_toArray, List.getElem_cons_succ, List.getElem_cons_zero, List.setIfInBounds_toArray, List.set_cons_zero, List.set_cons_succ]
    refine wpAnyH_take (i := 9) (v := ?_) rfl (by kernel_rfl) (by kernel_rfl) (by kernel_rfl) (fun _ _ _ h => h) (Or.inl ⟨by rfl, ?_⟩) (by assumption) ?_
    rotate_left
    · intro w hSw
      try dsimp only at hSw
      go_simp
      try with_reducible rfl
    try simp only [Act.put, List.getElem_toArray, List.getElem_cons_succ, List.getElem_cons_zero, List.setIfInBounds_toArray, List.set_cons_zero, List.set_cons_succ]
    refine wpAnyH_ready (rs := [10]) (by kernel_rfl) (by simp) ?_
    refine AllReadyH.cons rfl (fun K hK => ?_) AllReadyH.nil
    go_simp
    refine hK.out _ _ (by exact ⟨set_ne (.inl (by omega)) m0, set_ne (.inl (by omega)) m1, set_ne (.inl (by omega)) m2, set_ne (.inl (by omega)) m3, set_ne (.inl (by omega)) m4⟩) (fun hHeld2 => ?_)
    clear hK K
    try simp only [Act.put, List.getElem_toArray, List.getElem_cons_succ, List.getElem_cons_zero, List.setIfInBounds_toArray, List.set_cons_zero, List.set_cons_succ]
    refine wpAnyH_done (by kernel_rfl) ?_ _
    obtain ⟨CV, hCV⟩ : ∃ v, (Value.slice (some ⟨g9, 0, none⟩) (k + 1) cap9) = v := ⟨_, rfl⟩
    have hcvo : CV.ownBlock = some g9 := by rw [← hCV]; rfl
    have s0 := set_ne (b' := pb) (o' := 2) (u := CV) (.inr (by omega)) r0
    have s1 := set_ne (b' := pb) (o' := 2) (u := CV) (.inr (by omega)) r1
    have s2 := set_eq (u := CV) r2
    have s3 := set_ne (b' := pb) (o' := 2) (u := CV) (.inr (by omega)) r3
    have s4 := set_ne (b' := pb) (o' := 2) (u := CV) (.inr (by omega)) r4
    obtain ⟨w10, hw10⟩ : ∃ W, w9.setCell ⟨pb, 2, none⟩ CV = W := ⟨_, rfl⟩
    have HPN : Hid (PrS Ex B w10 pb mb keep CV (ts ++ [c]) n ∧ Grw pb mb (.slice qa k qc) w CV w10) := Lib.hid (by
      have hg : W1.grownBy w9 (Value.slice qa k qc).ownBlock := grow_opt' (grow_opt' (World.grownBy.refl W1 _) HGA.out (by simp)) HG9.out fun b hb => .inl hb
      have hsz9 := hg.size
      have hat : (Value.slice qa k qc).ownBlock = some g9 ∨ bx + 2 ≤ g9 := by
        rcases HAT.out with h | h
        · exact .inl h
        · right; simp at h; omega
      have hgpb : g9 ≠ pb := by
        rcases hat with h | h
        · exact fun e => HNP.out (by rw [h, e])
        · omega
      have hgmb : g9 ≠ mb := by
        rcases hat with h | h
        · exact fun e => HP.out.diff.2.2 (by rw [h, e])
        · omega
      have hblk : ∀ b, b < W1.heap.size → Apart pb mb (.slice qa k qc) b → w10.heap[b]? = W1.heap[b]? := fun b hb ha => by
        rw [← hw10, set_heap ha.1]
        exact hg.block b hb fun e => ha.2.2 e.symm
      have hap : ∀ b, b < W1.heap.size → Apart pb mb (.slice qa k qc) b → Apart pb mb CV b := fun b hb ha => ⟨ha.1, ha.2.1, fun e => by
        rw [hcvo] at e
        injection e with e
        rcases hat with h | h
        · exact ha.2.2 (by rw [h, e])
        · omega⟩
      have hs10 : w10.heap.size = w9.heap.size := by rw [← hw10]; simp
      refine ⟨⟨by rw [← hw10]; exact s0, by rw [← hw10]; exact s1, by rw [← hw10]; exact s2, by rw [← hw10]; exact s3, by rw [← hw10]; exact s4, fun o => by rw [← hw10, World.frozen?_setCell]; exact HRF.out o, ?_, ?_, ⟨HP.out.diff.1, by rw [hcvo]; exact fun e => hgpb (by injection e), by rw [hcvo]; exact fun e => hgmb (by injection e)⟩, ⟨hlow.1, hlow.2.1, by omega⟩, accS_snoc hkp.1 hkp.2 HP.out.acc HKD.out HFI.out, hkp, HSZ.out, fun b hx => by have := HEX.out b hx; omega⟩, ?_⟩
      · have hnew := claimV_and (HCV.out.below HB1.out)
        refine ⟨us ++ [(.slice ua un uc, .int .i64 c.rule, .int .i64 c.lit, .slice ka kn kc, .int .i64 c.count)], ?_, by simp [HUL.out], fun j x y hx hy => ?_⟩
        · rw [cells5_snoc, List.length_append, HKL.out, ← hCV, ← hw10]
          exact own_same HO9.out fun b hb => set_heap (fun e => hgpb (by
            have : g9 = b := by simpa [Value.ownBlock] using hb
            omega))
        · rcases Nat.lt_or_ge j us.length with hj | hj
          · rw [List.getElem?_append_left hj] at hx
            rw [List.getElem?_append_left (by rw [← HUL.out]; exact hj)] at hy
            exact ((HEL.out j x y hx hy).move fun b hb _ => hblk b hb.1 hb.2.1).mono fun b hb => ⟨by omega, hap b hb.1 hb.2.1, hb.2.2⟩
          · rw [List.getElem?_append_right hj] at hx
            rw [List.getElem?_append_right (by rw [← HUL.out]; exact hj), ← HUL.out] at hy
            rcases hq : j - us.length with _ | q
            · rw [hq] at hx hy
              simp at hx hy
              subst hx hy
              exact (hnew.move fun b hb _ => hblk b hb.1 hb.2.1).mono fun b hb => ⟨by omega, hap b hb.1 hb.2.1, hb.2.2⟩
            · rw [hq] at hx
              simp at hx
      · have h1 := HP1.out.known.kept hg (fun e => HP.out.diff.2.2 e.symm)
        rw [← hw10]
        exact (h1.kept (set_grown _ _ _ _) (fun e => HP.out.diff.1 (by injection e with e; exact e.symm))).more
      · have e1 : Grw pb mb (.slice qa k qc) w (.slice qa k qc) W1 := Grw.of_below HB1.out
        refine e1.trans ⟨?_, ?_, ?_, by omega, hblk, fun b hb => ?_⟩
        · rw [← hw10]; exact hg.os
        · rw [← hw10]; exact hg.tape
        · rw [← hw10]; exact hg.output
        · rw [hcvo] at hb
          injection hb with hb
          subst hb
          rcases hat with h | h
          · exact .inl h
          · exact .inr (by omega))
    have hcvf : CV = .slice (some ⟨g9, 0, none⟩) (k + 1) cap9 := hCV.symm
    have hwl : IntKind.i64.wrap (((k + 1 : Nat) : Int) - 1) = (k : Int) := by rw [IntWalk.i64_in _ ⟨by omega, by omega⟩]; omega
    have hf4 : w10.frozen? ⟨pb, 4, none⟩ = false := HPN.out.1.free 4
    rw [hCV]
    clear HO9 HG9 HRF HAT r0 r1 r2 r3 r4 m0 m1 m2 m3 m4 rf2 hne9 hnb
    go_upto_region 2 with fail
    rw [hw10] at s0 s1 s2 s3 s4 ⊢
    clear hw10 hCV
    refine wp_region_held_drew (S := fun w' => w'.cell? ⟨pb, 4, none⟩ = some (.bool false) ∧ w'.cell? ⟨pb, 1, none⟩ = some (.int .i64 0)) (by kernel_rfl) (by exact ⟨s4, s1⟩) (fun hHeld => ?_)
    refine wpAnyH_take (i := 0) (v := ?_) rfl (by kernel_rfl) (by kernel_rfl) (by kernel_rfl) (fun _ _ _ h => h) (Or.inl ⟨by rfl, ?_⟩) (by assumption) ?_
    rotate_left
    · intro w hSw
      try dsimp only at hSw
      go_simp
      try with_reducible rfl
    try simp only [Act.put, List.getElem_toArray, List.getElem_cons_succ, List.getElem_cons_zero, List.setIfInBounds_toArray, List.set_cons_zero, List.set_cons_succ]
    refine wpAnyH_take (i := 1) (v := ?_) rfl (by kernel_rfl) (by kernel_rfl) (by kernel_rfl) (fun _ _ _ h => h) (Or.inl ⟨by rfl, ?_⟩) (by assumption) ?_
    rotate_left
    · intro w hSw
      try dsimp only at hSw
      go_simp
      try with_reducible rfl
    try simp only [Act.put, List.getElem_toArray, List.getElem_cons_succ, List.getElem_cons_zero, List.setIfInBounds_toArray, List.set_cons_zero, List.set_cons_succ]
    refine wpAnyH_take (i := 2) (v := ?_) rfl (by kernel_rfl) (by kernel_rfl) (by kernel_rfl) (fun _ _ _ h => h) (Or.inl ⟨by rfl, ?_⟩) (by assumption) ?_
    rotate_left
    · intro w hSw
      try dsimp only at hSw
      go_simp
      try with_reducible rfl
    try simp only [Act.put, List.getElem_toArray, List.getElem_cons_succ, List.getElem_cons_zero, List.setIfInBounds_toArray, List.set_cons_zero, List.set_cons_succ]
    refine wpAnyH_take (i := 3) (v := ?_) rfl (by kernel_rfl) (by kernel_rfl) (by kernel_rfl) (fun _ _ _ h => h) (Or.inl ⟨by rfl, ?_⟩) (by assumption) ?_
    rotate_left
    · intro w hSw
      try dsimp only at hSw
      go_simp
      try with_reducible rfl
    try simp only [Act.put, List.getElem_toArray, List.getElem_cons_succ, List.getElem_cons_zero, List.setIfInBounds_toArray, List.set_cons_zero, List.set_cons_succ]
    refine wpAnyH_take (i := 4) (v := ?_) rfl (by kernel_rfl) (by kernel_rfl) (by kernel_rfl) (fun _ _ _ h => h) (Or.inl ⟨by rfl, ?_⟩) (by assumption) ?_
    rotate_left
    · intro w hSw
      try dsimp only at hSw
      go_simp
      try with_reducible rfl
    try simp only [Act.put, List.getElem_toArray, List.getElem_cons_succ, List.getElem_cons_zero, List.setIfInBounds_toArray, List.set_cons_zero, List.set_cons_succ]
    refine wpAnyH_take (i := 5) (v := ?_) rfl (by kernel_rfl) (by kernel_rfl) (by kernel_rfl) (fun _ _ _ h => h) (Or.inl ⟨by rfl, ?_⟩) (by assumption) ?_
    rotate_left
    · intro w hSw
      try dsimp only at hSw
      go_simp
      try with_reducible rfl
    try simp only [Act.put, List.getElem_toArray, List.getElem_cons_succ, List.getElem_cons_zero, List.setIfInBounds_toArray, List.set_cons_zero, List.set_cons_succ]
    refine wpAnyH_take (i := 6) (v := ?_) rfl (by kernel_rfl) (by kernel_rfl) (by kernel_rfl) (fun _ _ _ h => h) (Or.inl ⟨by rfl, ?_⟩) (by assumption) ?_
    rotate_left
    · intro w hSw
      try dsimp only at hSw
      go_simp
      try with_reducible rfl
    try simp only [Act.put, List.getElem_toArray, List.getElem_cons_succ, List.getElem_cons_zero, List.setIfInBounds_toArray, List.set_cons_zero, List.set_cons_succ]
    refine wpAnyH_take (i := 7) (v := ?_) rfl (by kernel_rfl) (by kernel_rfl) (by kernel_rfl) (fun _ _ _ h => h) (Or.inl ⟨by rfl, ?_⟩) (by assumption) ?_
    rotate_left
    · intro w hSw
      try dsimp only at hSw
      go_simp
      try with_reducible rfl
    try simp only [Act.put, List.getElem_toArray, List.getElem_cons_succ, List.getElem_cons_zero, List.setIfInBounds_toArray, List.set_cons_zero, List.set_cons_succ]
    refine wpAnyH_take (i := 8) (v := ?_) rfl (by kernel_rfl) (by kernel_rfl) (by kernel_rfl) (fun _ _ _ h => h) (Or.inl ⟨by rfl, ?_⟩) (by assumption) ?_
    rotate_left
    · intro w hSw
      try dsimp only at hSw
      go_simp
      try with_reducible rfl
    try simp only [Act.put, List.getElem_toArray, List.getElem_cons_succ, List.getElem_cons_zero, List.setIfInBounds_toArray, List.set_cons_zero, List.set_cons_succ]
    refine wpAnyH_take (i := 9) (v := ?_) rfl (by kernel_rfl) (by kernel_rfl) (by kernel_rfl) (fun _ _ _ h => h) (Or.inl ⟨by rfl, ?_⟩) (by assumption) ?_
    rotate_left
    · intro w hSw
      try dsimp only at hSw
      go_simp
      try with_reducible rfl
    try simp only [Act.put, List.getElem_toArray, List.getElem_cons_succ, List.getElem_cons_zero, List.setIfInBounds_toArray, List.set_cons_zero, List.set_cons_succ]
    refine wpAnyH_take (i := 10) (v := ?_) rfl (by kernel_rfl) (by kernel_rfl) (by kernel_rfl) (fun _ _ _ h => h) (Or.inl ⟨by rfl, ?_⟩) (by assumption) ?_
    rotate_left
    · intro w hSw
      try dsimp only at hSw
      go_simp
      try with_reducible rfl
    try simp only [Act.put, List.getElem_toArray, List.getElem_cons_succ, List.getElem_cons_zero, List.setIfInBounds_toArray, List.set_cons_zero, List.set_cons_succ]
    refine wpAnyH_take (i := 11) (v := ?_) rfl (by kernel_rfl) (by kernel_rfl) (by kernel_rfl) (fun _ _ _ h => h) (Or.inl ⟨by rfl, ?_⟩) (by assumption) ?_
    rotate_left
    · intro w hSw
      try dsimp only at hSw
      go_simp
      try with_reducible rfl
    try simp only [Act.put, List.getElem_toArray, List.getElem_cons_succ, List.getElem_cons_zero, List.setIfInBounds_toArray, List.set_cons_zero, List.set_cons_succ]
    refine wpAnyH_take (i := 12) (v := undef) rfl (by kernel_rfl) (by kernel_rfl) (by kernel_rfl) (fun _ _ _ h => h) (Or.inr ⟨by rfl, rfl⟩) (by assumption) ?_
    try simp only [Act.put, List.getElem_toArray, List.getElem_cons_succ, List.getElem_cons_zero, List.setIfInBounds_toArray, List.set_cons_zero, List.set_cons_succ]
    refine wpAnyH_take (i := 13) (v := undef) rfl (by kernel_rfl) (by kernel_rfl) (by kernel_rfl) (fun _ _ _ h => h) (Or.inr ⟨by rfl, rfl⟩) (by assumption) ?_
    try simp only [Act.put, List.getElem_toArray, List.getElem_cons_succ, List.getElem_cons_zero, List.setIfInBounds_toArray, List.set_cons_zero, List.set_cons_succ]
    refine wpAnyH_take (i := 14) (v := undef) rfl (by kernel_rfl) (by kernel_rfl) (by kernel_rfl) (fun _ _ _ h => h) (Or.inr ⟨by rfl, rfl⟩) (by assumption) ?_
    try simp only [Act.put, List.getElem_toArray, List.getElem_cons_succ, List.getElem_cons_zero, List.setIfInBounds_toArray, List.set_cons_zero, List.set_cons_succ]
    refine wpAnyH_take (i := 15) (v := undef) rfl (by kernel_rfl) (by kernel_rfl) (by kernel_rfl) (fun _ _ _ h => h) (Or.inr ⟨by rfl, rfl⟩) (by assumption) ?_
    try simp only [Act.put, List.getElem_toArray, List.getElem_cons_succ, List.getElem_cons_zero, List.setIfInBounds_toArray, List.set_cons_zero, List.set_cons_succ]
    refine wpAnyH_take (i := 16) (v := undef) rfl (by kernel_rfl) (by kernel_rfl) (by kernel_rfl) (fun _ _ _ h => h) (Or.inr ⟨by rfl, rfl⟩) (by assumption) ?_
    try simp only [Act.put, List.getElem_toArray, List.getElem_cons_succ, List.getElem_cons_zero, List.setIfInBounds_toArray, List.set_cons_zero, List.set_cons_succ]
    refine wpAnyH_take (i := 17) (v := undef) rfl (by kernel_rfl) (by kernel_rfl) (by kernel_rfl) (fun _ _ _ h => h) (Or.inr ⟨by rfl, rfl⟩) (by assumption) ?_
    try simp only [Act.put, List.getElem_toArray, List.getElem_cons_succ, List.getElem_cons_zero, List.setIfInBounds_toArray, List.set_cons_zero, List.set_cons_succ]
    refine wpAnyH_take (i := 18) (v := undef) rfl (by kernel_rfl) (by kernel_rfl) (by kernel_rfl) (fun _ _ _ h => h) (Or.inr ⟨by rfl, rfl⟩) (by assumption) ?_
    try simp only [Act.put, List.getElem_toArray, List.getElem_cons_succ, List.getElem_cons_zero, List.setIfInBounds_toArray, List.set_cons_zero, List.set_cons_succ]
    refine wpAnyH_take (i := 19) (v := undef) rfl (by kernel_rfl) (by kernel_rfl) (by kernel_rfl) (fun _ _ _ h => h) (Or.inr ⟨by rfl, rfl⟩) (by assumption) ?_
    try simp only [Act.put, List.getElem_toArray, List.getElem_cons_succ, List.getElem_cons_zero, List.setIfInBounds_toArray, List.set_cons_zero, List.set_cons_succ]
    refine wpAnyH_take (i := 20) (v := undef) rfl (by kernel_rfl) (by kernel_rfl) (by kernel_rfl) (fun _ _ _ h => h) (Or.inr ⟨by rfl, rfl⟩) (by assumption) ?_
    try simp only [Act.put, List.getElem_toArray, List.getElem_cons_succ, List.getElem_cons_zero, List.setIfInBounds_toArray, List.set_cons_zero, List.set_cons_succ]
    refine wpAnyH_take (i := 21) (v := undef) rfl (by kernel_rfl) (by kernel_rfl) (by kernel_rfl) (fun _ _ _ h => h) (Or.inr ⟨by rfl, rfl⟩) (by assumption) ?_
    try simp only [Act.put, List.getElem_toArray, List.getElem_cons_succ, List.getElem_cons_zero, List.setIfInBounds_toArray, List.set_cons_zero, List.set_cons_succ]
    refine wpAnyH_take (i := 22) (v := ?_) rfl (by kernel_rfl) (by kernel_rfl) (by kernel_rfl) (fun _ _ _ h => h) (Or.inl ⟨by rfl, ?_⟩) (by assumption) ?_
    rotate_left
    · intro w hSw
      try dsimp only at hSw
      go_simp
      try with_reducible rfl
    try simp only [Act.put, List.getElem_toArray, List.getElem_cons_succ, List.getElem_cons_zero, List.setIfInBounds_toArray, List.set_cons_zero, List.set_cons_succ]
    refine wpAnyH_take (i := 23) (v := ?_) rfl (by kernel_rfl) (by kernel_rfl) (by kernel_rfl) (fun _ _ _ h => h) (Or.inl ⟨by rfl, ?_⟩) (by assumption) ?_
    rotate_left
    · intro w hSw
      try dsimp only at hSw
      go_simp
      try with_reducible rfl
    try simp only [Act.put, List.getElem_toArray, List.getElem_cons_succ, List.getElem_cons_zero, List.setIfInBounds_toArray, List.set_cons_zero, List.set_cons_succ]
    refine wpAnyH_take (i := 24) (v := ?_) rfl (by kernel_rfl) (by kernel_rfl) (by kernel_rfl) (fun _ _ _ h => h) (Or.inl ⟨by rfl, ?_⟩) (by assumption) ?_
    rotate_left
    · intro w hSw
      try dsimp only at hSw
      go_simp
      try with_reducible rfl
    try simp only [Act.put, List.getElem_toArray, List.getElem_cons_succ, List.getElem_cons_zero, List.setIfInBounds_toArray, List.set_cons_zero, List.set_cons_succ]
    refine wpAnyH_take (i := 25) (v := ?_) rfl (by kernel_rfl) (by kernel_rfl) (by kernel_rfl) (fun _ _ _ h => h) (Or.inl ⟨by rfl, ?_⟩) (by assumption) ?_
    rotate_left
    · intro w hSw
      try dsimp only at hSw
      go_simp
      try with_reducible rfl
    try simp only [Act.put, List.getElem_toArray, List.getElem_cons_succ, List.getElem_cons_zero, List.setIfInBounds_toArray, List.set_cons_zero, List.set_cons_succ]
    refine wpAnyH_ready (rs := [26]) (by kernel_rfl) (by simp) ?_
    refine AllReadyH.cons rfl (fun K hK => ?_) AllReadyH.nil
    go_simp
    refine hK.out _ _ (by exact ⟨set_eq s4, set_ne (.inr (by omega)) s1⟩) (fun hHeld2 => ?_)
    clear hK K
    try simp only [Act.put, List.getElem_toArray, List.getElem_cons_succ, List.getElem_cons_zero, List.setIfInBounds_toArray, List.set_cons_zero, List.set_cons_succ]
    refine wpAnyH_done (by kernel_rfl) ?_ _
    have s2' := set_ne (b' := pb) (o' := 4) (u := .bool false) (.inr (by omega)) s2
    subst hcvf
    go_wp2_with fail
    go_ret
    have hp4 := HPN.out.1.set4
    have hg4 := HPN.out.2.trans (Grw.set w10 4 (.bool false))
    have hbd : Below (w10.setCell ⟨pb, 4, none⟩ (.bool false)).heap.size (w10.setCell ⟨pb, 4, none⟩ (.bool false)) (w10.setCell ⟨pb, 4, none⟩ (.bool false)).drew := (Below.refl _ _).drew
    exact ⟨_, by rw [HKL.out]; rfl, hp4.below hbd, hg4.trans (Grw.of_below hbd)⟩
  · go_simp
    refine hK.out _ _ (by exact hHeld) (fun hHeld2 => ?_)
    clear hK K
    try simp only [Act.put, List.getElem_toArray, List.getElem_cons_succ, List.getElem_cons_zero, List.setIfInBounds_toArray, List.set_cons_zero, List.set_cons_succ]
    refine wpAnyH_ready (rs := [6]) (by kernel_rfl) (by simp) ?_
    refine AllReadyH.cons rfl (fun K hK => ?_) AllReadyH.nil
    go_simp
    refine hK.out _ _ (by go_keep) (fun hHeld2 => ?_)
    clear hK K
    try simp only [Act.put, List.getElem_toArray, List.getElem_cons_succ, List.getElem_cons_zero, List.setIfInBounds_toArray, List.set_cons_zero, List.set_cons_succ]
    refine wpAnyH_ready (rs := [7]) (by kernel_rfl) (by simp) ?_
    refine AllReadyH.cons rfl (fun K hK => ?_) AllReadyH.nil
    (refine step_push5 rfl _ _ 45 rfl 52 (.agg #[.slice none 0 0, .int .i64 0, .int .i64 0, .slice none 0 0, .int .i64 0]) 72 Tryz.underlying45 HI5.out rfl B (.slice qa k qc) k (cells5 us) (bx + 1) (.slice ua un uc) (.int .i64 c.rule) (.int .i64 c.lit) (.slice ka kn kc) (.int .i64 c.count) rfl rfl (by simp; exact hx0) (by simp; exact hx1) (by simp; exact hx2) (by simp; exact hx3) (by simp; exact hx4) (own_same (hown.alloc _) fun _ _ => rfl) rfl rfl rfl rfl rfl (by omega) (by omega) (by simp; omega) ?_; intro g9 cap9 w9 hown9 hg9 hat9; have hne9 : some pb ≠ (Value.slice qa k qc).ownBlock := (fun e => HNP.out e.symm); have r0 := grown_c2 hg9 hne9 (cell_alloc _ p0); have r1 := grown_c2 hg9 hne9 (cell_alloc _ p1); have r2 := grown_c2 hg9 hne9 (cell_alloc _ p2); have r3 := grown_c2 hg9 hne9 (cell_alloc _ p3); have r4 := grown_c2 hg9 hne9 (cell_alloc _ p4); have rf : ∀ o, w9.frozen? ⟨pb, o, none⟩ = false := (fun o => (World.frozen?_of_block (a := ⟨pb, o, none⟩) (hg9.block pb (by simp; omega) hne9)).trans (HFA.out o)); have hnb : some bx ≠ (Value.slice qa k qc).ownBlock := (fun e => HNX.out e.symm); have m0 := grown_c2 hg9 hnb (cell_alloc _ b0); have m1 := grown_c2 hg9 hnb (cell_alloc _ b1); have m2 := grown_c2 hg9 hnb (cell_alloc _ b2); have m3 := grown_c2 hg9 hnb (cell_alloc _ b3); have m4 := grown_c2 hg9 hnb (cell_alloc _ b4); have HG9 := Lib.hid hg9; have HO9 := Lib.hid hown9; have HAT := Lib.hid hat9; have rf2 := rf 2; have HRF := Lib.hid rf; clear hown9 hg9 hat9 hown rf)
    refine hK.out _ _ (by exact ⟨m0, m1, m2, m3, m4⟩) (fun hHeld2 => ?_)
    clear hK K
    try simp only [Act.put, List.getElem_toArray, List.getElem_cons_succ, List.getElem_cons_zero, List.setIfInBounds_toArray, List.set_cons_zero, List.set_cons_succ]
    refine wpAnyH_take (i := 8) (v := ?_) rfl (by kernel_rfl) (by kernel_rfl) (by kernel_rfl) (fun _ _ _ h => h) (Or.inl ⟨by rfl, ?_⟩) (by assumption) ?_
    rotate_left
    · intro w hSw
      try dsimp only at hSw
      go_simp
      try with_reducible rfl
    try simp only [Act.put, List.getElem_toArray, List.getElem_cons_succ, List.getElem_cons_zero, List.setIfInBounds_toArray, List.set_cons_zero, List.set_cons_succ]
    refine wpAnyH_take (i := 9) (v := ?_) rfl (by kernel_rfl) (by kernel_rfl) (by kernel_rfl) (fun _ _ _ h => h) (Or.inl ⟨by rfl, ?_⟩) (by assumption) ?_
    rotate_left
    · intro w hSw
      try dsimp only at hSw
      go_simp
      try with_reducible rfl
    try simp only [Act.put, List.getElem_toArray, List.getElem_cons_succ, List.getElem_cons_zero, List.setIfInBounds_toArray, List.set_cons_zero, List.set_cons_succ]
    refine wpAnyH_ready (rs := [10]) (by kernel_rfl) (by simp) ?_
    refine AllReadyH.cons rfl (fun K hK => ?_) AllReadyH.nil
    go_simp
    refine hK.out _ _ (by exact ⟨set_ne (.inl (by omega)) m0, set_ne (.inl (by omega)) m1, set_ne (.inl (by omega)) m2, set_ne (.inl (by omega)) m3, set_ne (.inl (by omega)) m4⟩) (fun hHeld2 => ?_)
    clear hK K
    try simp only [Act.put, List.getElem_toArray, List.getElem_cons_succ, List.getElem_cons_zero, List.setIfInBounds_toArray, List.set_cons_zero, List.set_cons_succ]
    refine wpAnyH_done (by kernel_rfl) ?_ _
    obtain ⟨CV, hCV⟩ : ∃ v, (Value.slice (some ⟨g9, 0, none⟩) (k + 1) cap9) = v := ⟨_, rfl⟩
    have hcvo : CV.ownBlock = some g9 := by rw [← hCV]; rfl
    have s0 := set_ne (b' := pb) (o' := 2) (u := CV) (.inr (by omega)) r0
    have s1 := set_ne (b' := pb) (o' := 2) (u := CV) (.inr (by omega)) r1
    have s2 := set_eq (u := CV) r2
    have s3 := set_ne (b' := pb) (o' := 2) (u := CV) (.inr (by omega)) r3
    have s4 := set_ne (b' := pb) (o' := 2) (u := CV) (.inr (by omega)) r4
    obtain ⟨w10, hw10⟩ : ∃ W, w9.setCell ⟨pb, 2, none⟩ CV = W := ⟨_, rfl⟩
    have HPN : Hid (PrS Ex B w10 pb mb keep CV (ts ++ [c]) n ∧ Grw pb mb (.slice qa k qc) w CV w10) := Lib.hid (by
      have hg : W1.grownBy w9 (Value.slice qa k qc).ownBlock := grow_opt' (grow_opt' (World.grownBy.refl W1 _) HGA.out (by simp)) HG9.out fun b hb => .inl hb
      have hsz9 := hg.size
      have hat : (Value.slice qa k qc).ownBlock = some g9 ∨ bx + 2 ≤ g9 := by
        rcases HAT.out with h | h
        · exact .inl h
        · right; simp at h; omega
      have hgpb : g9 ≠ pb := by
        rcases hat with h | h
        · exact fun e => HNP.out (by rw [h, e])
        · omega
      have hgmb : g9 ≠ mb := by
        rcases hat with h | h
        · exact fun e => HP.out.diff.2.2 (by rw [h, e])
        · omega
      have hblk : ∀ b, b < W1.heap.size → Apart pb mb (.slice qa k qc) b → w10.heap[b]? = W1.heap[b]? := fun b hb ha => by
        rw [← hw10, set_heap ha.1]
        exact hg.block b hb fun e => ha.2.2 e.symm
      have hap : ∀ b, b < W1.heap.size → Apart pb mb (.slice qa k qc) b → Apart pb mb CV b := fun b hb ha => ⟨ha.1, ha.2.1, fun e => by
        rw [hcvo] at e
        injection e with e
        rcases hat with h | h
        · exact ha.2.2 (by rw [h, e])
        · omega⟩
      have hs10 : w10.heap.size = w9.heap.size := by rw [← hw10]; simp
      refine ⟨⟨by rw [← hw10]; exact s0, by rw [← hw10]; exact s1, by rw [← hw10]; exact s2, by rw [← hw10]; exact s3, by rw [← hw10]; exact s4, fun o => by rw [← hw10, World.frozen?_setCell]; exact HRF.out o, ?_, ?_, ⟨HP.out.diff.1, by rw [hcvo]; exact fun e => hgpb (by injection e), by rw [hcvo]; exact fun e => hgmb (by injection e)⟩, ⟨hlow.1, hlow.2.1, by omega⟩, accS_snoc hkp.1 hkp.2 HP.out.acc HKD.out HFI.out, hkp, HSZ.out, fun b hx => by have := HEX.out b hx; omega⟩, ?_⟩
      · have hnew := claimV_and (HCV.out.below HB1.out)
        refine ⟨us ++ [(.slice ua un uc, .int .i64 c.rule, .int .i64 c.lit, .slice ka kn kc, .int .i64 c.count)], ?_, by simp [HUL.out], fun j x y hx hy => ?_⟩
        · rw [cells5_snoc, List.length_append, HKL.out, ← hCV, ← hw10]
          exact own_same HO9.out fun b hb => set_heap (fun e => hgpb (by
            have : g9 = b := by simpa [Value.ownBlock] using hb
            omega))
        · rcases Nat.lt_or_ge j us.length with hj | hj
          · rw [List.getElem?_append_left hj] at hx
            rw [List.getElem?_append_left (by rw [← HUL.out]; exact hj)] at hy
            exact ((HEL.out j x y hx hy).move fun b hb _ => hblk b hb.1 hb.2.1).mono fun b hb => ⟨by omega, hap b hb.1 hb.2.1, hb.2.2⟩
          · rw [List.getElem?_append_right hj] at hx
            rw [List.getElem?_append_right (by rw [← HUL.out]; exact hj), ← HUL.out] at hy
            rcases hq : j - us.length with _ | q
            · rw [hq] at hx hy
              simp at hx hy
              subst hx hy
              exact (hnew.move fun b hb _ => hblk b hb.1 hb.2.1).mono fun b hb => ⟨by omega, hap b hb.1 hb.2.1, hb.2.2⟩
            · rw [hq] at hx
              simp at hx
      · have h1 := HP1.out.known.kept hg (fun e => HP.out.diff.2.2 e.symm)
        rw [← hw10]
        exact (h1.kept (set_grown _ _ _ _) (fun e => HP.out.diff.1 (by injection e with e; exact e.symm))).more
      · have e1 : Grw pb mb (.slice qa k qc) w (.slice qa k qc) W1 := Grw.of_below HB1.out
        refine e1.trans ⟨?_, ?_, ?_, by omega, hblk, fun b hb => ?_⟩
        · rw [← hw10]; exact hg.os
        · rw [← hw10]; exact hg.tape
        · rw [← hw10]; exact hg.output
        · rw [hcvo] at hb
          injection hb with hb
          subst hb
          rcases hat with h | h
          · exact .inl h
          · exact .inr (by omega))
    have hcvf : CV = .slice (some ⟨g9, 0, none⟩) (k + 1) cap9 := hCV.symm
    have hwl : IntKind.i64.wrap (((k + 1 : Nat) : Int) - 1) = (k : Int) := by rw [IntWalk.i64_in _ ⟨by omega, by omega⟩]; omega
    have hf4 : w10.frozen? ⟨pb, 4, none⟩ = false := HPN.out.1.free 4
    rw [hCV]
    clear HO9 HG9 HRF HAT r0 r1 r2 r3 r4 m0 m1 m2 m3 m4 rf2 hne9 hnb
    go_upto_region 2 with fail
    rw [hw10] at s0 s1 s2 s3 s4 ⊢
    clear hw10 hCV
    refine wp_region_held_drew (S := fun w' => w'.cell? ⟨pb, 4, none⟩ = some (.bool false) ∧ w'.cell? ⟨pb, 1, none⟩ = some (.int .i64 0)) (by kernel_rfl) (by exact ⟨s4, s1⟩) (fun hHeld => ?_)
    refine wpAnyH_take (i := 0) (v := ?_) rfl (by kernel_rfl) (by kernel_rfl) (by kernel_rfl) (fun _ _ _ h => h) (Or.inl ⟨by rfl, ?_⟩) (by assumption) ?_
    rotate_left
    · intro w hSw
      try dsimp only at hSw
      go_simp
      try with_reducible rfl
    try simp only [Act.put, List.getElem_toArray, List.getElem_cons_succ, List.getElem_cons_zero, List.setIfInBounds_toArray, List.set_cons_zero, List.set_cons_succ]
    refine wpAnyH_take (i := 1) (v := ?_) rfl (by kernel_rfl) (by kernel_rfl) (by kernel_rfl) (fun _ _ _ h => h) (Or.inl ⟨by rfl, ?_⟩) (by assumption) ?_
    rotate_left
    · intro w hSw
      try dsimp only at hSw
      go_simp
      try with_reducible rfl
    try simp only [Act.put, List.getElem_toArray, List.getElem_cons_succ, List.getElem_cons_zero, List.setIfInBounds_toArray, List.set_cons_zero, List.set_cons_succ]
    refine wpAnyH_take (i := 2) (v := ?_) rfl (by kernel_rfl) (by kernel_rfl) (by kernel_rfl) (fun _ _ _ h => h) (Or.inl ⟨by rfl, ?_⟩) (by assumption) ?_
    rotate_left
    · intro w hSw
      try dsimp only at hSw
      go_simp
      try with_reducible rfl
    try simp only [Act.put, List.getElem_toArray, List.getElem_cons_succ, List.getElem_cons_zero, List.setIfInBounds_toArray, List.set_cons_zero, List.set_cons_succ]
    refine wpAnyH_take (i := 3) (v := ?_) rfl (by kernel_rfl) (by kernel_rfl) (by kernel_rfl) (fun _ _ _ h => h) (Or.inl ⟨by rfl, ?_⟩) (by assumption) ?_
    rotate_left
    · intro w hSw
      try dsimp only at hSw
      go_simp
      try with_reducible rfl
    try simp only [Act.put, List.getElem_toArray, List.getElem_cons_succ, List.getElem_cons_zero, List.setIfInBounds_toArray, List.set_cons_zero, List.set_cons_succ]
    refine wpAnyH_take (i := 4) (v := ?_) rfl (by kernel_rfl) (by kernel_rfl) (by kernel_rfl) (fun _ _ _ h => h) (Or.inl ⟨by rfl, ?_⟩) (by assumption) ?_
    rotate_left
    · intro w hSw
      try dsimp only at hSw
      go_simp
      try with_reducible rfl
    try simp only [Act.put, List.getElem_toArray, List.getElem_cons_succ, List.getElem_cons_zero, List.setIfInBounds_toArray, List.set_cons_zero, List.set_cons_succ]
    refine wpAnyH_take (i := 5) (v := ?_) rfl (by kernel_rfl) (by kernel_rfl) (by kernel_rfl) (fun _ _ _ h => h) (Or.inl ⟨by rfl, ?_⟩) (by assumption) ?_
    rotate_left
    · intro w hSw
      try dsimp only at hSw
      go_simp
      try with_reducible rfl
    try simp only [Act.put, List.getElem_toArray, List.getElem_cons_succ, List.getElem_cons_zero, List.setIfInBounds_toArray, List.set_cons_zero, List.set_cons_succ]
    refine wpAnyH_take (i := 6) (v := ?_) rfl (by kernel_rfl) (by kernel_rfl) (by kernel_rfl) (fun _ _ _ h => h) (Or.inl ⟨by rfl, ?_⟩) (by assumption) ?_
    rotate_left
    · intro w hSw
      try dsimp only at hSw
      go_simp
      try with_reducible rfl
    try simp only [Act.put, List.getElem_toArray, List.getElem_cons_succ, List.getElem_cons_zero, List.setIfInBounds_toArray, List.set_cons_zero, List.set_cons_succ]
    refine wpAnyH_take (i := 7) (v := ?_) rfl (by kernel_rfl) (by kernel_rfl) (by kernel_rfl) (fun _ _ _ h => h) (Or.inl ⟨by rfl, ?_⟩) (by assumption) ?_
    rotate_left
    · intro w hSw
      try dsimp only at hSw
      go_simp
      try with_reducible rfl
    try simp only [Act.put, List.getElem_toArray, List.getElem_cons_succ, List.getElem_cons_zero, List.setIfInBounds_toArray, List.set_cons_zero, List.set_cons_succ]
    refine wpAnyH_take (i := 8) (v := ?_) rfl (by kernel_rfl) (by kernel_rfl) (by kernel_rfl) (fun _ _ _ h => h) (Or.inl ⟨by rfl, ?_⟩) (by assumption) ?_
    rotate_left
    · intro w hSw
      try dsimp only at hSw
      go_simp
      try with_reducible rfl
    try simp only [Act.put, List.getElem_toArray, List.getElem_cons_succ, List.getElem_cons_zero, List.setIfInBounds_toArray, List.set_cons_zero, List.set_cons_succ]
    refine wpAnyH_take (i := 9) (v := ?_) rfl (by kernel_rfl) (by kernel_rfl) (by kernel_rfl) (fun _ _ _ h => h) (Or.inl ⟨by rfl, ?_⟩) (by assumption) ?_
    rotate_left
    · intro w hSw
      try dsimp only at hSw
      go_simp
      try with_reducible rfl
    try simp only [Act.put, List.getElem_toArray, List.getElem_cons_succ, List.getElem_cons_zero, List.setIfInBounds_toArray, List.set_cons_zero, List.set_cons_succ]
    refine wpAnyH_take (i := 10) (v := ?_) rfl (by kernel_rfl) (by kernel_rfl) (by kernel_rfl) (fun _ _ _ h => h) (Or.inl ⟨by rfl, ?_⟩) (by assumption) ?_
    rotate_left
    · intro w hSw
      try dsimp only at hSw
      go_simp
      try with_reducible rfl
    try simp only [Act.put, List.getElem_toArray, List.getElem_cons_succ, List.getElem_cons_zero, List.setIfInBounds_toArray, List.set_cons_zero, List.set_cons_succ]
    refine wpAnyH_take (i := 11) (v := ?_) rfl (by kernel_rfl) (by kernel_rfl) (by kernel_rfl) (fun _ _ _ h => h) (Or.inl ⟨by rfl, ?_⟩) (by assumption) ?_
    rotate_left
    · intro w hSw
      try dsimp only at hSw
      go_simp
      try with_reducible rfl
    try simp only [Act.put, List.getElem_toArray, List.getElem_cons_succ, List.getElem_cons_zero, List.setIfInBounds_toArray, List.set_cons_zero, List.set_cons_succ]
    refine wpAnyH_take (i := 12) (v := undef) rfl (by kernel_rfl) (by kernel_rfl) (by kernel_rfl) (fun _ _ _ h => h) (Or.inr ⟨by rfl, rfl⟩) (by assumption) ?_
    try simp only [Act.put, List.getElem_toArray, List.getElem_cons_succ, List.getElem_cons_zero, List.setIfInBounds_toArray, List.set_cons_zero, List.set_cons_succ]
    refine wpAnyH_take (i := 13) (v := undef) rfl (by kernel_rfl) (by kernel_rfl) (by kernel_rfl) (fun _ _ _ h => h) (Or.inr ⟨by rfl, rfl⟩) (by assumption) ?_
    try simp only [Act.put, List.getElem_toArray, List.getElem_cons_succ, List.getElem_cons_zero, List.setIfInBounds_toArray, List.set_cons_zero, List.set_cons_succ]
    refine wpAnyH_take (i := 14) (v := undef) rfl (by kernel_rfl) (by kernel_rfl) (by kernel_rfl) (fun _ _ _ h => h) (Or.inr ⟨by rfl, rfl⟩) (by assumption) ?_
    try simp only [Act.put, List.getElem_toArray, List.getElem_cons_succ, List.getElem_cons_zero, List.setIfInBounds_toArray, List.set_cons_zero, List.set_cons_succ]
    refine wpAnyH_take (i := 15) (v := undef) rfl (by kernel_rfl) (by kernel_rfl) (by kernel_rfl) (fun _ _ _ h => h) (Or.inr ⟨by rfl, rfl⟩) (by assumption) ?_
    try simp only [Act.put, List.getElem_toArray, List.getElem_cons_succ, List.getElem_cons_zero, List.setIfInBounds_toArray, List.set_cons_zero, List.set_cons_succ]
    refine wpAnyH_take (i := 16) (v := undef) rfl (by kernel_rfl) (by kernel_rfl) (by kernel_rfl) (fun _ _ _ h => h) (Or.inr ⟨by rfl, rfl⟩) (by assumption) ?_
    try simp only [Act.put, List.getElem_toArray, List.getElem_cons_succ, List.getElem_cons_zero, List.setIfInBounds_toArray, List.set_cons_zero, List.set_cons_succ]
    refine wpAnyH_take (i := 17) (v := undef) rfl (by kernel_rfl) (by kernel_rfl) (by kernel_rfl) (fun _ _ _ h => h) (Or.inr ⟨by rfl, rfl⟩) (by assumption) ?_
    try simp only [Act.put, List.getElem_toArray, List.getElem_cons_succ, List.getElem_cons_zero, List.setIfInBounds_toArray, List.set_cons_zero, List.set_cons_succ]
    refine wpAnyH_take (i := 18) (v := undef) rfl (by kernel_rfl) (by kernel_rfl) (by kernel_rfl) (fun _ _ _ h => h) (Or.inr ⟨by rfl, rfl⟩) (by assumption) ?_
    try simp only [Act.put, List.getElem_toArray, List.getElem_cons_succ, List.getElem_cons_zero, List.setIfInBounds_toArray, List.set_cons_zero, List.set_cons_succ]
    refine wpAnyH_take (i := 19) (v := undef) rfl (by kernel_rfl) (by kernel_rfl) (by kernel_rfl) (fun _ _ _ h => h) (Or.inr ⟨by rfl, rfl⟩) (by assumption) ?_
    try simp only [Act.put, List.getElem_toArray, List.getElem_cons_succ, List.getElem_cons_zero, List.setIfInBounds_toArray, List.set_cons_zero, List.set_cons_succ]
    refine wpAnyH_take (i := 20) (v := undef) rfl (by kernel_rfl) (by kernel_rfl) (by kernel_rfl) (fun _ _ _ h => h) (Or.inr ⟨by rfl, rfl⟩) (by assumption) ?_
    try simp only [Act.put, List.getElem_toArray, List.getElem_cons_succ, List.getElem_cons_zero, List.setIfInBounds_toArray, List.set_cons_zero, List.set_cons_succ]
    refine wpAnyH_take (i := 21) (v := undef) rfl (by kernel_rfl) (by kernel_rfl) (by kernel_rfl) (fun _ _ _ h => h) (Or.inr ⟨by rfl, rfl⟩) (by assumption) ?_
    try simp only [Act.put, List.getElem_toArray, List.getElem_cons_succ, List.getElem_cons_zero, List.setIfInBounds_toArray, List.set_cons_zero, List.set_cons_succ]
    refine wpAnyH_take (i := 22) (v := ?_) rfl (by kernel_rfl) (by kernel_rfl) (by kernel_rfl) (fun _ _ _ h => h) (Or.inl ⟨by rfl, ?_⟩) (by assumption) ?_
    rotate_left
    · intro w hSw
      try dsimp only at hSw
      go_simp
      try with_reducible rfl
    try simp only [Act.put, List.getElem_toArray, List.getElem_cons_succ, List.getElem_cons_zero, List.setIfInBounds_toArray, List.set_cons_zero, List.set_cons_succ]
    refine wpAnyH_take (i := 23) (v := ?_) rfl (by kernel_rfl) (by kernel_rfl) (by kernel_rfl) (fun _ _ _ h => h) (Or.inl ⟨by rfl, ?_⟩) (by assumption) ?_
    rotate_left
    · intro w hSw
      try dsimp only at hSw
      go_simp
      try with_reducible rfl
    try simp only [Act.put, List.getElem_toArray, List.getElem_cons_succ, List.getElem_cons_zero, List.setIfInBounds_toArray, List.set_cons_zero, List.set_cons_succ]
    refine wpAnyH_take (i := 24) (v := ?_) rfl (by kernel_rfl) (by kernel_rfl) (by kernel_rfl) (fun _ _ _ h => h) (Or.inl ⟨by rfl, ?_⟩) (by assumption) ?_
    rotate_left
    · intro w hSw
      try dsimp only at hSw
      go_simp
      try with_reducible rfl
    try simp only [Act.put, List.getElem_toArray, List.getElem_cons_succ, List.getElem_cons_zero, List.setIfInBounds_toArray, List.set_cons_zero, List.set_cons_succ]
    refine wpAnyH_take (i := 25) (v := ?_) rfl (by kernel_rfl) (by kernel_rfl) (by kernel_rfl) (fun _ _ _ h => h) (Or.inl ⟨by rfl, ?_⟩) (by assumption) ?_
    rotate_left
    · intro w hSw
      try dsimp only at hSw
      go_simp
      try with_reducible rfl
    try simp only [Act.put, List.getElem_toArray, List.getElem_cons_succ, List.getElem_cons_zero, List.setIfInBounds_toArray, List.set_cons_zero, List.set_cons_succ]
    refine wpAnyH_ready (rs := [26]) (by kernel_rfl) (by simp) ?_
    refine AllReadyH.cons rfl (fun K hK => ?_) AllReadyH.nil
    go_simp
    refine hK.out _ _ (by exact ⟨set_eq s4, set_ne (.inr (by omega)) s1⟩) (fun hHeld2 => ?_)
    clear hK K
    try simp only [Act.put, List.getElem_toArray, List.getElem_cons_succ, List.getElem_cons_zero, List.setIfInBounds_toArray, List.set_cons_zero, List.set_cons_succ]
    refine wpAnyH_done (by kernel_rfl) ?_ _
    have s2' := set_ne (b' := pb) (o' := 4) (u := .bool false) (.inr (by omega)) s2
    subst hcvf
    go_wp2_with fail
    go_ret
    have hp4 := HPN.out.1.set4
    have hg4 := HPN.out.2.trans (Grw.set w10 4 (.bool false))
    have hbd : Below (w10.setCell ⟨pb, 4, none⟩ (.bool false)).heap.size (w10.setCell ⟨pb, 4, none⟩ (.bool false)) (w10.setCell ⟨pb, 4, none⟩ (.bool false)).drew := (Below.refl _ _).drew
    exact ⟨_, by rw [HKL.out]; rfl, hp4.below hbd, hg4.trans (Grw.of_below hbd)⟩
end Go.Proofs.YthanfjpmcckbhaaGreatDoor
