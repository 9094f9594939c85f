/- (Text seat) The reader in memory; walk of word, of the package cnf. No condition but the lengths. -/
import Derived.Test.YthkpobipndifoaaGreatDoorMs
namespace Go.Proofs.YthkpobipndifoaaGreatDoor
open Go.ChangeShapes Go.WideShapes Go.ChangeAt Go.RowKit Go.Lib
set_option linter.unusedVariables false
set_option linter.unusedSimpArgs false

/-- a reader in block R: its text, how far it is, whether it met a fault -/
structure RdS (w : World) (R : Nat) (T : ByteArray) (a : Nat) (b : Bool) : Prop where
  c0 : w.cell? ⟨R, 0, none⟩ = some (.string T)
  c1 : w.cell? ⟨R, 1, none⟩ = some (.int .i64 a)
  c2 : w.cell? ⟨R, 2, none⟩ = some (.bool b)
  fz : ∀ o, w.frozen? ⟨R, o, none⟩ = false
theorem RdS.same {w w' : World} {R : Nat} {T : ByteArray} {a : Nat} {b : Bool} (h : RdS w R T a b) (hm : w'.heap[R]? = w.heap[R]?) : RdS w' R T a b :=
  ⟨(World.cell?_of_block hm).trans h.c0, (World.cell?_of_block hm).trans h.c1, (World.cell?_of_block hm).trans h.c2, fun o => (World.frozen?_of_block (a := ⟨R, o, none⟩) hm).trans (h.fz o)⟩
theorem RdS.below {w w' : World} {R : Nat} {T : ByteArray} {a : Nat} {b : Bool} (h : RdS w R T a b) (hb : Below w.heap.size w w') : RdS w' R T a b := h.same (hb.block R (block_lt h.c0))
theorem RdS.setA {w : World} {R : Nat} {T : ByteArray} {a : Nat} {b : Bool} (h : RdS w R T a b) (a' : Nat) : RdS (w.setCell ⟨R, 1, none⟩ (.int .i64 a')) R T a' b :=
  ⟨set_ne (by omega) h.c0, set_eq h.c1, set_ne (by omega) h.c2, fun o => by rw [World.frozen?_setCell]; exact h.fz o⟩
theorem RdS.setB {w : World} {R : Nat} {T : ByteArray} {a : Nat} {b : Bool} (h : RdS w R T a b) (b' : Bool) : RdS (w.setCell ⟨R, 2, none⟩ (.bool b')) R T a b' :=
  ⟨set_ne (by omega) h.c0, set_ne (by omega) h.c1, set_eq h.c2, fun o => by rw [World.frozen?_setCell]; exact h.fz o⟩
/-- only block R was turned, and the world has grown -/
abbrev KpR (R : Nat) (w w' : World) : Prop := w.grownBy w' (some R)
theorem kpr_set (R o : Nat) (v : Value) (w : World) : KpR R w (w.setCell ⟨R, o, none⟩ v) := ⟨rfl, rfl, rfl, by simp, fun k _ hk => Below.heap_setCell _ _ _ _ (fun e => hk (by rw [e]))⟩
theorem kpr_below {R : Nat} {w w' : World} (h : Below w.heap.size w w') : KpR R w w' := ⟨h.os, h.tape, h.output, h.size, fun k hk _ => h.block k hk⟩
theorem kpr_trans {R : Nat} {w w1 w2 : World} (h : KpR R w w1) (h2 : KpR R w1 w2) : KpR R w w2 :=
  ⟨h2.os.trans h.os, h2.tape.trans h.tape, h2.output.trans h.output, Nat.le_trans h.size h2.size, fun k hk hne => (h2.block k (Nat.lt_of_lt_of_le hk h.size) hne).trans (h.block k hk hne)⟩
theorem kpr_b {R B : Nat} {w w' : World} (h : KpR R w w') (hB : B ≤ R) (hw : B ≤ w.heap.size) : Below B w w' := ⟨h.os, h.tape, h.output, h.size, fun k hk => h.block k (by omega) (fun e => by injection e with e; omega)⟩
theorem ba_drop (t : Bts) (a : Nat) : ((BA t).extract a (BA t).size).data.toList = t.drop a := by
  rw [ba_size]
  simp [ByteArray.data_extract, List.take_of_length_le]
def WrdPost (W : World) (R : Nat) (T : ByteArray) (t : Bts) (a : Nat) (b : Bool) (wd : Bts) (e : Ending) (w' : World) : Prop :=
  ∃ a', e = .returned (.tuple #[]) ∧ RdS w' R T a' (b || wordB wd (t.drop a)) ∧ a' ≤ t.length ∧ t.drop a' = wordR wd (t.drop a) ∧ KpR R W w'
set_option maxRecDepth 100000 in
set_option maxHeartbeats 8000000 in
theorem word_any (R : Nat) (T : ByteArray) (t : Bts) (a : Nat) (b : Bool) (s : ByteArray) (wd : Bts) (w : World) (h : RdS w R T a b) (hT : T = BA t) (ha : a ≤ t.length) (htl : t.length ≤ 10000000) (hs : s = BA wd) (hwl : wd.length ≤ 100) :
    Calls Tryz.prog 15 #[.pointer (some ⟨R, 0, none⟩), .string s] w (WrdPost w R T t a b wd) := by
  have c0 := h.c0
  have c1 := h.c1
  have c2 := h.c2
  have f1 := h.fz 1
  have f2 := h.fz 2
  have hsz : T.size = t.length := by rw [hT, ba_size]
  have hss : s.size = wd.length := by rw [hs, ba_size]
  have ha0 : (0 : Int) ≤ a := by omega
  have ha1 : (a : Int) ≤ T.size := by omega
  have ha2 : a ≤ T.size := by omega
  obtain ⟨U, hU⟩ : ∃ U, T.extract a T.size = U := ⟨_, rfl⟩
  obtain ⟨P, hP⟩ : ∃ P, Lib.hasPrefix U.data.toList s.data.toList = P := ⟨_, rfl⟩
  have HP : Hid (P = wd.isPrefixOf (t.drop a)) := Lib.hid (by
    rw [← hP, ← hU, hT, ba_drop, hs]
    show (BA wd).data.toList.isPrefixOf _ = _
    simp)
  have HC : Hid (∀ w, Calls Tryz.prog 35 #[.string U, .string s] w fun e w' => e = .returned (.bool P) ∧ w' = w) := Lib.hid fun w => by rw [← hP]; exact Any.strings_HasPrefix hasPre U s w
  have hw : wrap64 ((a : Int) + s.size) = (a : Int) + s.size := IntWalk.wrap64_in _ ⟨by omega, by omega⟩
  have hw' : IntKind.i64.wrap ((a : Int) + s.size) = (a : Int) + s.size := IntWalk.i64_in _ ⟨by omega, by omega⟩
  have HR := Lib.hid h
  have HU := Lib.hid hU
  have HA := Lib.hid (And.intro ha (And.intro hsz hss))
  clear h hP hs hT hwl htl ha hsz hss hU
  go_enter Tryz.func15, Tryz.ntmps15
  go_upto_region 0 with fail
  refine wp_region_held_drew (S := fun w' => w'.cell? ⟨R, 0, none⟩ = some (.string T) ∧ w'.cell? ⟨R, 1, none⟩ = some (.int .i64 a)) (by kernel_rfl) (by exact ⟨c0, c1⟩) (fun hHeld => ?_)
  refine wpAnyH_take (i := 0) (v := ?_) rfl (by kernel_rfl) (by kernel_rfl) (by kernel_rfl) (fun _ _ _ h => h) (Or.inl ⟨by rfl, ?_⟩) (by assumption) ?_
  rotate_left
  · intro w hSw
    try dsimp only at hSw
    go_simp
    try with_reducible rfl
  try simp only [Act.put, List.getElem_toArray, List.getElem_cons_succ, List.getElem_cons_zero, List.setIfInBounds_toArray, List.set_cons_zero, List.set_cons_succ]
  refine wpAnyH_take (i := 1) (v := ?_) rfl (by kernel_rfl) (by kernel_rfl) (by kernel_rfl) (fun _ _ _ h => h) (Or.inl ⟨by rfl, ?_⟩) (by assumption) ?_
  rotate_left
  · intro w hSw
    try dsimp only at hSw
    go_simp
    try with_reducible rfl
  try simp only [Act.put, List.getElem_toArray, List.getElem_cons_succ, List.getElem_cons_zero, List.setIfInBounds_toArray, List.set_cons_zero, List.set_cons_succ]
  refine wpAnyH_take (i := 2) (v := ?_) rfl (by kernel_rfl) (by kernel_rfl) (by kernel_rfl) (fun _ _ _ h => h) (Or.inl ⟨by rfl, ?_⟩) (by assumption) ?_
  rotate_left
  · intro w hSw
    try dsimp only at hSw
    go_simp
    try with_reducible rfl
  try simp only [Act.put, List.getElem_toArray, List.getElem_cons_succ, List.getElem_cons_zero, List.setIfInBounds_toArray, List.set_cons_zero, List.set_cons_succ]
  refine wpAnyH_take (i := 3) (v := ?_) rfl (by kernel_rfl) (by kernel_rfl) (by kernel_rfl) (fun _ _ _ h => h) (Or.inl ⟨by rfl, ?_⟩) (by assumption) ?_
  rotate_left
  · intro w hSw
    try dsimp only at hSw
    go_simp
    try with_reducible rfl
  try simp only [Act.put, List.getElem_toArray, List.getElem_cons_succ, List.getElem_cons_zero, List.setIfInBounds_toArray, List.set_cons_zero, List.set_cons_succ]
  refine wpAnyH_take (i := 4) (v := ?_) rfl (by kernel_rfl) (by kernel_rfl) (by kernel_rfl) (fun _ _ _ h => h) (Or.inl ⟨by rfl, ?_⟩) (by assumption) ?_
  rotate_left
  · intro w hSw
    try dsimp only at hSw
    go_simp
    try with_reducible rfl
  try simp only [Act.put, List.getElem_toArray, List.getElem_cons_succ, List.getElem_cons_zero, List.setIfInBounds_toArray, List.set_cons_zero, List.set_cons_succ]
  refine wpAnyH_take (i := 5) (v := ?_) rfl (by kernel_rfl) (by kernel_rfl) (by kernel_rfl) (fun _ _ _ h => h) (Or.inl ⟨by rfl, ?_⟩) (by assumption) ?_
  rotate_left
  · intro w hSw
    try dsimp only at hSw
    go_simp
    try with_reducible rfl
  try simp only [Act.put, List.getElem_toArray, List.getElem_cons_succ, List.getElem_cons_zero, List.setIfInBounds_toArray, List.set_cons_zero, List.set_cons_succ]
  refine wpAnyH_take (i := 6) (v := ?_) rfl (by kernel_rfl) (by kernel_rfl) (by kernel_rfl) (fun _ _ _ h => h) (Or.inl ⟨by rfl, ?_⟩) (by assumption) ?_
  rotate_left
  · intro w hSw
    try dsimp only at hSw
    go_simp
    try with_reducible rfl
  try simp only [Act.put, List.getElem_toArray, List.getElem_cons_succ, List.getElem_cons_zero, List.setIfInBounds_toArray, List.set_cons_zero, List.set_cons_succ]
  refine wpAnyH_take (i := 7) (v := ?_) rfl (by kernel_rfl) (by kernel_rfl) (by kernel_rfl) (fun _ _ _ h => h) (Or.inl ⟨by rfl, ?_⟩) (by assumption) ?_
  rotate_left
  · intro w hSw
    try dsimp only at hSw
    go_simp
    try with_reducible rfl
  try simp only [Act.put, List.getElem_toArray, List.getElem_cons_succ, List.getElem_cons_zero, List.setIfInBounds_toArray, List.set_cons_zero, List.set_cons_succ]
  refine wpAnyH_take (i := 8) (v := ?_) rfl (by kernel_rfl) (by kernel_rfl) (by kernel_rfl) (fun _ _ _ h => h) (Or.inl ⟨by rfl, ?_⟩) (by assumption) ?_
  rotate_left
  · intro w hSw
    try dsimp only at hSw
    go_simp
    try with_reducible rfl
  try simp only [Act.put, List.getElem_toArray, List.getElem_cons_succ, List.getElem_cons_zero, List.setIfInBounds_toArray, List.set_cons_zero, List.set_cons_succ]
  refine wpAnyH_take (i := 9) (v := ?_) rfl (by kernel_rfl) (by kernel_rfl) (by kernel_rfl) (fun _ _ _ h => h) (Or.inl ⟨by rfl, ?_⟩) (by assumption) ?_
  rotate_left
  · intro w hSw
    try dsimp only at hSw
    go_simp
    try with_reducible rfl
  try simp only [Act.put, List.getElem_toArray, List.getElem_cons_succ, List.getElem_cons_zero, List.setIfInBounds_toArray, List.set_cons_zero, List.set_cons_succ]
  refine wpAnyH_ready (rs := [10]) (by kernel_rfl) (by simp) ?_
  refine AllReadyH.cons rfl (fun K hK => ?_) AllReadyH.nil
  go_simp
  try rw [HU.out]
  go_at_call 35
  (with_reducible refine (HC.out _).mono ?_)
  rintro e w1 ⟨rfl, hww⟩
  subst hww
  go_wp2_with fail
  refine hK.out _ _ (by exact ⟨c0, c1⟩) (fun _ => ?_)
  clear hK K
  try simp only [Act.put, List.getElem_toArray, List.getElem_cons_succ, List.getElem_cons_zero, List.setIfInBounds_toArray, List.set_cons_zero, List.set_cons_succ]
  refine wpAnyH_take (i := 11) (v := ?_) rfl (by kernel_rfl) (by kernel_rfl) (by kernel_rfl) (fun _ _ _ h => h) (Or.inl ⟨by rfl, ?_⟩) (by assumption) ?_
  rotate_left
  · intro w hSw
    try dsimp only at hSw
    go_simp
    try with_reducible rfl
  try simp only [Act.put, List.getElem_toArray, List.getElem_cons_succ, List.getElem_cons_zero, List.setIfInBounds_toArray, List.set_cons_zero, List.set_cons_succ]
  refine wpAnyH_done (by kernel_rfl) ?_ _
  rcases bool2 P with rfl | rfl
  · have hwb : wordB wd (t.drop a) = false := by unfold wordB; rw [← HP.out]; rfl
    have hwr : wordR wd (t.drop a) = (t.drop a).drop wd.length := by unfold wordR; rw [if_pos HP.out.symm]
    have hwl : wd.length ≤ (t.drop a).length := by
      obtain ⟨m, hm⟩ := List.isPrefixOf_iff_prefix.1 HP.out.symm
      rw [← hm]; simp
    have HRS : Hid (WrdPost w R T t a b wd (.returned (.tuple #[])) (w.drew.setCell ⟨R, 1, none⟩ (.int .i64 ((a : Int) + s.size)))) := Lib.hid ⟨a + wd.length, rfl, by
        rw [hwb, Bool.or_false]
        have h := (HR.out.same (w' := w.drew) rfl).setA (a + wd.length)
        have e : ((a + wd.length : Nat) : Int) = (a : Int) + s.size := by have := HA.out.2.2; omega
        rw [e] at h
        exact h, by rw [List.length_drop] at hwl; have := HA.out.1; omega, by rw [hwr, List.drop_drop], kpr_trans (w1 := w.drew) (kpr_below (Below.refl _ _).drew) (kpr_set _ _ _ _)⟩
    clear hwb hwr hwl
    go_wp2_with fail
    go_end0
    exact HRS.out
  · have hwb : wordB wd (t.drop a) = true := by unfold wordB; rw [← HP.out]; rfl
    have hwr : wordR wd (t.drop a) = t.drop a := by unfold wordR; rw [if_neg (by rw [← HP.out]; simp)]
    have HRS : Hid (WrdPost w R T t a b wd (.returned (.tuple #[])) (w.drew.setCell ⟨R, 2, none⟩ (.bool true))) := Lib.hid ⟨a, rfl, by
        rw [hwb, Bool.or_true]
        exact (HR.out.same (w' := w.drew) rfl).setB true, HA.out.1, hwr.symm, kpr_trans (w1 := w.drew) (kpr_below (Below.refl _ _).drew) (kpr_set _ _ _ _)⟩
    clear hwb hwr
    go_wp2_with fail
    go_end0
    exact HRS.out
end Go.Proofs.YthkpobipndifoaaGreatDoor
