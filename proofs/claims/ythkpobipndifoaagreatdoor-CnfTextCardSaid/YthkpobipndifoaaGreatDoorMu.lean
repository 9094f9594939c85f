/- (Text seat) Walk: number of the reader of the package cnf. Condition: the tables and strconv.ErrSyntax lie as laid. -/
import Derived.Test.YthkpobipndifoaaGreatDoorMv
namespace Go.Proofs.YthkpobipndifoaaGreatDoor
open Go.ChangeShapes Go.WideShapes Go.ChangeAt Go.RowKit Go.Lib
set_option linter.unusedVariables false
set_option linter.unusedSimpArgs false

set_option maxRecDepth 100000 in
set_option maxHeartbeats 16000000 in
theorem rnumber_any (B0 R : Nat) (T : ByteArray) (t : Bts) (a : Nat) (b : Bool) (w : World) (h : RdS w R T a b) (hT : T = BA t) (ha : a ≤ t.length) (htl : t.length ≤ 10000000) (ht : TabT B0 w) (hy : SynT B0 w) (hBR : B0 ≤ R) :
    Calls Tryz.prog 16 #[.pointer (some ⟨R, 0, none⟩)] w (NumPost w R T t a b) := by
  have c0 := h.c0
  have c1 := h.c1
  have c2 := h.c2
  have hsz : T.size = t.length := by rw [hT, ba_size]
  have HR := Lib.hid h
  have HT := Lib.hid hT
  have hRw : R < w.heap.size := block_lt h.c0
  have HTB := Lib.hid ht
  have HSY := Lib.hid hy
  have HSZ := Lib.hid hsz
  have HK0 : Hid (tokM (t.drop a) = (t.drop a).take 0 ++ restM 0 (t.drop a)) := Lib.hid (by simp [restM])
  have HKP : Hid (KpR R w w) := Lib.hid (kpr_below (Below.refl _ _))
  have HR0 : Hid (RdS w R T (a + 0) b) := HR
  clear h hT hsz ht hy
  go_enter Tryz.func16, Tryz.ntmps16
  go_upto_region 2 with fail
  clear c0 c1 c2
  go_loopg [76] 10 (fun gg u76 wx => ∃ j : Nat, j + gg = 10 ∧ Hid (RdS wx R T (a + j) b) ∧ a + j ≤ t.length ∧ Hid (tokM (t.drop a) = (t.drop a).take j ++ restM j (t.drop a)) ∧ Hid (KpR R w wx))
  case atStart => exact ⟨0, by omega, HR0, by omega, HK0, HKP⟩
  case round =>
  clear HR0 HK0 HKP
  obtain ⟨j, hjg, HRX, haj, HK, HKP⟩ := hrel
  obtain ⟨p, hp⟩ : ∃ p, a + j = p := ⟨_, rfl⟩
  rw [hp] at HRX haj
  have c0 := HRX.out.c0
  have c1 := HRX.out.c1
  have c2 := HRX.out.c2
  have fz1 := HRX.out.fz 1
  have HWW := Lib.hid (wr64 (x := (a : Int) + 10) (by omega) (by omega))
  have HWP := Lib.hid (wr64 (x := (p : Int) + 1) (by omega) (by omega))
  have hp0 : (0 : Int) ≤ p := by omega
  by_cases hA : p < t.length
  case neg =>
    have d1 : decide ((p : Int) < T.size) = false := decide_eq_false (by have := HSZ.out; omega)
    have d1' : decide (p < T.size) = false := decide_eq_false (by have := HSZ.out; omega)
    have hrl : restM j (t.drop a) = [] := rest_no (by rw [List.length_drop]; omega)
    have HTK : Hid (tokM (t.drop a) = (t.drop a).take j) := Lib.hid (by rw [HK.out, hrl, List.append_nil])
    clear hrl HK
    obtain ⟨hw1, hw1'⟩ := HWW.out
    go_upto_region 2 with fail
    go_quiet (fail)
    go_wp2_with fail
    clear hw1 hw1'
    obtain ⟨U, hU⟩ : ∃ U, T.extract a p = U := ⟨_, rfl⟩
    have HUT : Hid (U.data.toList = tokM (t.drop a)) := Lib.hid (by rw [← hU, HT.out, ba_ext, HTK.out]; congr 1; omega)
    have HDR : Hid (t.drop p = numR (t.drop a)) := Lib.hid (by
      have hl : (tokM (t.drop a)).length = j := by rw [HTK.out, List.length_take, List.length_drop]; omega
      unfold numR
      rw [hl, List.drop_drop, hp])
    have HU := Lib.hid hU
    have HRW : Hid (R < wr.heap.size) := Lib.hid (block_lt c0)
    have fz2 := HRX.out.fz 2
    have HAT : Hid (∀ W, Below wr.heap.size wr W → Calls Tryz.prog 36 #[.string U] W (AtPost W (tokM (t.drop a)))) := Lib.hid fun W hW => atoi_any B0 U _ W HUT.out (by have := tok_len (t.drop a); omega) ((HSY.out.on (kpr_b HKP.out hBR (by omega))).below hW (by have := HKP.out.size; omega))
    have HIT : Hid (∀ W, Below wr.heap.size wr W → Calls Tryz.prog 22 #[.int .i64 (valM (tokM (t.drop a)))] W (TxPost W (itoa (valM (tokM (t.drop a)))))) := Lib.hid fun W hW => itoa_any B0 _ W (val_i64 (tok_len _)) (TabT.below (HTB.out.on (kpr_b HKP.out hBR (by omega))) hW (by have := HKP.out.size; omega))
    have ha0 : (0 : Int) ≤ a := by omega
    have hap : (a : Int) ≤ p := by omega
    have hap' : a ≤ p := by omega
    have hpt : (p : Int) ≤ T.size := by have := HSZ.out; omega
    have hpt' : p ≤ T.size := by have := HSZ.out; omega
    clear HTK hU
    go_upto_region 4 with fail
    refine wp_region_held_drew (S := fun w' => w'.cell? ⟨R, 0, none⟩ = some (.string T) ∧ w'.cell? ⟨R, 1, none⟩ = some (.int .i64 p)) (by kernel_rfl) (by exact ⟨c0, c1⟩) (fun hHeld => ?_)
    refine wpAnyH_take (i := 0) (v := ?_) rfl (by kernel_rfl) (by kernel_rfl) (by kernel_rfl) (fun _ _ _ h => h) (Or.inl ⟨by rfl, ?_⟩) (by assumption) ?_
    rotate_left
    · intro w hSw
      try dsimp only at hSw
      go_simp
      try with_reducible rfl
    try simp only [Act.put, List.getElem_toArray, List.getElem_cons_succ, List.getElem_cons_zero, List.setIfInBounds_toArray, List.set_cons_zero, List.set_cons_succ]
    refine wpAnyH_take (i := 1) (v := ?_) rfl (by kernel_rfl) (by kernel_rfl) (by kernel_rfl) (fun _ _ _ h => h) (Or.inl ⟨by rfl, ?_⟩) (by assumption) ?_
    rotate_left
    · intro w hSw
      try dsimp only at hSw
      go_simp
      try with_reducible rfl
    try simp only [Act.put, List.getElem_toArray, List.getElem_cons_succ, List.getElem_cons_zero, List.setIfInBounds_toArray, List.set_cons_zero, List.set_cons_succ]
    refine wpAnyH_take (i := 2) (v := ?_) rfl (by kernel_rfl) (by kernel_rfl) (by kernel_rfl) (fun _ _ _ h => h) (Or.inl ⟨by rfl, ?_⟩) (by assumption) ?_
    rotate_left
    · intro w hSw
      try dsimp only at hSw
      go_simp
      try with_reducible rfl
    try simp only [Act.put, List.getElem_toArray, List.getElem_cons_succ, List.getElem_cons_zero, List.setIfInBounds_toArray, List.set_cons_zero, List.set_cons_succ]
    refine wpAnyH_take (i := 3) (v := ?_) rfl (by kernel_rfl) (by kernel_rfl) (by kernel_rfl) (fun _ _ _ h => h) (Or.inl ⟨by rfl, ?_⟩) (by assumption) ?_
    rotate_left
    · intro w hSw
      try dsimp only at hSw
      go_simp
      try with_reducible rfl
    try simp only [Act.put, List.getElem_toArray, List.getElem_cons_succ, List.getElem_cons_zero, List.setIfInBounds_toArray, List.set_cons_zero, List.set_cons_succ]
    refine wpAnyH_take (i := 4) (v := ?_) rfl (by kernel_rfl) (by kernel_rfl) (by kernel_rfl) (fun _ _ _ h => h) (Or.inl ⟨by rfl, ?_⟩) (by assumption) ?_
    rotate_left
    · intro w hSw
      try dsimp only at hSw
      go_simp
      try with_reducible rfl
    try simp only [Act.put, List.getElem_toArray, List.getElem_cons_succ, List.getElem_cons_zero, List.setIfInBounds_toArray, List.set_cons_zero, List.set_cons_succ]
    refine wpAnyH_take (i := 5) (v := ?_) rfl (by kernel_rfl) (by kernel_rfl) (by kernel_rfl) (fun _ _ _ h => h) (Or.inl ⟨by rfl, ?_⟩) (by assumption) ?_
    rotate_left
    · intro w hSw
      try dsimp only at hSw
      go_simp
      try with_reducible rfl
    try simp only [Act.put, List.getElem_toArray, List.getElem_cons_succ, List.getElem_cons_zero, List.setIfInBounds_toArray, List.set_cons_zero, List.set_cons_succ]
    refine wpAnyH_take (i := 6) (v := ?_) rfl (by kernel_rfl) (by kernel_rfl) (by kernel_rfl) (fun _ _ _ h => h) (Or.inl ⟨by rfl, ?_⟩) (by assumption) ?_
    rotate_left
    · intro w hSw
      try dsimp only at hSw
      go_simp
      try with_reducible rfl
    try simp only [Act.put, List.getElem_toArray, List.getElem_cons_succ, List.getElem_cons_zero, List.setIfInBounds_toArray, List.set_cons_zero, List.set_cons_succ]
    refine wpAnyH_take (i := 7) (v := ?_) rfl (by kernel_rfl) (by kernel_rfl) (by kernel_rfl) (fun _ _ _ h => h) (Or.inl ⟨by rfl, ?_⟩) (by assumption) ?_
    rotate_left
    · intro w hSw
      try dsimp only at hSw
      go_simp
      try with_reducible rfl
    try simp only [Act.put, List.getElem_toArray, List.getElem_cons_succ, List.getElem_cons_zero, List.setIfInBounds_toArray, List.set_cons_zero, List.set_cons_succ]
    refine wpAnyH_take (i := 8) (v := ?_) rfl (by kernel_rfl) (by kernel_rfl) (by kernel_rfl) (fun _ _ _ h => h) (Or.inl ⟨by rfl, ?_⟩) (by assumption) ?_
    rotate_left
    · intro w hSw
      try dsimp only at hSw
      go_simp
      try with_reducible rfl
    try simp only [Act.put, List.getElem_toArray, List.getElem_cons_succ, List.getElem_cons_zero, List.setIfInBounds_toArray, List.set_cons_zero, List.set_cons_succ]
    refine wpAnyH_take (i := 9) (v := ?_) rfl (by kernel_rfl) (by kernel_rfl) (by kernel_rfl) (fun _ _ _ h => h) (Or.inl ⟨by rfl, ?_⟩) (by assumption) ?_
    rotate_left
    · intro w hSw
      try dsimp only at hSw
      go_simp
      try with_reducible rfl
    try simp only [Act.put, List.getElem_toArray, List.getElem_cons_succ, List.getElem_cons_zero, List.setIfInBounds_toArray, List.set_cons_zero, List.set_cons_succ]
    refine wpAnyH_ready (rs := [10]) (by kernel_rfl) (by simp) ?_
    refine AllReadyH.cons rfl (fun K hK => ?_) AllReadyH.nil
    go_simp
    try rw [HU.out]
    go_at_call 36
    (with_reducible refine (HAT.out _ (by first | exact below_drewN (Below.refl _ _) _ | exact (below_drewN (Below.refl _ _) _).drew)).mono ?_)
    rintro e w5 ⟨ev, rfl, hev, hb5⟩
    have HL5 : Hid (Below wr.heap.size wr w5) := Lib.hid ((below_drewN (Below.refl wr.heap.size wr) _).trans (hb5.mono (Nat.le_refl _)))
    have x0 := below_c HL5.out HRW.out c0
    have x1 := below_c HL5.out HRW.out c1
    have x2 := below_c HL5.out HRW.out c2
    have HEV := Lib.hid hev
    clear hb5 hev
    go_wp2_with fail
    refine hK.out _ _ (by exact ⟨x0, x1⟩) (fun _ => ?_)
    clear hK K
    try simp only [Act.put, List.getElem_toArray, List.getElem_cons_succ, List.getElem_cons_zero, List.setIfInBounds_toArray, List.set_cons_zero, List.set_cons_succ]
    refine wpAnyH_take (i := 11) (v := ?_) rfl (by kernel_rfl) (by kernel_rfl) (by kernel_rfl) (fun _ _ _ h => h) (Or.inl ⟨by rfl, ?_⟩) (by assumption) ?_
    rotate_left
    · intro w hSw
      try dsimp only at hSw
      go_simp
      try with_reducible rfl
    try simp only [Act.put, List.getElem_toArray, List.getElem_cons_succ, List.getElem_cons_zero, List.setIfInBounds_toArray, List.set_cons_zero, List.set_cons_succ]
    refine wpAnyH_take (i := 12) (v := ?_) rfl (by kernel_rfl) (by kernel_rfl) (by kernel_rfl) (fun _ _ _ h => h) (Or.inl ⟨by rfl, ?_⟩) (by assumption) ?_
    rotate_left
    · intro w hSw
      try dsimp only at hSw
      go_simp
      try with_reducible rfl
    try simp only [Act.put, List.getElem_toArray, List.getElem_cons_succ, List.getElem_cons_zero, List.setIfInBounds_toArray, List.set_cons_zero, List.set_cons_succ]
    refine wpAnyH_take (i := 13) (v := ?_) rfl (by kernel_rfl) (by kernel_rfl) (by kernel_rfl) (fun _ _ _ h => h) (Or.inl ⟨by rfl, ?_⟩) (by assumption) ?_
    rotate_left
    · intro w hSw
      try dsimp only at hSw
      go_simp
      try with_reducible rfl
    try simp only [Act.put, List.getElem_toArray, List.getElem_cons_succ, List.getElem_cons_zero, List.setIfInBounds_toArray, List.set_cons_zero, List.set_cons_succ]
    refine wpAnyH_take (i := 14) (v := ?_) rfl (by kernel_rfl) (by kernel_rfl) (by kernel_rfl) (fun _ _ _ h => h) (Or.inl ⟨by rfl, ?_⟩) (by assumption) ?_
    rotate_left
    · intro w hSw
      try dsimp only at hSw
      go_simp
      try with_reducible rfl
    try simp only [Act.put, List.getElem_toArray, List.getElem_cons_succ, List.getElem_cons_zero, List.setIfInBounds_toArray, List.set_cons_zero, List.set_cons_succ]
    refine wpAnyH_take (i := 15) (v := ?_) rfl (by kernel_rfl) (by kernel_rfl) (by kernel_rfl) (fun _ _ _ h => h) (Or.inl ⟨by rfl, ?_⟩) (by assumption) ?_
    rotate_left
    · intro w hSw
      try dsimp only at hSw
      go_simp
      try with_reducible rfl
    try simp only [Act.put, List.getElem_toArray, List.getElem_cons_succ, List.getElem_cons_zero, List.setIfInBounds_toArray, List.set_cons_zero, List.set_cons_succ]
    refine wpAnyH_done (by kernel_rfl) ?_ _
    have hxf2 : w5.frozen? ⟨R, 2, none⟩ = false := below_z HL5.out HRW.out fz2
    rcases HEV.out with ⟨hev, hsm⟩ | ⟨Te, pe, hev, hnn⟩
    · subst hev
      have HSM := Lib.hid hsm
      have HL6 : Hid (Below wr.heap.size wr w5.drew) := Lib.hid HL5.out.drew
      clear HEV hsm
      go_upto_region 5 with fail
      refine wp_region_held_drew (S := fun w' => w'.cell? ⟨R, 0, none⟩ = some (.string T) ∧ w'.cell? ⟨R, 1, none⟩ = some (.int .i64 p)) (by kernel_rfl) (by exact ⟨x0, x1⟩) (fun hHeld => ?_)
      refine wpAnyH_take (i := 0) (v := ?_) rfl (by kernel_rfl) (by kernel_rfl) (by kernel_rfl) (fun _ _ _ h => h) (Or.inl ⟨by rfl, ?_⟩) (by assumption) ?_
      rotate_left
      · intro w hSw
        try dsimp only at hSw
        go_simp
        try with_reducible rfl
      try simp only [Act.put, List.getElem_toArray, List.getElem_cons_succ, List.getElem_cons_zero, List.setIfInBounds_toArray, List.set_cons_zero, List.set_cons_succ]
      refine wpAnyH_take (i := 1) (v := ?_) rfl (by kernel_rfl) (by kernel_rfl) (by kernel_rfl) (fun _ _ _ h => h) (Or.inl ⟨by rfl, ?_⟩) (by assumption) ?_
      rotate_left
      · intro w hSw
        try dsimp only at hSw
        go_simp
        try with_reducible rfl
      try simp only [Act.put, List.getElem_toArray, List.getElem_cons_succ, List.getElem_cons_zero, List.setIfInBounds_toArray, List.set_cons_zero, List.set_cons_succ]
      refine wpAnyH_take (i := 2) (v := ?_) rfl (by kernel_rfl) (by kernel_rfl) (by kernel_rfl) (fun _ _ _ h => h) (Or.inl ⟨by rfl, ?_⟩) (by assumption) ?_
      rotate_left
      · intro w hSw
        try dsimp only at hSw
        go_simp
        try with_reducible rfl
      try simp only [Act.put, List.getElem_toArray, List.getElem_cons_succ, List.getElem_cons_zero, List.setIfInBounds_toArray, List.set_cons_zero, List.set_cons_succ]
      refine wpAnyH_take (i := 3) (v := ?_) rfl (by kernel_rfl) (by kernel_rfl) (by kernel_rfl) (fun _ _ _ h => h) (Or.inl ⟨by rfl, ?_⟩) (by assumption) ?_
      rotate_left
      · intro w hSw
        try dsimp only at hSw
        go_simp
        try with_reducible rfl
      try simp only [Act.put, List.getElem_toArray, List.getElem_cons_succ, List.getElem_cons_zero, List.setIfInBounds_toArray, List.set_cons_zero, List.set_cons_succ]
      refine wpAnyH_take (i := 5) (v := ?_) rfl (by kernel_rfl) (by kernel_rfl) (by kernel_rfl) (fun _ _ _ h => h) (Or.inl ⟨by rfl, ?_⟩) (by assumption) ?_
      rotate_left
      · intro w hSw
        try dsimp only at hSw
        go_simp
        try with_reducible rfl
      try simp only [Act.put, List.getElem_toArray, List.getElem_cons_succ, List.getElem_cons_zero, List.setIfInBounds_toArray, List.set_cons_zero, List.set_cons_succ]
      refine wpAnyH_take (i := 6) (v := ?_) rfl (by kernel_rfl) (by kernel_rfl) (by kernel_rfl) (fun _ _ _ h => h) (Or.inl ⟨by rfl, ?_⟩) (by assumption) ?_
      rotate_left
      · intro w hSw
        try dsimp only at hSw
        go_simp
        try with_reducible rfl
      try simp only [Act.put, List.getElem_toArray, List.getElem_cons_succ, List.getElem_cons_zero, List.setIfInBounds_toArray, List.set_cons_zero, List.set_cons_succ]
      refine wpAnyH_take (i := 7) (v := ?_) rfl (by kernel_rfl) (by kernel_rfl) (by kernel_rfl) (fun _ _ _ h => h) (Or.inl ⟨by rfl, ?_⟩) (by assumption) ?_
      rotate_left
      · intro w hSw
        try dsimp only at hSw
        go_simp
        try with_reducible rfl
      try simp only [Act.put, List.getElem_toArray, List.getElem_cons_succ, List.getElem_cons_zero, List.setIfInBounds_toArray, List.set_cons_zero, List.set_cons_succ]
      refine wpAnyH_take (i := 8) (v := ?_) rfl (by kernel_rfl) (by kernel_rfl) (by kernel_rfl) (fun _ _ _ h => h) (Or.inl ⟨by rfl, ?_⟩) (by assumption) ?_
      rotate_left
      · intro w hSw
        try dsimp only at hSw
        go_simp
        try with_reducible rfl
      try simp only [Act.put, List.getElem_toArray, List.getElem_cons_succ, List.getElem_cons_zero, List.setIfInBounds_toArray, List.set_cons_zero, List.set_cons_succ]
      refine wpAnyH_take (i := 9) (v := ?_) rfl (by kernel_rfl) (by kernel_rfl) (by kernel_rfl) (fun _ _ _ h => h) (Or.inl ⟨by rfl, ?_⟩) (by assumption) ?_
      rotate_left
      · intro w hSw
        try dsimp only at hSw
        go_simp
        try with_reducible rfl
      try simp only [Act.put, List.getElem_toArray, List.getElem_cons_succ, List.getElem_cons_zero, List.setIfInBounds_toArray, List.set_cons_zero, List.set_cons_succ]
      refine wpAnyH_take (i := 10) (v := ?_) rfl (by kernel_rfl) (by kernel_rfl) (by kernel_rfl) (fun _ _ _ h => h) (Or.inl ⟨by rfl, ?_⟩) (by assumption) ?_
      rotate_left
      · intro w hSw
        try dsimp only at hSw
        go_simp
        try with_reducible rfl
      try simp only [Act.put, List.getElem_toArray, List.getElem_cons_succ, List.getElem_cons_zero, List.setIfInBounds_toArray, List.set_cons_zero, List.set_cons_succ]
      refine wpAnyH_take (i := 11) (v := ?_) rfl (by kernel_rfl) (by kernel_rfl) (by kernel_rfl) (fun _ _ _ h => h) (Or.inl ⟨by rfl, ?_⟩) (by assumption) ?_
      rotate_left
      · intro w hSw
        try dsimp only at hSw
        go_simp
        try with_reducible rfl
      try simp only [Act.put, List.getElem_toArray, List.getElem_cons_succ, List.getElem_cons_zero, List.setIfInBounds_toArray, List.set_cons_zero, List.set_cons_succ]
      refine wpAnyH_take (i := 12) (v := ?_) rfl (by kernel_rfl) (by kernel_rfl) (by kernel_rfl) (fun _ _ _ h => h) (Or.inl ⟨by rfl, ?_⟩) (by assumption) ?_
      rotate_left
      · intro w hSw
        try dsimp only at hSw
        go_simp
        try with_reducible rfl
      try simp only [Act.put, List.getElem_toArray, List.getElem_cons_succ, List.getElem_cons_zero, List.setIfInBounds_toArray, List.set_cons_zero, List.set_cons_succ]
      refine wpAnyH_take (i := 13) (v := ?_) rfl (by kernel_rfl) (by kernel_rfl) (by kernel_rfl) (fun _ _ _ h => h) (Or.inl ⟨by rfl, ?_⟩) (by assumption) ?_
      rotate_left
      · intro w hSw
        try dsimp only at hSw
        go_simp
        try with_reducible rfl
      try simp only [Act.put, List.getElem_toArray, List.getElem_cons_succ, List.getElem_cons_zero, List.setIfInBounds_toArray, List.set_cons_zero, List.set_cons_succ]
      refine wpAnyH_take (i := 14) (v := ?_) rfl (by kernel_rfl) (by kernel_rfl) (by kernel_rfl) (fun _ _ _ h => h) (Or.inl ⟨by rfl, ?_⟩) (by assumption) ?_
      rotate_left
      · intro w hSw
        try dsimp only at hSw
        go_simp
        try with_reducible rfl
      try simp only [Act.put, List.getElem_toArray, List.getElem_cons_succ, List.getElem_cons_zero, List.setIfInBounds_toArray, List.set_cons_zero, List.set_cons_succ]
      refine wpAnyH_ready (rs := [4]) (by kernel_rfl) (by simp) ?_
      refine AllReadyH.cons rfl (fun K hK => ?_) AllReadyH.nil
      go_simp
      go_at_call 22
      (with_reducible refine (HIT.out _ HL6.out).mono ?_)
      rintro e w6 ⟨S, rfl, HS, hb6⟩
      have HL7 : Hid (Below wr.heap.size wr w6) := Lib.hid (HL6.out.trans (hb6.mono HL6.out.size))
      have x0 := below_c HL7.out HRW.out c0
      have x1 := below_c HL7.out HRW.out c1
      have x2 := below_c HL7.out HRW.out c2
      have hxf : w6.frozen? ⟨R, 2, none⟩ = false := below_z HL7.out HRW.out fz2
      obtain ⟨C, hC⟩ : ∃ C, (S.toList == (T.extract a p).toList) = C := ⟨_, rfl⟩
      have HC : Hid ((!C) = badM (tokM (t.drop a))) := Lib.hid (by
        rw [bad_some HSM.out, ← hC, ByteArray.toList_eq, ByteArray.toList_eq, HU.out, HUT.out, HS.out]
        show (!((itoa (valM (tokM (t.drop a)))).toArray.toList == tokM (t.drop a))) = _
        simp [bne])
      clear hb6 HS
      go_wp2_with fail
      refine hK.out _ _ (by exact ⟨x0, x1⟩) (fun _ => ?_)
      clear hK K
      try simp only [Act.put, List.getElem_toArray, List.getElem_cons_succ, List.getElem_cons_zero, List.setIfInBounds_toArray, List.set_cons_zero, List.set_cons_succ]
      refine wpAnyH_take (i := 15) (v := ?_) rfl (by kernel_rfl) (by kernel_rfl) (by kernel_rfl) (fun _ _ _ h => h) (Or.inl ⟨by rfl, ?_⟩) (by assumption) ?_
      rotate_left
      · intro w hSw
        try dsimp only at hSw
        go_simp
        try with_reducible rfl
      try simp only [Act.put, List.getElem_toArray, List.getElem_cons_succ, List.getElem_cons_zero, List.setIfInBounds_toArray, List.set_cons_zero, List.set_cons_succ]
      refine wpAnyH_take (i := 16) (v := ?_) rfl (by kernel_rfl) (by kernel_rfl) (by kernel_rfl) (fun _ _ _ h => h) (Or.inl ⟨by rfl, ?_⟩) (by assumption) ?_
      rotate_left
      · intro w hSw
        try dsimp only at hSw
        go_simp
        try with_reducible rfl
      try simp only [Act.put, List.getElem_toArray, List.getElem_cons_succ, List.getElem_cons_zero, List.setIfInBounds_toArray, List.set_cons_zero, List.set_cons_succ]
      refine wpAnyH_done (by kernel_rfl) ?_ _
      rcases bool2 C with rfl | rfl
      · have HRS : Hid (NumPost w R T t a b (.returned (.int .i64 (valM (tokM (t.drop a))))) w6) := Lib.hid ⟨p, rfl, by
            have h := HRX.out.same (w' := w6) (HL7.out.block R HRW.out)
            show RdS _ R T p (b || badM _)
            rw [← HC.out]
            show RdS _ R T p (b || false)
            rw [Bool.or_false]
            exact h, haj, HDR.out, kpr_trans (HKP.out) (kpr_below HL7.out)⟩
        clear HC
        go_wp2_with fail
        go_ret
        exact HRS.out
      · have HRS : Hid (NumPost w R T t a b (.returned (.int .i64 (valM (tokM (t.drop a))))) (w6.setCell ⟨R, 2, none⟩ (.bool true))) := Lib.hid ⟨p, rfl, by
            have h := ((HRX.out.same (w' := w6) (HL7.out.block R HRW.out)).setB true)
            show RdS _ R T p (b || badM _)
            rw [← HC.out]
            show RdS _ R T p (b || true)
            rw [Bool.or_true]
            exact h, haj, HDR.out, kpr_trans (HKP.out) (kpr_trans (kpr_below HL7.out) (kpr_set _ _ _ _))⟩
        clear HC
        go_wp2_with fail
        go_ret
        exact HRS.out
    · subst hev
      have HRS : Hid (∀ q, NumPost w R T t a b (.returned (.int .i64 (valM (tokM (t.drop a))))) ((w5.drewN q).setCell ⟨R, 2, none⟩ (.bool true))) := Lib.hid fun q => ⟨p, rfl, by
          have h := ((HRX.out.same (w' := w5.drewN q) (HL5.out.block R HRW.out)).setB true)
          show RdS _ R T p (b || badM _)
          rw [bad_none hnn, Bool.or_true]
          exact h, haj, HDR.out, kpr_trans (HKP.out) (kpr_trans (w1 := w5.drewN q) (kpr_below (below_drewN HL5.out q)) (kpr_set _ _ _ _))⟩
      clear HEV hnn
      go_upto_region 5 with fail
      go_quiet (fail)
      go_wp2_with fail
      go_ret
      exact HRS.out _
  have d1 : decide ((p : Int) < T.size) = true := decide_eq_true (by have := HSZ.out; omega)
  have d1' : decide (p < T.size) = true := decide_eq_true (by have := HSZ.out; omega)
  by_cases hB : j < 10
  case neg =>
    have d2 : decide ((p : Int) < (a : Int) + 10) = false := decide_eq_false (by omega)
    have hrl : restM j (t.drop a) = [] := rest_ten (by omega)
    have HTK : Hid (tokM (t.drop a) = (t.drop a).take j) := Lib.hid (by rw [HK.out, hrl, List.append_nil])
    clear hrl HK
    obtain ⟨hw1, hw1'⟩ := HWW.out
    go_upto_region 2 with fail
    go_quiet (fail)
    go_wp2_with fail
    clear hw1 hw1'
    obtain ⟨U, hU⟩ : ∃ U, T.extract a p = U := ⟨_, rfl⟩
    have HUT : Hid (U.data.toList = tokM (t.drop a)) := Lib.hid (by rw [← hU, HT.out, ba_ext, HTK.out]; congr 1; omega)
    have HDR : Hid (t.drop p = numR (t.drop a)) := Lib.hid (by
      have hl : (tokM (t.drop a)).length = j := by rw [HTK.out, List.length_take, List.length_drop]; omega
      unfold numR
      rw [hl, List.drop_drop, hp])
    have HU := Lib.hid hU
    have HRW : Hid (R < wr.heap.size) := Lib.hid (block_lt c0)
    have fz2 := HRX.out.fz 2
    have HAT : Hid (∀ W, Below wr.heap.size wr W → Calls Tryz.prog 36 #[.string U] W (AtPost W (tokM (t.drop a)))) := Lib.hid fun W hW => atoi_any B0 U _ W HUT.out (by have := tok_len (t.drop a); omega) ((HSY.out.on (kpr_b HKP.out hBR (by omega))).below hW (by have := HKP.out.size; omega))
    have HIT : Hid (∀ W, Below wr.heap.size wr W → Calls Tryz.prog 22 #[.int .i64 (valM (tokM (t.drop a)))] W (TxPost W (itoa (valM (tokM (t.drop a)))))) := Lib.hid fun W hW => itoa_any B0 _ W (val_i64 (tok_len _)) (TabT.below (HTB.out.on (kpr_b HKP.out hBR (by omega))) hW (by have := HKP.out.size; omega))
    have ha0 : (0 : Int) ≤ a := by omega
    have hap : (a : Int) ≤ p := by omega
    have hap' : a ≤ p := by omega
    have hpt : (p : Int) ≤ T.size := by have := HSZ.out; omega
    have hpt' : p ≤ T.size := by have := HSZ.out; omega
    clear HTK hU
    go_upto_region 4 with fail
    refine wp_region_held_drew (S := fun w' => w'.cell? ⟨R, 0, none⟩ = some (.string T) ∧ w'.cell? ⟨R, 1, none⟩ = some (.int .i64 p)) (by kernel_rfl) (by exact ⟨c0, c1⟩) (fun hHeld => ?_)
    refine wpAnyH_take (i := 0) (v := ?_) rfl (by kernel_rfl) (by kernel_rfl) (by kernel_rfl) (fun _ _ _ h => h) (Or.inl ⟨by rfl, ?_⟩) (by assumption) ?_
    rotate_left
    · intro w hSw
      try dsimp only at hSw
      go_simp
      try with_reducible rfl
    try simp only [Act.put, List.getElem_toArray, List.getElem_cons_succ, List.getElem_cons_zero, List.setIfInBounds_toArray, List.set_cons_zero, List.set_cons_succ]
    refine wpAnyH_take (i := 1) (v := ?_) rfl (by kernel_rfl) (by kernel_rfl) (by kernel_rfl) (fun _ _ _ h => h) (Or.inl ⟨by rfl, ?_⟩) (by assumption) ?_
    rotate_left
    · intro w hSw
      try dsimp only at hSw
      go_simp
      try with_reducible rfl
    try simp only [Act.put, List.getElem_toArray, List.getElem_cons_succ, List.getElem_cons_zero, List.setIfInBounds_toArray, List.set_cons_zero, List.set_cons_succ]
    refine wpAnyH_take (i := 2) (v := ?_) rfl (by kernel_rfl) (by kernel_rfl) (by kernel_rfl) (fun _ _ _ h => h) (Or.inl ⟨by rfl, ?_⟩) (by assumption) ?_
    rotate_left
    · intro w hSw
      try dsimp only at hSw
      go_simp
      try with_reducible rfl
    try simp only [Act.put, List.getElem_toArray, List.getElem_cons_succ, List.getElem_cons_zero, List.setIfInBounds_toArray, List.set_cons_zero, List.set_cons_succ]
    refine wpAnyH_take (i := 3) (v := ?_) rfl (by kernel_rfl) (by kernel_rfl) (by kernel_rfl) (fun _ _ _ h => h) (Or.inl ⟨by rfl, ?_⟩) (by assumption) ?_
    rotate_left
    · intro w hSw
      try dsimp only at hSw
      go_simp
      try with_reducible rfl
    try simp only [Act.put, List.getElem_toArray, List.getElem_cons_succ, List.getElem_cons_zero, List.setIfInBounds_toArray, List.set_cons_zero, List.set_cons_succ]
    refine wpAnyH_take (i := 4) (v := ?_) rfl (by kernel_rfl) (by kernel_rfl) (by kernel_rfl) (fun _ _ _ h => h) (Or.inl ⟨by rfl, ?_⟩) (by assumption) ?_
    rotate_left
    · intro w hSw
      try dsimp only at hSw
      go_simp
      try with_reducible rfl
    try simp only [Act.put, List.getElem_toArray, List.getElem_cons_succ, List.getElem_cons_zero, List.setIfInBounds_toArray, List.set_cons_zero, List.set_cons_succ]
    refine wpAnyH_take (i := 5) (v := ?_) rfl (by kernel_rfl) (by kernel_rfl) (by kernel_rfl) (fun _ _ _ h => h) (Or.inl ⟨by rfl, ?_⟩) (by assumption) ?_
    rotate_left
    · intro w hSw
      try dsimp only at hSw
      go_simp
      try with_reducible rfl
    try simp only [Act.put, List.getElem_toArray, List.getElem_cons_succ, List.getElem_cons_zero, List.setIfInBounds_toArray, List.set_cons_zero, List.set_cons_succ]
    refine wpAnyH_take (i := 6) (v := ?_) rfl (by kernel_rfl) (by kernel_rfl) (by kernel_rfl) (fun _ _ _ h => h) (Or.inl ⟨by rfl, ?_⟩) (by assumption) ?_
    rotate_left
    · intro w hSw
      try dsimp only at hSw
      go_simp
      try with_reducible rfl
    try simp only [Act.put, List.getElem_toArray, List.getElem_cons_succ, List.getElem_cons_zero, List.setIfInBounds_toArray, List.set_cons_zero, List.set_cons_succ]
    refine wpAnyH_take (i := 7) (v := ?_) rfl (by kernel_rfl) (by kernel_rfl) (by kernel_rfl) (fun _ _ _ h => h) (Or.inl ⟨by rfl, ?_⟩) (by assumption) ?_
    rotate_left
    · intro w hSw
      try dsimp only at hSw
      go_simp
      try with_reducible rfl
    try simp only [Act.put, List.getElem_toArray, List.getElem_cons_succ, List.getElem_cons_zero, List.setIfInBounds_toArray, List.set_cons_zero, List.set_cons_succ]
    refine wpAnyH_take (i := 8) (v := ?_) rfl (by kernel_rfl) (by kernel_rfl) (by kernel_rfl) (fun _ _ _ h => h) (Or.inl ⟨by rfl, ?_⟩) (by assumption) ?_
    rotate_left
    · intro w hSw
      try dsimp only at hSw
      go_simp
      try with_reducible rfl
    try simp only [Act.put, List.getElem_toArray, List.getElem_cons_succ, List.getElem_cons_zero, List.setIfInBounds_toArray, List.set_cons_zero, List.set_cons_succ]
    refine wpAnyH_take (i := 9) (v := ?_) rfl (by kernel_rfl) (by kernel_rfl) (by kernel_rfl) (fun _ _ _ h => h) (Or.inl ⟨by rfl, ?_⟩) (by assumption) ?_
    rotate_left
    · intro w hSw
      try dsimp only at hSw
      go_simp
      try with_reducible rfl
    try simp only [Act.put, List.getElem_toArray, List.getElem_cons_succ, List.getElem_cons_zero, List.setIfInBounds_toArray, List.set_cons_zero, List.set_cons_succ]
    refine wpAnyH_ready (rs := [10]) (by kernel_rfl) (by simp) ?_
    refine AllReadyH.cons rfl (fun K hK => ?_) AllReadyH.nil
    go_simp
    try rw [HU.out]
    go_at_call 36
    (with_reducible refine (HAT.out _ (by first | exact below_drewN (Below.refl _ _) _ | exact (below_drewN (Below.refl _ _) _).drew)).mono ?_)
    rintro e w5 ⟨ev, rfl, hev, hb5⟩
    have HL5 : Hid (Below wr.heap.size wr w5) := Lib.hid ((below_drewN (Below.refl wr.heap.size wr) _).trans (hb5.mono (Nat.le_refl _)))
    have x0 := below_c HL5.out HRW.out c0
    have x1 := below_c HL5.out HRW.out c1
    have x2 := below_c HL5.out HRW.out c2
    have HEV := Lib.hid hev
    clear hb5 hev
    go_wp2_with fail
    refine hK.out _ _ (by exact ⟨x0, x1⟩) (fun _ => ?_)
    clear hK K
    try simp only [Act.put, List.getElem_toArray, List.getElem_cons_succ, List.getElem_cons_zero, List.setIfInBounds_toArray, List.set_cons_zero, List.set_cons_succ]
    refine wpAnyH_take (i := 11) (v := ?_) rfl (by kernel_rfl) (by kernel_rfl) (by kernel_rfl) (fun _ _ _ h => h) (Or.inl ⟨by rfl, ?_⟩) (by assumption) ?_
    rotate_left
    · intro w hSw
      try dsimp only at hSw
      go_simp
      try with_reducible rfl
    try simp only [Act.put, List.getElem_toArray, List.getElem_cons_succ, List.getElem_cons_zero, List.setIfInBounds_toArray, List.set_cons_zero, List.set_cons_succ]
    refine wpAnyH_take (i := 12) (v := ?_) rfl (by kernel_rfl) (by kernel_rfl) (by kernel_rfl) (fun _ _ _ h => h) (Or.inl ⟨by rfl, ?_⟩) (by assumption) ?_
    rotate_left
    · intro w hSw
      try dsimp only at hSw
      go_simp
      try with_reducible rfl
    try simp only [Act.put, List.getElem_toArray, List.getElem_cons_succ, List.getElem_cons_zero, List.setIfInBounds_toArray, List.set_cons_zero, List.set_cons_succ]
    refine wpAnyH_take (i := 13) (v := ?_) rfl (by kernel_rfl) (by kernel_rfl) (by kernel_rfl) (fun _ _ _ h => h) (Or.inl ⟨by rfl, ?_⟩) (by assumption) ?_
    rotate_left
    · intro w hSw
      try dsimp only at hSw
      go_simp
      try with_reducible rfl
    try simp only [Act.put, List.getElem_toArray, List.getElem_cons_succ, List.getElem_cons_zero, List.setIfInBounds_toArray, List.set_cons_zero, List.set_cons_succ]
    refine wpAnyH_take (i := 14) (v := ?_) rfl (by kernel_rfl) (by kernel_rfl) (by kernel_rfl) (fun _ _ _ h => h) (Or.inl ⟨by rfl, ?_⟩) (by assumption) ?_
    rotate_left
    · intro w hSw
      try dsimp only at hSw
      go_simp
      try with_reducible rfl
    try simp only [Act.put, List.getElem_toArray, List.getElem_cons_succ, List.getElem_cons_zero, List.setIfInBounds_toArray, List.set_cons_zero, List.set_cons_succ]
    refine wpAnyH_take (i := 15) (v := ?_) rfl (by kernel_rfl) (by kernel_rfl) (by kernel_rfl) (fun _ _ _ h => h) (Or.inl ⟨by rfl, ?_⟩) (by assumption) ?_
    rotate_left
    · intro w hSw
      try dsimp only at hSw
      go_simp
      try with_reducible rfl
    try simp only [Act.put, List.getElem_toArray, List.getElem_cons_succ, List.getElem_cons_zero, List.setIfInBounds_toArray, List.set_cons_zero, List.set_cons_succ]
    refine wpAnyH_done (by kernel_rfl) ?_ _
    have hxf2 : w5.frozen? ⟨R, 2, none⟩ = false := below_z HL5.out HRW.out fz2
    rcases HEV.out with ⟨hev, hsm⟩ | ⟨Te, pe, hev, hnn⟩
    · subst hev
      have HSM := Lib.hid hsm
      have HL6 : Hid (Below wr.heap.size wr w5.drew) := Lib.hid HL5.out.drew
      clear HEV hsm
      go_upto_region 5 with fail
      refine wp_region_held_drew (S := fun w' => w'.cell? ⟨R, 0, none⟩ = some (.string T) ∧ w'.cell? ⟨R, 1, none⟩ = some (.int .i64 p)) (by kernel_rfl) (by exact ⟨x0, x1⟩) (fun hHeld => ?_)
      refine wpAnyH_take (i := 0) (v := ?_) rfl (by kernel_rfl) (by kernel_rfl) (by kernel_rfl) (fun _ _ _ h => h) (Or.inl ⟨by rfl, ?_⟩) (by assumption) ?_
      rotate_left
      · intro w hSw
        try dsimp only at hSw
        go_simp
        try with_reducible rfl
      try simp only [Act.put, List.getElem_toArray, List.getElem_cons_succ, List.getElem_cons_zero, List.setIfInBounds_toArray, List.set_cons_zero, List.set_cons_succ]
      refine wpAnyH_take (i := 1) (v := ?_) rfl (by kernel_rfl) (by kernel_rfl) (by kernel_rfl) (fun _ _ _ h => h) (Or.inl ⟨by rfl, ?_⟩) (by assumption) ?_
      rotate_left
      · intro w hSw
        try dsimp only at hSw
        go_simp
        try with_reducible rfl
      try simp only [Act.put, List.getElem_toArray, List.getElem_cons_succ, List.getElem_cons_zero, List.setIfInBounds_toArray, List.set_cons_zero, List.set_cons_succ]
      refine wpAnyH_take (i := 2) (v := ?_) rfl (by kernel_rfl) (by kernel_rfl) (by kernel_rfl) (fun _ _ _ h => h) (Or.inl ⟨by rfl, ?_⟩) (by assumption) ?_
      rotate_left
      · intro w hSw
        try dsimp only at hSw
        go_simp
        try with_reducible rfl
      try simp only [Act.put, List.getElem_toArray, List.getElem_cons_succ, List.getElem_cons_zero, List.setIfInBounds_toArray, List.set_cons_zero, List.set_cons_succ]
      refine wpAnyH_take (i := 3) (v := ?_) rfl (by kernel_rfl) (by kernel_rfl) (by kernel_rfl) (fun _ _ _ h => h) (Or.inl ⟨by rfl, ?_⟩) (by assumption) ?_
      rotate_left
      · intro w hSw
        try dsimp only at hSw
        go_simp
        try with_reducible rfl
      try simp only [Act.put, List.getElem_toArray, List.getElem_cons_succ, List.getElem_cons_zero, List.setIfInBounds_toArray, List.set_cons_zero, List.set_cons_succ]
      refine wpAnyH_take (i := 5) (v := ?_) rfl (by kernel_rfl) (by kernel_rfl) (by kernel_rfl) (fun _ _ _ h => h) (Or.inl ⟨by rfl, ?_⟩) (by assumption) ?_
      rotate_left
      · intro w hSw
        try dsimp only at hSw
        go_simp
        try with_reducible rfl
      try simp only [Act.put, List.getElem_toArray, List.getElem_cons_succ, List.getElem_cons_zero, List.setIfInBounds_toArray, List.set_cons_zero, List.set_cons_succ]
      refine wpAnyH_take (i := 6) (v := ?_) rfl (by kernel_rfl) (by kernel_rfl) (by kernel_rfl) (fun _ _ _ h => h) (Or.inl ⟨by rfl, ?_⟩) (by assumption) ?_
      rotate_left
      · intro w hSw
        try dsimp only at hSw
        go_simp
        try with_reducible rfl
      try simp only [Act.put, List.getElem_toArray, List.getElem_cons_succ, List.getElem_cons_zero, List.setIfInBounds_toArray, List.set_cons_zero, List.set_cons_succ]
      refine wpAnyH_take (i := 7) (v := ?_) rfl (by kernel_rfl) (by kernel_rfl) (by kernel_rfl) (fun _ _ _ h => h) (Or.inl ⟨by rfl, ?_⟩) (by assumption) ?_
      rotate_left
      · intro w hSw
        try dsimp only at hSw
        go_simp
        try with_reducible rfl
      try simp only [Act.put, List.getElem_toArray, List.getElem_cons_succ, List.getElem_cons_zero, List.setIfInBounds_toArray, List.set_cons_zero, List.set_cons_succ]
      refine wpAnyH_take (i := 8) (v := ?_) rfl (by kernel_rfl) (by kernel_rfl) (by kernel_rfl) (fun _ _ _ h => h) (Or.inl ⟨by rfl, ?_⟩) (by assumption) ?_
      rotate_left
      · intro w hSw
        try dsimp only at hSw
        go_simp
        try with_reducible rfl
      try simp only [Act.put, List.getElem_toArray, List.getElem_cons_succ, List.getElem_cons_zero, List.setIfInBounds_toArray, List.set_cons_zero, List.set_cons_succ]
      refine wpAnyH_take (i := 9) (v := ?_) rfl (by kernel_rfl) (by kernel_rfl) (by kernel_rfl) (fun _ _ _ h => h) (Or.inl ⟨by rfl, ?_⟩) (by assumption) ?_
      rotate_left
      · intro w hSw
        try dsimp only at hSw
        go_simp
        try with_reducible rfl
      try simp only [Act.put, List.getElem_toArray, List.getElem_cons_succ, List.getElem_cons_zero, List.setIfInBounds_toArray, List.set_cons_zero, List.set_cons_succ]
      refine wpAnyH_take (i := 10) (v := ?_) rfl (by kernel_rfl) (by kernel_rfl) (by kernel_rfl) (fun _ _ _ h => h) (Or.inl ⟨by rfl, ?_⟩) (by assumption) ?_
      rotate_left
      · intro w hSw
        try dsimp only at hSw
        go_simp
        try with_reducible rfl
      try simp only [Act.put, List.getElem_toArray, List.getElem_cons_succ, List.getElem_cons_zero, List.setIfInBounds_toArray, List.set_cons_zero, List.set_cons_succ]
      refine wpAnyH_take (i := 11) (v := ?_) rfl (by kernel_rfl) (by kernel_rfl) (by kernel_rfl) (fun _ _ _ h => h) (Or.inl ⟨by rfl, ?_⟩) (by assumption) ?_
      rotate_left
      · intro w hSw
        try dsimp only at hSw
        go_simp
        try with_reducible rfl
      try simp only [Act.put, List.getElem_toArray, List.getElem_cons_succ, List.getElem_cons_zero, List.setIfInBounds_toArray, List.set_cons_zero, List.set_cons_succ]
      refine wpAnyH_take (i := 12) (v := ?_) rfl (by kernel_rfl) (by kernel_rfl) (by kernel_rfl) (fun _ _ _ h => h) (Or.inl ⟨by rfl, ?_⟩) (by assumption) ?_
      rotate_left
      · intro w hSw
        try dsimp only at hSw
        go_simp
        try with_reducible rfl
      try simp only [Act.put, List.getElem_toArray, List.getElem_cons_succ, List.getElem_cons_zero, List.setIfInBounds_toArray, List.set_cons_zero, List.set_cons_succ]
      refine wpAnyH_take (i := 13) (v := ?_) rfl (by kernel_rfl) (by kernel_rfl) (by kernel_rfl) (fun _ _ _ h => h) (Or.inl ⟨by rfl, ?_⟩) (by assumption) ?_
      rotate_left
      · intro w hSw
        try dsimp only at hSw
        go_simp
        try with_reducible rfl
      try simp only [Act.put, List.getElem_toArray, List.getElem_cons_succ, List.getElem_cons_zero, List.setIfInBounds_toArray, List.set_cons_zero, List.set_cons_succ]
      refine wpAnyH_take (i := 14) (v := ?_) rfl (by kernel_rfl) (by kernel_rfl) (by kernel_rfl) (fun _ _ _ h => h) (Or.inl ⟨by rfl, ?_⟩) (by assumption) ?_
      rotate_left
      · intro w hSw
        try dsimp only at hSw
        go_simp
        try with_reducible rfl
      try simp only [Act.put, List.getElem_toArray, List.getElem_cons_succ, List.getElem_cons_zero, List.setIfInBounds_toArray, List.set_cons_zero, List.set_cons_succ]
      refine wpAnyH_ready (rs := [4]) (by kernel_rfl) (by simp) ?_
      refine AllReadyH.cons rfl (fun K hK => ?_) AllReadyH.nil
      go_simp
      go_at_call 22
      (with_reducible refine (HIT.out _ HL6.out).mono ?_)
      rintro e w6 ⟨S, rfl, HS, hb6⟩
      have HL7 : Hid (Below wr.heap.size wr w6) := Lib.hid (HL6.out.trans (hb6.mono HL6.out.size))
      have x0 := below_c HL7.out HRW.out c0
      have x1 := below_c HL7.out HRW.out c1
      have x2 := below_c HL7.out HRW.out c2
      have hxf : w6.frozen? ⟨R, 2, none⟩ = false := below_z HL7.out HRW.out fz2
      obtain ⟨C, hC⟩ : ∃ C, (S.toList == (T.extract a p).toList) = C := ⟨_, rfl⟩
      have HC : Hid ((!C) = badM (tokM (t.drop a))) := Lib.hid (by
        rw [bad_some HSM.out, ← hC, ByteArray.toList_eq, ByteArray.toList_eq, HU.out, HUT.out, HS.out]
        show (!((itoa (valM (tokM (t.drop a)))).toArray.toList == tokM (t.drop a))) = _
        simp [bne])
      clear hb6 HS
      go_wp2_with fail
      refine hK.out _ _ (by exact ⟨x0, x1⟩) (fun _ => ?_)
      clear hK K
      try simp only [Act.put, List.getElem_toArray, List.getElem_cons_succ, List.getElem_cons_zero, List.setIfInBounds_toArray, List.set_cons_zero, List.set_cons_succ]
      refine wpAnyH_take (i := 15) (v := ?_) rfl (by kernel_rfl) (by kernel_rfl) (by kernel_rfl) (fun _ _ _ h => h) (Or.inl ⟨by rfl, ?_⟩) (by assumption) ?_
      rotate_left
      · intro w hSw
        try dsimp only at hSw
        go_simp
        try with_reducible rfl
      try simp only [Act.put, List.getElem_toArray, List.getElem_cons_succ, List.getElem_cons_zero, List.setIfInBounds_toArray, List.set_cons_zero, List.set_cons_succ]
      refine wpAnyH_take (i := 16) (v := ?_) rfl (by kernel_rfl) (by kernel_rfl) (by kernel_rfl) (fun _ _ _ h => h) (Or.inl ⟨by rfl, ?_⟩) (by assumption) ?_
      rotate_left
      · intro w hSw
        try dsimp only at hSw
        go_simp
        try with_reducible rfl
      try simp only [Act.put, List.getElem_toArray, List.getElem_cons_succ, List.getElem_cons_zero, List.setIfInBounds_toArray, List.set_cons_zero, List.set_cons_succ]
      refine wpAnyH_done (by kernel_rfl) ?_ _
      rcases bool2 C with rfl | rfl
      · have HRS : Hid (NumPost w R T t a b (.returned (.int .i64 (valM (tokM (t.drop a))))) w6) := Lib.hid ⟨p, rfl, by
            have h := HRX.out.same (w' := w6) (HL7.out.block R HRW.out)
            show RdS _ R T p (b || badM _)
            rw [← HC.out]
            show RdS _ R T p (b || false)
            rw [Bool.or_false]
            exact h, haj, HDR.out, kpr_trans (HKP.out) (kpr_below HL7.out)⟩
        clear HC
        go_wp2_with fail
        go_ret
        exact HRS.out
      · have HRS : Hid (NumPost w R T t a b (.returned (.int .i64 (valM (tokM (t.drop a))))) (w6.setCell ⟨R, 2, none⟩ (.bool true))) := Lib.hid ⟨p, rfl, by
            have h := ((HRX.out.same (w' := w6) (HL7.out.block R HRW.out)).setB true)
            show RdS _ R T p (b || badM _)
            rw [← HC.out]
            show RdS _ R T p (b || true)
            rw [Bool.or_true]
            exact h, haj, HDR.out, kpr_trans (HKP.out) (kpr_trans (kpr_below HL7.out) (kpr_set _ _ _ _))⟩
        clear HC
        go_wp2_with fail
        go_ret
        exact HRS.out
    · subst hev
      have HRS : Hid (∀ q, NumPost w R T t a b (.returned (.int .i64 (valM (tokM (t.drop a))))) ((w5.drewN q).setCell ⟨R, 2, none⟩ (.bool true))) := Lib.hid fun q => ⟨p, rfl, by
          have h := ((HRX.out.same (w' := w5.drewN q) (HL5.out.block R HRW.out)).setB true)
          show RdS _ R T p (b || badM _)
          rw [bad_none hnn, Bool.or_true]
          exact h, haj, HDR.out, kpr_trans (HKP.out) (kpr_trans (w1 := w5.drewN q) (kpr_below (below_drewN HL5.out q)) (kpr_set _ _ _ _))⟩
      clear HEV hnn
      go_upto_region 5 with fail
      go_quiet (fail)
      go_wp2_with fail
      go_ret
      exact HRS.out _
  have d2 : decide ((p : Int) < (a : Int) + 10) = true := decide_eq_true (by omega)
  have hpT : (p : Int) < T.size := by have := HSZ.out; omega
  have hpT' : p < T.size := by have := HSZ.out; omega
  obtain ⟨y, hy⟩ : ∃ y, t[p]? = some y := ⟨_, List.getElem?_eq_getElem hA⟩
  have hya : (t.drop a)[j]? = some y := by rw [List.getElem?_drop, hp]; exact hy
  obtain ⟨x, hx⟩ : ∃ x : Nat, y.toNat = x := ⟨_, rfl⟩
  have hTy : (T[p]'hpT').toNat = x := (ba_at HT.out hy hpT').trans hx
  have HYA := Lib.hid hya
  have HYX := Lib.hid hx
  have hpa : p = a ↔ j = 0 := by omega
  clear hy hya hx
  by_cases h1 : 48 ≤ x
  · have e1 : decide ((48 : Int) ≤ x) = true := decide_eq_true (by omega)
    have e1' : decide (48 ≤ x) = true := decide_eq_true h1
    by_cases h2 : x ≤ 57
    · have e2 : decide ((x : Int) ≤ 57) = true := decide_eq_true (by omega)
      have e2' : decide (x ≤ 57) = true := decide_eq_true h2
      have HAC : Hid (isDig y = true ∨ (j = 0 ∧ y = 45)) := Lib.hid (.inl (dig_nat.2 (by rw [HYX.out]; exact ⟨h1, h2⟩)))
      have HK2 : Hid (tokM (t.drop a) = (t.drop a).take (j + 1) ++ restM (j + 1) (t.drop a)) := Lib.hid (by
        rw [HK.out, rest_yes hB HYA.out HAC.out, List.take_add_one, HYA.out]
        simp)
      have HRS : Hid (∀ q, RdS ((wr.drewN q).setCell ⟨R, 1, none⟩ (.int .i64 ((p : Int) + 1))) R T (a + (j + 1)) b) := Lib.hid (fun q => by
        have h := (HRX.out.same (w' := wr.drewN q) rfl).setA (a + (j + 1))
        have e : ((a + (j + 1) : Nat) : Int) = (p : Int) + 1 := by omega
        rw [e] at h
        exact h)
      have HKP2 : Hid (∀ q, KpR R w ((wr.drewN q).setCell ⟨R, 1, none⟩ (.int .i64 ((p : Int) + 1)))) := Lib.hid (fun q => kpr_trans HKP.out (kpr_trans (w1 := wr.drewN q) (kpr_below (below_drewN (Below.refl _ _) q)) (kpr_set _ _ _ _)))
      clear HK HRX HKP HAC
      obtain ⟨hw1, hw1'⟩ := HWW.out
      obtain ⟨hwp, hwp'⟩ := HWP.out
      go_upto_region 2 with fail
      go_quiet (fail)
      go_wp2_with fail
      clear hw1 hw1' hwp hwp'
      go_roundg (gk - 1)
      case measure => omega
      case rel => exact ⟨j + 1, by omega, Lib.hid (HRS.out _), by omega, HK2, Lib.hid (HKP2.out _)⟩
    · have e2 : decide ((x : Int) ≤ 57) = false := decide_eq_false (by omega)
      have e2' : decide (x ≤ 57) = false := decide_eq_false h2
      have e4 : ((x : Int) == 45) = false := by rw [beq_eq_false_iff_ne]; omega
      have e4' : (x == 45) = false := by rw [beq_eq_false_iff_ne]; omega
      have HNA : Hid (¬ (isDig y = true ∨ (j = 0 ∧ y = 45))) := Lib.hid (by
        rintro (h | ⟨_, h⟩)
        · rw [dig_nat, HYX.out] at h; omega
        · subst h; have := HYX.out; revert this; intro h; have h3 : (45 : UInt8).toNat = 45 := rfl; omega)
      by_cases h3 : j = 0
      · have e3 : ((p : Int) == a) = true := by rw [beq_iff_eq]; omega
        have e3' : (p == a) = true := by rw [beq_iff_eq]; omega
        clear h1 h2 h3 hpa
        have HTK : Hid (tokM (t.drop a) = (t.drop a).take j) := Lib.hid (by rw [HK.out, rest_stop hB HYA.out HNA.out, List.append_nil])
        clear HK HNA
        obtain ⟨hw1, hw1'⟩ := HWW.out
        go_upto_region 2 with fail
        go_quiet (fail)
        go_wp2_with fail
        clear hw1 hw1'
        obtain ⟨U, hU⟩ : ∃ U, T.extract a p = U := ⟨_, rfl⟩
        have HUT : Hid (U.data.toList = tokM (t.drop a)) := Lib.hid (by rw [← hU, HT.out, ba_ext, HTK.out]; congr 1; omega)
        have HDR : Hid (t.drop p = numR (t.drop a)) := Lib.hid (by
          have hl : (tokM (t.drop a)).length = j := by rw [HTK.out, List.length_take, List.length_drop]; omega
          unfold numR
          rw [hl, List.drop_drop, hp])
        have HU := Lib.hid hU
        have HRW : Hid (R < wr.heap.size) := Lib.hid (block_lt c0)
        have fz2 := HRX.out.fz 2
        have HAT : Hid (∀ W, Below wr.heap.size wr W → Calls Tryz.prog 36 #[.string U] W (AtPost W (tokM (t.drop a)))) := Lib.hid fun W hW => atoi_any B0 U _ W HUT.out (by have := tok_len (t.drop a); omega) ((HSY.out.on (kpr_b HKP.out hBR (by omega))).below hW (by have := HKP.out.size; omega))
        have HIT : Hid (∀ W, Below wr.heap.size wr W → Calls Tryz.prog 22 #[.int .i64 (valM (tokM (t.drop a)))] W (TxPost W (itoa (valM (tokM (t.drop a)))))) := Lib.hid fun W hW => itoa_any B0 _ W (val_i64 (tok_len _)) (TabT.below (HTB.out.on (kpr_b HKP.out hBR (by omega))) hW (by have := HKP.out.size; omega))
        have ha0 : (0 : Int) ≤ a := by omega
        have hap : (a : Int) ≤ p := by omega
        have hap' : a ≤ p := by omega
        have hpt : (p : Int) ≤ T.size := by have := HSZ.out; omega
        have hpt' : p ≤ T.size := by have := HSZ.out; omega
        clear HTK hU
        go_upto_region 4 with fail
        refine wp_region_held_drew (S := fun w' => w'.cell? ⟨R, 0, none⟩ = some (.string T) ∧ w'.cell? ⟨R, 1, none⟩ = some (.int .i64 p)) (by kernel_rfl) (by exact ⟨c0, c1⟩) (fun hHeld => ?_)
        refine wpAnyH_take (i := 0) (v := ?_) rfl (by kernel_rfl) (by kernel_rfl) (by kernel_rfl) (fun _ _ _ h => h) (Or.inl ⟨by rfl, ?_⟩) (by assumption) ?_
        rotate_left
        · intro w hSw
          try dsimp only at hSw
          go_simp
          try with_reducible rfl
        try simp only [Act.put, List.getElem_toArray, List.getElem_cons_succ, List.getElem_cons_zero, List.setIfInBounds_toArray, List.set_cons_zero, List.set_cons_succ]
        refine wpAnyH_take (i := 1) (v := ?_) rfl (by kernel_rfl) (by kernel_rfl) (by kernel_rfl) (fun _ _ _ h => h) (Or.inl ⟨by rfl, ?_⟩) (by assumption) ?_
        rotate_left
        · intro w hSw
          try dsimp only at hSw
          go_simp
          try with_reducible rfl
        try simp only [Act.put, List.getElem_toArray, List.getElem_cons_succ, List.getElem_cons_zero, List.setIfInBounds_toArray, List.set_cons_zero, List.set_cons_succ]
        refine wpAnyH_take (i := 2) (v := ?_) rfl (by kernel_rfl) (by kernel_rfl) (by kernel_rfl) (fun _ _ _ h => h) (Or.inl ⟨by rfl, ?_⟩) (by assumption) ?_
        rotate_left
        · intro w hSw
          try dsimp only at hSw
          go_simp
          try with_reducible rfl
        try simp only [Act.put, List.getElem_toArray, List.getElem_cons_succ, List.getElem_cons_zero, List.setIfInBounds_toArray, List.set_cons_zero, List.set_cons_succ]
        refine wpAnyH_take (i := 3) (v := ?_) rfl (by kernel_rfl) (by kernel_rfl) (by kernel_rfl) (fun _ _ _ h => h) (Or.inl ⟨by rfl, ?_⟩) (by assumption) ?_
        rotate_left
        · intro w hSw
          try dsimp only at hSw
          go_simp
          try with_reducible rfl
        try simp only [Act.put, List.getElem_toArray, List.getElem_cons_succ, List.getElem_cons_zero, List.setIfInBounds_toArray, List.set_cons_zero, List.set_cons_succ]
        refine wpAnyH_take (i := 4) (v := ?_) rfl (by kernel_rfl) (by kernel_rfl) (by kernel_rfl) (fun _ _ _ h => h) (Or.inl ⟨by rfl, ?_⟩) (by assumption) ?_
        rotate_left
        · intro w hSw
          try dsimp only at hSw
          go_simp
          try with_reducible rfl
        try simp only [Act.put, List.getElem_toArray, List.getElem_cons_succ, List.getElem_cons_zero, List.setIfInBounds_toArray, List.set_cons_zero, List.set_cons_succ]
        refine wpAnyH_take (i := 5) (v := ?_) rfl (by kernel_rfl) (by kernel_rfl) (by kernel_rfl) (fun _ _ _ h => h) (Or.inl ⟨by rfl, ?_⟩) (by assumption) ?_
        rotate_left
        · intro w hSw
          try dsimp only at hSw
          go_simp
          try with_reducible rfl
        try simp only [Act.put, List.getElem_toArray, List.getElem_cons_succ, List.getElem_cons_zero, List.setIfInBounds_toArray, List.set_cons_zero, List.set_cons_succ]
        refine wpAnyH_take (i := 6) (v := ?_) rfl (by kernel_rfl) (by kernel_rfl) (by kernel_rfl) (fun _ _ _ h => h) (Or.inl ⟨by rfl, ?_⟩) (by assumption) ?_
        rotate_left
        · intro w hSw
          try dsimp only at hSw
          go_simp
          try with_reducible rfl
        try simp only [Act.put, List.getElem_toArray, List.getElem_cons_succ, List.getElem_cons_zero, List.setIfInBounds_toArray, List.set_cons_zero, List.set_cons_succ]
        refine wpAnyH_take (i := 7) (v := ?_) rfl (by kernel_rfl) (by kernel_rfl) (by kernel_rfl) (fun _ _ _ h => h) (Or.inl ⟨by rfl, ?_⟩) (by assumption) ?_
        rotate_left
        · intro w hSw
          try dsimp only at hSw
          go_simp
          try with_reducible rfl
        try simp only [Act.put, List.getElem_toArray, List.getElem_cons_succ, List.getElem_cons_zero, List.setIfInBounds_toArray, List.set_cons_zero, List.set_cons_succ]
        refine wpAnyH_take (i := 8) (v := ?_) rfl (by kernel_rfl) (by kernel_rfl) (by kernel_rfl) (fun _ _ _ h => h) (Or.inl ⟨by rfl, ?_⟩) (by assumption) ?_
        rotate_left
        · intro w hSw
          try dsimp only at hSw
          go_simp
          try with_reducible rfl
        try simp only [Act.put, List.getElem_toArray, List.getElem_cons_succ, List.getElem_cons_zero, List.setIfInBounds_toArray, List.set_cons_zero, List.set_cons_succ]
        refine wpAnyH_take (i := 9) (v := ?_) rfl (by kernel_rfl) (by kernel_rfl) (by kernel_rfl) (fun _ _ _ h => h) (Or.inl ⟨by rfl, ?_⟩) (by assumption) ?_
        rotate_left
        · intro w hSw
          try dsimp only at hSw
          go_simp
          try with_reducible rfl
        try simp only [Act.put, List.getElem_toArray, List.getElem_cons_succ, List.getElem_cons_zero, List.setIfInBounds_toArray, List.set_cons_zero, List.set_cons_succ]
        refine wpAnyH_ready (rs := [10]) (by kernel_rfl) (by simp) ?_
        refine AllReadyH.cons rfl (fun K hK => ?_) AllReadyH.nil
        go_simp
        try rw [HU.out]
        go_at_call 36
        (with_reducible refine (HAT.out _ (by first | exact below_drewN (Below.refl _ _) _ | exact (below_drewN (Below.refl _ _) _).drew)).mono ?_)
        rintro e w5 ⟨ev, rfl, hev, hb5⟩
        have HL5 : Hid (Below wr.heap.size wr w5) := Lib.hid ((below_drewN (Below.refl wr.heap.size wr) _).trans (hb5.mono (Nat.le_refl _)))
        have x0 := below_c HL5.out HRW.out c0
        have x1 := below_c HL5.out HRW.out c1
        have x2 := below_c HL5.out HRW.out c2
        have HEV := Lib.hid hev
        clear hb5 hev
        go_wp2_with fail
        refine hK.out _ _ (by exact ⟨x0, x1⟩) (fun _ => ?_)
        clear hK K
        try simp only [Act.put, List.getElem_toArray, List.getElem_cons_succ, List.getElem_cons_zero, List.setIfInBounds_toArray, List.set_cons_zero, List.set_cons_succ]
        refine wpAnyH_take (i := 11) (v := ?_) rfl (by kernel_rfl) (by kernel_rfl) (by kernel_rfl) (fun _ _ _ h => h) (Or.inl ⟨by rfl, ?_⟩) (by assumption) ?_
        rotate_left
        · intro w hSw
          try dsimp only at hSw
          go_simp
          try with_reducible rfl
        try simp only [Act.put, List.getElem_toArray, List.getElem_cons_succ, List.getElem_cons_zero, List.setIfInBounds_toArray, List.set_cons_zero, List.set_cons_succ]
        refine wpAnyH_take (i := 12) (v := ?_) rfl (by kernel_rfl) (by kernel_rfl) (by kernel_rfl) (fun _ _ _ h => h) (Or.inl ⟨by rfl, ?_⟩) (by assumption) ?_
        rotate_left
        · intro w hSw
          try dsimp only at hSw
          go_simp
          try with_reducible rfl
        try simp only [Act.put, List.getElem_toArray, List.getElem_cons_succ, List.getElem_cons_zero, List.setIfInBounds_toArray, List.set_cons_zero, List.set_cons_succ]
        refine wpAnyH_take (i := 13) (v := ?_) rfl (by kernel_rfl) (by kernel_rfl) (by kernel_rfl) (fun _ _ _ h => h) (Or.inl ⟨by rfl, ?_⟩) (by assumption) ?_
        rotate_left
        · intro w hSw
          try dsimp only at hSw
          go_simp
          try with_reducible rfl
        try simp only [Act.put, List.getElem_toArray, List.getElem_cons_succ, List.getElem_cons_zero, List.setIfInBounds_toArray, List.set_cons_zero, List.set_cons_succ]
        refine wpAnyH_take (i := 14) (v := ?_) rfl (by kernel_rfl) (by kernel_rfl) (by kernel_rfl) (fun _ _ _ h => h) (Or.inl ⟨by rfl, ?_⟩) (by assumption) ?_
        rotate_left
        · intro w hSw
          try dsimp only at hSw
          go_simp
          try with_reducible rfl
        try simp only [Act.put, List.getElem_toArray, List.getElem_cons_succ, List.getElem_cons_zero, List.setIfInBounds_toArray, List.set_cons_zero, List.set_cons_succ]
        refine wpAnyH_take (i := 15) (v := ?_) rfl (by kernel_rfl) (by kernel_rfl) (by kernel_rfl) (fun _ _ _ h => h) (Or.inl ⟨by rfl, ?_⟩) (by assumption) ?_
        rotate_left
        · intro w hSw
          try dsimp only at hSw
          go_simp
          try with_reducible rfl
        try simp only [Act.put, List.getElem_toArray, List.getElem_cons_succ, List.getElem_cons_zero, List.setIfInBounds_toArray, List.set_cons_zero, List.set_cons_succ]
        refine wpAnyH_done (by kernel_rfl) ?_ _
        have hxf2 : w5.frozen? ⟨R, 2, none⟩ = false := below_z HL5.out HRW.out fz2
        rcases HEV.out with ⟨hev, hsm⟩ | ⟨Te, pe, hev, hnn⟩
        · subst hev
          have HSM := Lib.hid hsm
          have HL6 : Hid (Below wr.heap.size wr w5.drew) := Lib.hid HL5.out.drew
          clear HEV hsm
          go_upto_region 5 with fail
          refine wp_region_held_drew (S := fun w' => w'.cell? ⟨R, 0, none⟩ = some (.string T) ∧ w'.cell? ⟨R, 1, none⟩ = some (.int .i64 p)) (by kernel_rfl) (by exact ⟨x0, x1⟩) (fun hHeld => ?_)
          refine wpAnyH_take (i := 0) (v := ?_) rfl (by kernel_rfl) (by kernel_rfl) (by kernel_rfl) (fun _ _ _ h => h) (Or.inl ⟨by rfl, ?_⟩) (by assumption) ?_
          rotate_left
          · intro w hSw
            try dsimp only at hSw
            go_simp
            try with_reducible rfl
          try simp only [Act.put, List.getElem_toArray, List.getElem_cons_succ, List.getElem_cons_zero, List.setIfInBounds_toArray, List.set_cons_zero, List.set_cons_succ]
          refine wpAnyH_take (i := 1) (v := ?_) rfl (by kernel_rfl) (by kernel_rfl) (by kernel_rfl) (fun _ _ _ h => h) (Or.inl ⟨by rfl, ?_⟩) (by assumption) ?_
          rotate_left
          · intro w hSw
            try dsimp only at hSw
            go_simp
            try with_reducible rfl
          try simp only [Act.put, List.getElem_toArray, List.getElem_cons_succ, List.getElem_cons_zero, List.setIfInBounds_toArray, List.set_cons_zero, List.set_cons_succ]
          refine wpAnyH_take (i := 2) (v := ?_) rfl (by kernel_rfl) (by kernel_rfl) (by kernel_rfl) (fun _ _ _ h => h) (Or.inl ⟨by rfl, ?_⟩) (by assumption) ?_
          rotate_left
          · intro w hSw
            try dsimp only at hSw
            go_simp
            try with_reducible rfl
          try simp only [Act.put, List.getElem_toArray, List.getElem_cons_succ, List.getElem_cons_zero, List.setIfInBounds_toArray, List.set_cons_zero, List.set_cons_succ]
          refine wpAnyH_take (i := 3) (v := ?_) rfl (by kernel_rfl) (by kernel_rfl) (by kernel_rfl) (fun _ _ _ h => h) (Or.inl ⟨by rfl, ?_⟩) (by assumption) ?_
          rotate_left
          · intro w hSw
            try dsimp only at hSw
            go_simp
            try with_reducible rfl
          try simp only [Act.put, List.getElem_toArray, List.getElem_cons_succ, List.getElem_cons_zero, List.setIfInBounds_toArray, List.set_cons_zero, List.set_cons_succ]
          refine wpAnyH_take (i := 5) (v := ?_) rfl (by kernel_rfl) (by kernel_rfl) (by kernel_rfl) (fun _ _ _ h => h) (Or.inl ⟨by rfl, ?_⟩) (by assumption) ?_
          rotate_left
          · intro w hSw
            try dsimp only at hSw
            go_simp
            try with_reducible rfl
          try simp only [Act.put, List.getElem_toArray, List.getElem_cons_succ, List.getElem_cons_zero, List.setIfInBounds_toArray, List.set_cons_zero, List.set_cons_succ]
          refine wpAnyH_take (i := 6) (v := ?_) rfl (by kernel_rfl) (by kernel_rfl) (by kernel_rfl) (fun _ _ _ h => h) (Or.inl ⟨by rfl, ?_⟩) (by assumption) ?_
          rotate_left
          · intro w hSw
            try dsimp only at hSw
            go_simp
            try with_reducible rfl
          try simp only [Act.put, List.getElem_toArray, List.getElem_cons_succ, List.getElem_cons_zero, List.setIfInBounds_toArray, List.set_cons_zero, List.set_cons_succ]
          refine wpAnyH_take (i := 7) (v := ?_) rfl (by kernel_rfl) (by kernel_rfl) (by kernel_rfl) (fun _ _ _ h => h) (Or.inl ⟨by rfl, ?_⟩) (by assumption) ?_
          rotate_left
          · intro w hSw
            try dsimp only at hSw
            go_simp
            try with_reducible rfl
          try simp only [Act.put, List.getElem_toArray, List.getElem_cons_succ, List.getElem_cons_zero, List.setIfInBounds_toArray, List.set_cons_zero, List.set_cons_succ]
          refine wpAnyH_take (i := 8) (v := ?_) rfl (by kernel_rfl) (by kernel_rfl) (by kernel_rfl) (fun _ _ _ h => h) (Or.inl ⟨by rfl, ?_⟩) (by assumption) ?_
          rotate_left
          · intro w hSw
            try dsimp only at hSw
            go_simp
            try with_reducible rfl
          try simp only [Act.put, List.getElem_toArray, List.getElem_cons_succ, List.getElem_cons_zero, List.setIfInBounds_toArray, List.set_cons_zero, List.set_cons_succ]
          refine wpAnyH_take (i := 9) (v := ?_) rfl (by kernel_rfl) (by kernel_rfl) (by kernel_rfl) (fun _ _ _ h => h) (Or.inl ⟨by rfl, ?_⟩) (by assumption) ?_
          rotate_left
          · intro w hSw
            try dsimp only at hSw
            go_simp
            try with_reducible rfl
          try simp only [Act.put, List.getElem_toArray, List.getElem_cons_succ, List.getElem_cons_zero, List.setIfInBounds_toArray, List.set_cons_zero, List.set_cons_succ]
          refine wpAnyH_take (i := 10) (v := ?_) rfl (by kernel_rfl) (by kernel_rfl) (by kernel_rfl) (fun _ _ _ h => h) (Or.inl ⟨by rfl, ?_⟩) (by assumption) ?_
          rotate_left
          · intro w hSw
            try dsimp only at hSw
            go_simp
            try with_reducible rfl
          try simp only [Act.put, List.getElem_toArray, List.getElem_cons_succ, List.getElem_cons_zero, List.setIfInBounds_toArray, List.set_cons_zero, List.set_cons_succ]
          refine wpAnyH_take (i := 11) (v := ?_) rfl (by kernel_rfl) (by kernel_rfl) (by kernel_rfl) (fun _ _ _ h => h) (Or.inl ⟨by rfl, ?_⟩) (by assumption) ?_
          rotate_left
          · intro w hSw
            try dsimp only at hSw
            go_simp
            try with_reducible rfl
          try simp only [Act.put, List.getElem_toArray, List.getElem_cons_succ, List.getElem_cons_zero, List.setIfInBounds_toArray, List.set_cons_zero, List.set_cons_succ]
          refine wpAnyH_take (i := 12) (v := ?_) rfl (by kernel_rfl) (by kernel_rfl) (by kernel_rfl) (fun _ _ _ h => h) (Or.inl ⟨by rfl, ?_⟩) (by assumption) ?_
          rotate_left
          · intro w hSw
            try dsimp only at hSw
            go_simp
            try with_reducible rfl
          try simp only [Act.put, List.getElem_toArray, List.getElem_cons_succ, List.getElem_cons_zero, List.setIfInBounds_toArray, List.set_cons_zero, List.set_cons_succ]
          refine wpAnyH_take (i := 13) (v := ?_) rfl (by kernel_rfl) (by kernel_rfl) (by kernel_rfl) (fun _ _ _ h => h) (Or.inl ⟨by rfl, ?_⟩) (by assumption) ?_
          rotate_left
          · intro w hSw
            try dsimp only at hSw
            go_simp
            try with_reducible rfl
          try simp only [Act.put, List.getElem_toArray, List.getElem_cons_succ, List.getElem_cons_zero, List.setIfInBounds_toArray, List.set_cons_zero, List.set_cons_succ]
          refine wpAnyH_take (i := 14) (v := ?_) rfl (by kernel_rfl) (by kernel_rfl) (by kernel_rfl) (fun _ _ _ h => h) (Or.inl ⟨by rfl, ?_⟩) (by assumption) ?_
          rotate_left
          · intro w hSw
            try dsimp only at hSw
            go_simp
            try with_reducible rfl
          try simp only [Act.put, List.getElem_toArray, List.getElem_cons_succ, List.getElem_cons_zero, List.setIfInBounds_toArray, List.set_cons_zero, List.set_cons_succ]
          refine wpAnyH_ready (rs := [4]) (by kernel_rfl) (by simp) ?_
          refine AllReadyH.cons rfl (fun K hK => ?_) AllReadyH.nil
          go_simp
          go_at_call 22
          (with_reducible refine (HIT.out _ HL6.out).mono ?_)
          rintro e w6 ⟨S, rfl, HS, hb6⟩
          have HL7 : Hid (Below wr.heap.size wr w6) := Lib.hid (HL6.out.trans (hb6.mono HL6.out.size))
          have x0 := below_c HL7.out HRW.out c0
          have x1 := below_c HL7.out HRW.out c1
          have x2 := below_c HL7.out HRW.out c2
          have hxf : w6.frozen? ⟨R, 2, none⟩ = false := below_z HL7.out HRW.out fz2
          obtain ⟨C, hC⟩ : ∃ C, (S.toList == (T.extract a p).toList) = C := ⟨_, rfl⟩
          have HC : Hid ((!C) = badM (tokM (t.drop a))) := Lib.hid (by
            rw [bad_some HSM.out, ← hC, ByteArray.toList_eq, ByteArray.toList_eq, HU.out, HUT.out, HS.out]
            show (!((itoa (valM (tokM (t.drop a)))).toArray.toList == tokM (t.drop a))) = _
            simp [bne])
          clear hb6 HS
          go_wp2_with fail
          refine hK.out _ _ (by exact ⟨x0, x1⟩) (fun _ => ?_)
          clear hK K
          try simp only [Act.put, List.getElem_toArray, List.getElem_cons_succ, List.getElem_cons_zero, List.setIfInBounds_toArray, List.set_cons_zero, List.set_cons_succ]
          refine wpAnyH_take (i := 15) (v := ?_) rfl (by kernel_rfl) (by kernel_rfl) (by kernel_rfl) (fun _ _ _ h => h) (Or.inl ⟨by rfl, ?_⟩) (by assumption) ?_
          rotate_left
          · intro w hSw
            try dsimp only at hSw
            go_simp
            try with_reducible rfl
          try simp only [Act.put, List.getElem_toArray, List.getElem_cons_succ, List.getElem_cons_zero, List.setIfInBounds_toArray, List.set_cons_zero, List.set_cons_succ]
          refine wpAnyH_take (i := 16) (v := ?_) rfl (by kernel_rfl) (by kernel_rfl) (by kernel_rfl) (fun _ _ _ h => h) (Or.inl ⟨by rfl, ?_⟩) (by assumption) ?_
          rotate_left
          · intro w hSw
            try dsimp only at hSw
            go_simp
            try with_reducible rfl
          try simp only [Act.put, List.getElem_toArray, List.getElem_cons_succ, List.getElem_cons_zero, List.setIfInBounds_toArray, List.set_cons_zero, List.set_cons_succ]
          refine wpAnyH_done (by kernel_rfl) ?_ _
          rcases bool2 C with rfl | rfl
          · have HRS : Hid (NumPost w R T t a b (.returned (.int .i64 (valM (tokM (t.drop a))))) w6) := Lib.hid ⟨p, rfl, by
                have h := HRX.out.same (w' := w6) (HL7.out.block R HRW.out)
                show RdS _ R T p (b || badM _)
                rw [← HC.out]
                show RdS _ R T p (b || false)
                rw [Bool.or_false]
                exact h, haj, HDR.out, kpr_trans (HKP.out) (kpr_below HL7.out)⟩
            clear HC
            go_wp2_with fail
            go_ret
            exact HRS.out
          · have HRS : Hid (NumPost w R T t a b (.returned (.int .i64 (valM (tokM (t.drop a))))) (w6.setCell ⟨R, 2, none⟩ (.bool true))) := Lib.hid ⟨p, rfl, by
                have h := ((HRX.out.same (w' := w6) (HL7.out.block R HRW.out)).setB true)
                show RdS _ R T p (b || badM _)
                rw [← HC.out]
                show RdS _ R T p (b || true)
                rw [Bool.or_true]
                exact h, haj, HDR.out, kpr_trans (HKP.out) (kpr_trans (kpr_below HL7.out) (kpr_set _ _ _ _))⟩
            clear HC
            go_wp2_with fail
            go_ret
            exact HRS.out
        · subst hev
          have HRS : Hid (∀ q, NumPost w R T t a b (.returned (.int .i64 (valM (tokM (t.drop a))))) ((w5.drewN q).setCell ⟨R, 2, none⟩ (.bool true))) := Lib.hid fun q => ⟨p, rfl, by
              have h := ((HRX.out.same (w' := w5.drewN q) (HL5.out.block R HRW.out)).setB true)
              show RdS _ R T p (b || badM _)
              rw [bad_none hnn, Bool.or_true]
              exact h, haj, HDR.out, kpr_trans (HKP.out) (kpr_trans (w1 := w5.drewN q) (kpr_below (below_drewN HL5.out q)) (kpr_set _ _ _ _))⟩
          clear HEV hnn
          go_upto_region 5 with fail
          go_quiet (fail)
          go_wp2_with fail
          go_ret
          exact HRS.out _
      · have e3 : ((p : Int) == a) = false := by rw [beq_eq_false_iff_ne]; omega
        have e3' : (p == a) = false := by rw [beq_eq_false_iff_ne]; omega
        clear h1 h2 h3 hpa
        have HTK : Hid (tokM (t.drop a) = (t.drop a).take j) := Lib.hid (by rw [HK.out, rest_stop hB HYA.out HNA.out, List.append_nil])
        clear HK HNA
        obtain ⟨hw1, hw1'⟩ := HWW.out
        go_upto_region 2 with fail
        go_quiet (fail)
        go_wp2_with fail
        clear hw1 hw1'
        obtain ⟨U, hU⟩ : ∃ U, T.extract a p = U := ⟨_, rfl⟩
        have HUT : Hid (U.data.toList = tokM (t.drop a)) := Lib.hid (by rw [← hU, HT.out, ba_ext, HTK.out]; congr 1; omega)
        have HDR : Hid (t.drop p = numR (t.drop a)) := Lib.hid (by
          have hl : (tokM (t.drop a)).length = j := by rw [HTK.out, List.length_take, List.length_drop]; omega
          unfold numR
          rw [hl, List.drop_drop, hp])
        have HU := Lib.hid hU
        have HRW : Hid (R < wr.heap.size) := Lib.hid (block_lt c0)
        have fz2 := HRX.out.fz 2
        have HAT : Hid (∀ W, Below wr.heap.size wr W → Calls Tryz.prog 36 #[.string U] W (AtPost W (tokM (t.drop a)))) := Lib.hid fun W hW => atoi_any B0 U _ W HUT.out (by have := tok_len (t.drop a); omega) ((HSY.out.on (kpr_b HKP.out hBR (by omega))).below hW (by have := HKP.out.size; omega))
        have HIT : Hid (∀ W, Below wr.heap.size wr W → Calls Tryz.prog 22 #[.int .i64 (valM (tokM (t.drop a)))] W (TxPost W (itoa (valM (tokM (t.drop a)))))) := Lib.hid fun W hW => itoa_any B0 _ W (val_i64 (tok_len _)) (TabT.below (HTB.out.on (kpr_b HKP.out hBR (by omega))) hW (by have := HKP.out.size; omega))
        have ha0 : (0 : Int) ≤ a := by omega
        have hap : (a : Int) ≤ p := by omega
        have hap' : a ≤ p := by omega
        have hpt : (p : Int) ≤ T.size := by have := HSZ.out; omega
        have hpt' : p ≤ T.size := by have := HSZ.out; omega
        clear HTK hU
        go_upto_region 4 with fail
        refine wp_region_held_drew (S := fun w' => w'.cell? ⟨R, 0, none⟩ = some (.string T) ∧ w'.cell? ⟨R, 1, none⟩ = some (.int .i64 p)) (by kernel_rfl) (by exact ⟨c0, c1⟩) (fun hHeld => ?_)
        refine wpAnyH_take (i := 0) (v := ?_) rfl (by kernel_rfl) (by kernel_rfl) (by kernel_rfl) (fun _ _ _ h => h) (Or.inl ⟨by rfl, ?_⟩) (by assumption) ?_
        rotate_left
        · intro w hSw
          try dsimp only at hSw
          go_simp
          try with_reducible rfl
        try simp only [Act.put, List.getElem_toArray, List.getElem_cons_succ, List.getElem_cons_zero, List.setIfInBounds_toArray, List.set_cons_zero, List.set_cons_succ]
        refine wpAnyH_take (i := 1) (v := ?_) rfl (by kernel_rfl) (by kernel_rfl) (by kernel_rfl) (fun _ _ _ h => h) (Or.inl ⟨by rfl, ?_⟩) (by assumption) ?_
        rotate_left
        · intro w hSw
          try dsimp only at hSw
          go_simp
          try with_reducible rfl
        try simp only [Act.put, List.getElem_toArray, List.getElem_cons_succ, List.getElem_cons_zero, List.setIfInBounds_toArray, List.set_cons_zero, List.set_cons_succ]
        refine wpAnyH_take (i := 2) (v := ?_) rfl (by kernel_rfl) (by kernel_rfl) (by kernel_rfl) (fun _ _ _ h => h) (Or.inl ⟨by rfl, ?_⟩) (by assumption) ?_
        rotate_left
        · intro w hSw
          try dsimp only at hSw
          go_simp
          try with_reducible rfl
        try simp only [Act.put, List.getElem_toArray, List.getElem_cons_succ, List.getElem_cons_zero, List.setIfInBounds_toArray, List.set_cons_zero, List.set_cons_succ]
        refine wpAnyH_take (i := 3) (v := ?_) rfl (by kernel_rfl) (by kernel_rfl) (by kernel_rfl) (fun _ _ _ h => h) (Or.inl ⟨by rfl, ?_⟩) (by assumption) ?_
        rotate_left
        · intro w hSw
          try dsimp only at hSw
          go_simp
          try with_reducible rfl
        try simp only [Act.put, List.getElem_toArray, List.getElem_cons_succ, List.getElem_cons_zero, List.setIfInBounds_toArray, List.set_cons_zero, List.set_cons_succ]
        refine wpAnyH_take (i := 4) (v := ?_) rfl (by kernel_rfl) (by kernel_rfl) (by kernel_rfl) (fun _ _ _ h => h) (Or.inl ⟨by rfl, ?_⟩) (by assumption) ?_
        rotate_left
        · intro w hSw
          try dsimp only at hSw
          go_simp
          try with_reducible rfl
        try simp only [Act.put, List.getElem_toArray, List.getElem_cons_succ, List.getElem_cons_zero, List.setIfInBounds_toArray, List.set_cons_zero, List.set_cons_succ]
        refine wpAnyH_take (i := 5) (v := ?_) rfl (by kernel_rfl) (by kernel_rfl) (by kernel_rfl) (fun _ _ _ h => h) (Or.inl ⟨by rfl, ?_⟩) (by assumption) ?_
        rotate_left
        · intro w hSw
          try dsimp only at hSw
          go_simp
          try with_reducible rfl
        try simp only [Act.put, List.getElem_toArray, List.getElem_cons_succ, List.getElem_cons_zero, List.setIfInBounds_toArray, List.set_cons_zero, List.set_cons_succ]
        refine wpAnyH_take (i := 6) (v := ?_) rfl (by kernel_rfl) (by kernel_rfl) (by kernel_rfl) (fun _ _ _ h => h) (Or.inl ⟨by rfl, ?_⟩) (by assumption) ?_
        rotate_left
        · intro w hSw
          try dsimp only at hSw
          go_simp
          try with_reducible rfl
        try simp only [Act.put, List.getElem_toArray, List.getElem_cons_succ, List.getElem_cons_zero, List.setIfInBounds_toArray, List.set_cons_zero, List.set_cons_succ]
        refine wpAnyH_take (i := 7) (v := ?_) rfl (by kernel_rfl) (by kernel_rfl) (by kernel_rfl) (fun _ _ _ h => h) (Or.inl ⟨by rfl, ?_⟩) (by assumption) ?_
        rotate_left
        · intro w hSw
          try dsimp only at hSw
          go_simp
          try with_reducible rfl
        try simp only [Act.put, List.getElem_toArray, List.getElem_cons_succ, List.getElem_cons_zero, List.setIfInBounds_toArray, List.set_cons_zero, List.set_cons_succ]
        refine wpAnyH_take (i := 8) (v := ?_) rfl (by kernel_rfl) (by kernel_rfl) (by kernel_rfl) (fun _ _ _ h => h) (Or.inl ⟨by rfl, ?_⟩) (by assumption) ?_
        rotate_left
        · intro w hSw
          try dsimp only at hSw
          go_simp
          try with_reducible rfl
        try simp only [Act.put, List.getElem_toArray, List.getElem_cons_succ, List.getElem_cons_zero, List.setIfInBounds_toArray, List.set_cons_zero, List.set_cons_succ]
        refine wpAnyH_take (i := 9) (v := ?_) rfl (by kernel_rfl) (by kernel_rfl) (by kernel_rfl) (fun _ _ _ h => h) (Or.inl ⟨by rfl, ?_⟩) (by assumption) ?_
        rotate_left
        · intro w hSw
          try dsimp only at hSw
          go_simp
          try with_reducible rfl
        try simp only [Act.put, List.getElem_toArray, List.getElem_cons_succ, List.getElem_cons_zero, List.setIfInBounds_toArray, List.set_cons_zero, List.set_cons_succ]
        refine wpAnyH_ready (rs := [10]) (by kernel_rfl) (by simp) ?_
        refine AllReadyH.cons rfl (fun K hK => ?_) AllReadyH.nil
        go_simp
        try rw [HU.out]
        go_at_call 36
        (with_reducible refine (HAT.out _ (by first | exact below_drewN (Below.refl _ _) _ | exact (below_drewN (Below.refl _ _) _).drew)).mono ?_)
        rintro e w5 ⟨ev, rfl, hev, hb5⟩
        have HL5 : Hid (Below wr.heap.size wr w5) := Lib.hid ((below_drewN (Below.refl wr.heap.size wr) _).trans (hb5.mono (Nat.le_refl _)))
        have x0 := below_c HL5.out HRW.out c0
        have x1 := below_c HL5.out HRW.out c1
        have x2 := below_c HL5.out HRW.out c2
        have HEV := Lib.hid hev
        clear hb5 hev
        go_wp2_with fail
        refine hK.out _ _ (by exact ⟨x0, x1⟩) (fun _ => ?_)
        clear hK K
        try simp only [Act.put, List.getElem_toArray, List.getElem_cons_succ, List.getElem_cons_zero, List.setIfInBounds_toArray, List.set_cons_zero, List.set_cons_succ]
        refine wpAnyH_take (i := 11) (v := ?_) rfl (by kernel_rfl) (by kernel_rfl) (by kernel_rfl) (fun _ _ _ h => h) (Or.inl ⟨by rfl, ?_⟩) (by assumption) ?_
        rotate_left
        · intro w hSw
          try dsimp only at hSw
          go_simp
          try with_reducible rfl
        try simp only [Act.put, List.getElem_toArray, List.getElem_cons_succ, List.getElem_cons_zero, List.setIfInBounds_toArray, List.set_cons_zero, List.set_cons_succ]
        refine wpAnyH_take (i := 12) (v := ?_) rfl (by kernel_rfl) (by kernel_rfl) (by kernel_rfl) (fun _ _ _ h => h) (Or.inl ⟨by rfl, ?_⟩) (by assumption) ?_
        rotate_left
        · intro w hSw
          try dsimp only at hSw
          go_simp
          try with_reducible rfl
        try simp only [Act.put, List.getElem_toArray, List.getElem_cons_succ, List.getElem_cons_zero, List.setIfInBounds_toArray, List.set_cons_zero, List.set_cons_succ]
        refine wpAnyH_take (i := 13) (v := ?_) rfl (by kernel_rfl) (by kernel_rfl) (by kernel_rfl) (fun _ _ _ h => h) (Or.inl ⟨by rfl, ?_⟩) (by assumption) ?_
        rotate_left
        · intro w hSw
          try dsimp only at hSw
          go_simp
          try with_reducible rfl
        try simp only [Act.put, List.getElem_toArray, List.getElem_cons_succ, List.getElem_cons_zero, List.setIfInBounds_toArray, List.set_cons_zero, List.set_cons_succ]
        refine wpAnyH_take (i := 14) (v := ?_) rfl (by kernel_rfl) (by kernel_rfl) (by kernel_rfl) (fun _ _ _ h => h) (Or.inl ⟨by rfl, ?_⟩) (by assumption) ?_
        rotate_left
        · intro w hSw
          try dsimp only at hSw
          go_simp
          try with_reducible rfl
        try simp only [Act.put, List.getElem_toArray, List.getElem_cons_succ, List.getElem_cons_zero, List.setIfInBounds_toArray, List.set_cons_zero, List.set_cons_succ]
        refine wpAnyH_take (i := 15) (v := ?_) rfl (by kernel_rfl) (by kernel_rfl) (by kernel_rfl) (fun _ _ _ h => h) (Or.inl ⟨by rfl, ?_⟩) (by assumption) ?_
        rotate_left
        · intro w hSw
          try dsimp only at hSw
          go_simp
          try with_reducible rfl
        try simp only [Act.put, List.getElem_toArray, List.getElem_cons_succ, List.getElem_cons_zero, List.setIfInBounds_toArray, List.set_cons_zero, List.set_cons_succ]
        refine wpAnyH_done (by kernel_rfl) ?_ _
        have hxf2 : w5.frozen? ⟨R, 2, none⟩ = false := below_z HL5.out HRW.out fz2
        rcases HEV.out with ⟨hev, hsm⟩ | ⟨Te, pe, hev, hnn⟩
        · subst hev
          have HSM := Lib.hid hsm
          have HL6 : Hid (Below wr.heap.size wr w5.drew) := Lib.hid HL5.out.drew
          clear HEV hsm
          go_upto_region 5 with fail
          refine wp_region_held_drew (S := fun w' => w'.cell? ⟨R, 0, none⟩ = some (.string T) ∧ w'.cell? ⟨R, 1, none⟩ = some (.int .i64 p)) (by kernel_rfl) (by exact ⟨x0, x1⟩) (fun hHeld => ?_)
          refine wpAnyH_take (i := 0) (v := ?_) rfl (by kernel_rfl) (by kernel_rfl) (by kernel_rfl) (fun _ _ _ h => h) (Or.inl ⟨by rfl, ?_⟩) (by assumption) ?_
          rotate_left
          · intro w hSw
            try dsimp only at hSw
            go_simp
            try with_reducible rfl
          try simp only [Act.put, List.getElem_toArray, List.getElem_cons_succ, List.getElem_cons_zero, List.setIfInBounds_toArray, List.set_cons_zero, List.set_cons_succ]
          refine wpAnyH_take (i := 1) (v := ?_) rfl (by kernel_rfl) (by kernel_rfl) (by kernel_rfl) (fun _ _ _ h => h) (Or.inl ⟨by rfl, ?_⟩) (by assumption) ?_
          rotate_left
          · intro w hSw
            try dsimp only at hSw
            go_simp
            try with_reducible rfl
          try simp only [Act.put, List.getElem_toArray, List.getElem_cons_succ, List.getElem_cons_zero, List.setIfInBounds_toArray, List.set_cons_zero, List.set_cons_succ]
          refine wpAnyH_take (i := 2) (v := ?_) rfl (by kernel_rfl) (by kernel_rfl) (by kernel_rfl) (fun _ _ _ h => h) (Or.inl ⟨by rfl, ?_⟩) (by assumption) ?_
          rotate_left
          · intro w hSw
            try dsimp only at hSw
            go_simp
            try with_reducible rfl
          try simp only [Act.put, List.getElem_toArray, List.getElem_cons_succ, List.getElem_cons_zero, List.setIfInBounds_toArray, List.set_cons_zero, List.set_cons_succ]
          refine wpAnyH_take (i := 3) (v := ?_) rfl (by kernel_rfl) (by kernel_rfl) (by kernel_rfl) (fun _ _ _ h => h) (Or.inl ⟨by rfl, ?_⟩) (by assumption) ?_
          rotate_left
          · intro w hSw
            try dsimp only at hSw
            go_simp
            try with_reducible rfl
          try simp only [Act.put, List.getElem_toArray, List.getElem_cons_succ, List.getElem_cons_zero, List.setIfInBounds_toArray, List.set_cons_zero, List.set_cons_succ]
          refine wpAnyH_take (i := 5) (v := ?_) rfl (by kernel_rfl) (by kernel_rfl) (by kernel_rfl) (fun _ _ _ h => h) (Or.inl ⟨by rfl, ?_⟩) (by assumption) ?_
          rotate_left
          · intro w hSw
            try dsimp only at hSw
            go_simp
            try with_reducible rfl
          try simp only [Act.put, List.getElem_toArray, List.getElem_cons_succ, List.getElem_cons_zero, List.setIfInBounds_toArray, List.set_cons_zero, List.set_cons_succ]
          refine wpAnyH_take (i := 6) (v := ?_) rfl (by kernel_rfl) (by kernel_rfl) (by kernel_rfl) (fun _ _ _ h => h) (Or.inl ⟨by rfl, ?_⟩) (by assumption) ?_
          rotate_left
          · intro w hSw
            try dsimp only at hSw
            go_simp
            try with_reducible rfl
          try simp only [Act.put, List.getElem_toArray, List.getElem_cons_succ, List.getElem_cons_zero, List.setIfInBounds_toArray, List.set_cons_zero, List.set_cons_succ]
          refine wpAnyH_take (i := 7) (v := ?_) rfl (by kernel_rfl) (by kernel_rfl) (by kernel_rfl) (fun _ _ _ h => h) (Or.inl ⟨by rfl, ?_⟩) (by assumption) ?_
          rotate_left
          · intro w hSw
            try dsimp only at hSw
            go_simp
            try with_reducible rfl
          try simp only [Act.put, List.getElem_toArray, List.getElem_cons_succ, List.getElem_cons_zero, List.setIfInBounds_toArray, List.set_cons_zero, List.set_cons_succ]
          refine wpAnyH_take (i := 8) (v := ?_) rfl (by kernel_rfl) (by kernel_rfl) (by kernel_rfl) (fun _ _ _ h => h) (Or.inl ⟨by rfl, ?_⟩) (by assumption) ?_
          rotate_left
          · intro w hSw
            try dsimp only at hSw
            go_simp
            try with_reducible rfl
          try simp only [Act.put, List.getElem_toArray, List.getElem_cons_succ, List.getElem_cons_zero, List.setIfInBounds_toArray, List.set_cons_zero, List.set_cons_succ]
          refine wpAnyH_take (i := 9) (v := ?_) rfl (by kernel_rfl) (by kernel_rfl) (by kernel_rfl) (fun _ _ _ h => h) (Or.inl ⟨by rfl, ?_⟩) (by assumption) ?_
          rotate_left
          · intro w hSw
            try dsimp only at hSw
            go_simp
            try with_reducible rfl
          try simp only [Act.put, List.getElem_toArray, List.getElem_cons_succ, List.getElem_cons_zero, List.setIfInBounds_toArray, List.set_cons_zero, List.set_cons_succ]
          refine wpAnyH_take (i := 10) (v := ?_) rfl (by kernel_rfl) (by kernel_rfl) (by kernel_rfl) (fun _ _ _ h => h) (Or.inl ⟨by rfl, ?_⟩) (by assumption) ?_
          rotate_left
          · intro w hSw
            try dsimp only at hSw
            go_simp
            try with_reducible rfl
          try simp only [Act.put, List.getElem_toArray, List.getElem_cons_succ, List.getElem_cons_zero, List.setIfInBounds_toArray, List.set_cons_zero, List.set_cons_succ]
          refine wpAnyH_take (i := 11) (v := ?_) rfl (by kernel_rfl) (by kernel_rfl) (by kernel_rfl) (fun _ _ _ h => h) (Or.inl ⟨by rfl, ?_⟩) (by assumption) ?_
          rotate_left
          · intro w hSw
            try dsimp only at hSw
            go_simp
            try with_reducible rfl
          try simp only [Act.put, List.getElem_toArray, List.getElem_cons_succ, List.getElem_cons_zero, List.setIfInBounds_toArray, List.set_cons_zero, List.set_cons_succ]
          refine wpAnyH_take (i := 12) (v := ?_) rfl (by kernel_rfl) (by kernel_rfl) (by kernel_rfl) (fun _ _ _ h => h) (Or.inl ⟨by rfl, ?_⟩) (by assumption) ?_
          rotate_left
          · intro w hSw
            try dsimp only at hSw
            go_simp
            try with_reducible rfl
          try simp only [Act.put, List.getElem_toArray, List.getElem_cons_succ, List.getElem_cons_zero, List.setIfInBounds_toArray, List.set_cons_zero, List.set_cons_succ]
          refine wpAnyH_take (i := 13) (v := ?_) rfl (by kernel_rfl) (by kernel_rfl) (by kernel_rfl) (fun _ _ _ h => h) (Or.inl ⟨by rfl, ?_⟩) (by assumption) ?_
          rotate_left
          · intro w hSw
            try dsimp only at hSw
            go_simp
            try with_reducible rfl
          try simp only [Act.put, List.getElem_toArray, List.getElem_cons_succ, List.getElem_cons_zero, List.setIfInBounds_toArray, List.set_cons_zero, List.set_cons_succ]
          refine wpAnyH_take (i := 14) (v := ?_) rfl (by kernel_rfl) (by kernel_rfl) (by kernel_rfl) (fun _ _ _ h => h) (Or.inl ⟨by rfl, ?_⟩) (by assumption) ?_
          rotate_left
          · intro w hSw
            try dsimp only at hSw
            go_simp
            try with_reducible rfl
          try simp only [Act.put, List.getElem_toArray, List.getElem_cons_succ, List.getElem_cons_zero, List.setIfInBounds_toArray, List.set_cons_zero, List.set_cons_succ]
          refine wpAnyH_ready (rs := [4]) (by kernel_rfl) (by simp) ?_
          refine AllReadyH.cons rfl (fun K hK => ?_) AllReadyH.nil
          go_simp
          go_at_call 22
          (with_reducible refine (HIT.out _ HL6.out).mono ?_)
          rintro e w6 ⟨S, rfl, HS, hb6⟩
          have HL7 : Hid (Below wr.heap.size wr w6) := Lib.hid (HL6.out.trans (hb6.mono HL6.out.size))
          have x0 := below_c HL7.out HRW.out c0
          have x1 := below_c HL7.out HRW.out c1
          have x2 := below_c HL7.out HRW.out c2
          have hxf : w6.frozen? ⟨R, 2, none⟩ = false := below_z HL7.out HRW.out fz2
          obtain ⟨C, hC⟩ : ∃ C, (S.toList == (T.extract a p).toList) = C := ⟨_, rfl⟩
          have HC : Hid ((!C) = badM (tokM (t.drop a))) := Lib.hid (by
            rw [bad_some HSM.out, ← hC, ByteArray.toList_eq, ByteArray.toList_eq, HU.out, HUT.out, HS.out]
            show (!((itoa (valM (tokM (t.drop a)))).toArray.toList == tokM (t.drop a))) = _
            simp [bne])
          clear hb6 HS
          go_wp2_with fail
          refine hK.out _ _ (by exact ⟨x0, x1⟩) (fun _ => ?_)
          clear hK K
          try simp only [Act.put, List.getElem_toArray, List.getElem_cons_succ, List.getElem_cons_zero, List.setIfInBounds_toArray, List.set_cons_zero, List.set_cons_succ]
          refine wpAnyH_take (i := 15) (v := ?_) rfl (by kernel_rfl) (by kernel_rfl) (by kernel_rfl) (fun _ _ _ h => h) (Or.inl ⟨by rfl, ?_⟩) (by assumption) ?_
          rotate_left
          · intro w hSw
            try dsimp only at hSw
            go_simp
            try with_reducible rfl
          try simp only [Act.put, List.getElem_toArray, List.getElem_cons_succ, List.getElem_cons_zero, List.setIfInBounds_toArray, List.set_cons_zero, List.set_cons_succ]
          refine wpAnyH_take (i := 16) (v := ?_) rfl (by kernel_rfl) (by kernel_rfl) (by kernel_rfl) (fun _ _ _ h => h) (Or.inl ⟨by rfl, ?_⟩) (by assumption) ?_
          rotate_left
          · intro w hSw
            try dsimp only at hSw
            go_simp
            try with_reducible rfl
          try simp only [Act.put, List.getElem_toArray, List.getElem_cons_succ, List.getElem_cons_zero, List.setIfInBounds_toArray, List.set_cons_zero, List.set_cons_succ]
          refine wpAnyH_done (by kernel_rfl) ?_ _
          rcases bool2 C with rfl | rfl
          · have HRS : Hid (NumPost w R T t a b (.returned (.int .i64 (valM (tokM (t.drop a))))) w6) := Lib.hid ⟨p, rfl, by
                have h := HRX.out.same (w' := w6) (HL7.out.block R HRW.out)
                show RdS _ R T p (b || badM _)
                rw [← HC.out]
                show RdS _ R T p (b || false)
                rw [Bool.or_false]
                exact h, haj, HDR.out, kpr_trans (HKP.out) (kpr_below HL7.out)⟩
            clear HC
            go_wp2_with fail
            go_ret
            exact HRS.out
          · have HRS : Hid (NumPost w R T t a b (.returned (.int .i64 (valM (tokM (t.drop a))))) (w6.setCell ⟨R, 2, none⟩ (.bool true))) := Lib.hid ⟨p, rfl, by
                have h := ((HRX.out.same (w' := w6) (HL7.out.block R HRW.out)).setB true)
                show RdS _ R T p (b || badM _)
                rw [← HC.out]
                show RdS _ R T p (b || true)
                rw [Bool.or_true]
                exact h, haj, HDR.out, kpr_trans (HKP.out) (kpr_trans (kpr_below HL7.out) (kpr_set _ _ _ _))⟩
            clear HC
            go_wp2_with fail
            go_ret
            exact HRS.out
        · subst hev
          have HRS : Hid (∀ q, NumPost w R T t a b (.returned (.int .i64 (valM (tokM (t.drop a))))) ((w5.drewN q).setCell ⟨R, 2, none⟩ (.bool true))) := Lib.hid fun q => ⟨p, rfl, by
              have h := ((HRX.out.same (w' := w5.drewN q) (HL5.out.block R HRW.out)).setB true)
              show RdS _ R T p (b || badM _)
              rw [bad_none hnn, Bool.or_true]
              exact h, haj, HDR.out, kpr_trans (HKP.out) (kpr_trans (w1 := w5.drewN q) (kpr_below (below_drewN HL5.out q)) (kpr_set _ _ _ _))⟩
          clear HEV hnn
          go_upto_region 5 with fail
          go_quiet (fail)
          go_wp2_with fail
          go_ret
          exact HRS.out _
  · have e1 : decide ((48 : Int) ≤ x) = false := decide_eq_false (by omega)
    have e1' : decide (48 ≤ x) = false := decide_eq_false h1
    by_cases h3 : j = 0
    · have e3 : ((p : Int) == a) = true := by rw [beq_iff_eq]; omega
      have e3' : (p == a) = true := by rw [beq_iff_eq]; omega
      by_cases h4 : x = 45
      · have e4 : ((x : Int) == 45) = true := by rw [beq_iff_eq]; omega
        have e4' : (x == 45) = true := by rw [beq_iff_eq]; exact h4
        have HAC : Hid (isDig y = true ∨ (j = 0 ∧ y = 45)) := Lib.hid (.inr ⟨h3, UInt8.toNat_inj.1 (by rw [HYX.out, h4]; rfl)⟩)
        clear h1 h3 h4 hpa
        have HK2 : Hid (tokM (t.drop a) = (t.drop a).take (j + 1) ++ restM (j + 1) (t.drop a)) := Lib.hid (by
          rw [HK.out, rest_yes hB HYA.out HAC.out, List.take_add_one, HYA.out]
          simp)
        have HRS : Hid (∀ q, RdS ((wr.drewN q).setCell ⟨R, 1, none⟩ (.int .i64 ((p : Int) + 1))) R T (a + (j + 1)) b) := Lib.hid (fun q => by
          have h := (HRX.out.same (w' := wr.drewN q) rfl).setA (a + (j + 1))
          have e : ((a + (j + 1) : Nat) : Int) = (p : Int) + 1 := by omega
          rw [e] at h
          exact h)
        have HKP2 : Hid (∀ q, KpR R w ((wr.drewN q).setCell ⟨R, 1, none⟩ (.int .i64 ((p : Int) + 1)))) := Lib.hid (fun q => kpr_trans HKP.out (kpr_trans (w1 := wr.drewN q) (kpr_below (below_drewN (Below.refl _ _) q)) (kpr_set _ _ _ _)))
        clear HK HRX HKP HAC
        obtain ⟨hw1, hw1'⟩ := HWW.out
        obtain ⟨hwp, hwp'⟩ := HWP.out
        go_upto_region 2 with fail
        go_quiet (fail)
        go_wp2_with fail
        clear hw1 hw1' hwp hwp'
        go_roundg (gk - 1)
        case measure => omega
        case rel => exact ⟨j + 1, by omega, Lib.hid (HRS.out _), by omega, HK2, Lib.hid (HKP2.out _)⟩
      · have e4 : ((x : Int) == 45) = false := by rw [beq_eq_false_iff_ne]; omega
        have e4' : (x == 45) = false := by rw [beq_eq_false_iff_ne]; exact h4
        have HNA : Hid (¬ (isDig y = true ∨ (j = 0 ∧ y = 45))) := Lib.hid (by
          rintro (h | ⟨_, h⟩)
          · rw [dig_nat, HYX.out] at h; omega
          · subst h; exact h4 (by rw [← HYX.out]; rfl))
        clear h1 h3 h4 hpa
        have HTK : Hid (tokM (t.drop a) = (t.drop a).take j) := Lib.hid (by rw [HK.out, rest_stop hB HYA.out HNA.out, List.append_nil])
        clear HK HNA
        obtain ⟨hw1, hw1'⟩ := HWW.out
        go_upto_region 2 with fail
        go_quiet (fail)
        go_wp2_with fail
        clear hw1 hw1'
        obtain ⟨U, hU⟩ : ∃ U, T.extract a p = U := ⟨_, rfl⟩
        have HUT : Hid (U.data.toList = tokM (t.drop a)) := Lib.hid (by rw [← hU, HT.out, ba_ext, HTK.out]; congr 1; omega)
        have HDR : Hid (t.drop p = numR (t.drop a)) := Lib.hid (by
          have hl : (tokM (t.drop a)).length = j := by rw [HTK.out, List.length_take, List.length_drop]; omega
          unfold numR
          rw [hl, List.drop_drop, hp])
        have HU := Lib.hid hU
        have HRW : Hid (R < wr.heap.size) := Lib.hid (block_lt c0)
        have fz2 := HRX.out.fz 2
        have HAT : Hid (∀ W, Below wr.heap.size wr W → Calls Tryz.prog 36 #[.string U] W (AtPost W (tokM (t.drop a)))) := Lib.hid fun W hW => atoi_any B0 U _ W HUT.out (by have := tok_len (t.drop a); omega) ((HSY.out.on (kpr_b HKP.out hBR (by omega))).below hW (by have := HKP.out.size; omega))
        have HIT : Hid (∀ W, Below wr.heap.size wr W → Calls Tryz.prog 22 #[.int .i64 (valM (tokM (t.drop a)))] W (TxPost W (itoa (valM (tokM (t.drop a)))))) := Lib.hid fun W hW => itoa_any B0 _ W (val_i64 (tok_len _)) (TabT.below (HTB.out.on (kpr_b HKP.out hBR (by omega))) hW (by have := HKP.out.size; omega))
        have ha0 : (0 : Int) ≤ a := by omega
        have hap : (a : Int) ≤ p := by omega
        have hap' : a ≤ p := by omega
        have hpt : (p : Int) ≤ T.size := by have := HSZ.out; omega
        have hpt' : p ≤ T.size := by have := HSZ.out; omega
        clear HTK hU
        go_upto_region 4 with fail
        refine wp_region_held_drew (S := fun w' => w'.cell? ⟨R, 0, none⟩ = some (.string T) ∧ w'.cell? ⟨R, 1, none⟩ = some (.int .i64 p)) (by kernel_rfl) (by exact ⟨c0, c1⟩) (fun hHeld => ?_)
        refine wpAnyH_take (i := 0) (v := ?_) rfl (by kernel_rfl) (by kernel_rfl) (by kernel_rfl) (fun _ _ _ h => h) (Or.inl ⟨by rfl, ?_⟩) (by assumption) ?_
        rotate_left
        · intro w hSw
          try dsimp only at hSw
          go_simp
          try with_reducible rfl
        try simp only [Act.put, List.getElem_toArray, List.getElem_cons_succ, List.getElem_cons_zero, List.setIfInBounds_toArray, List.set_cons_zero, List.set_cons_succ]
        refine wpAnyH_take (i := 1) (v := ?_) rfl (by kernel_rfl) (by kernel_rfl) (by kernel_rfl) (fun _ _ _ h => h) (Or.inl ⟨by rfl, ?_⟩) (by assumption) ?_
        rotate_left
        · intro w hSw
          try dsimp only at hSw
          go_simp
          try with_reducible rfl
        try simp only [Act.put, List.getElem_toArray, List.getElem_cons_succ, List.getElem_cons_zero, List.setIfInBounds_toArray, List.set_cons_zero, List.set_cons_succ]
        refine wpAnyH_take (i := 2) (v := ?_) rfl (by kernel_rfl) (by kernel_rfl) (by kernel_rfl) (fun _ _ _ h => h) (Or.inl ⟨by rfl, ?_⟩) (by assumption) ?_
        rotate_left
        · intro w hSw
          try dsimp only at hSw
          go_simp
          try with_reducible rfl
        try simp only [Act.put, List.getElem_toArray, List.getElem_cons_succ, List.getElem_cons_zero, List.setIfInBounds_toArray, List.set_cons_zero, List.set_cons_succ]
        refine wpAnyH_take (i := 3) (v := ?_) rfl (by kernel_rfl) (by kernel_rfl) (by kernel_rfl) (fun _ _ _ h => h) (Or.inl ⟨by rfl, ?_⟩) (by assumption) ?_
        rotate_left
        · intro w hSw
          try dsimp only at hSw
          go_simp
          try with_reducible rfl
        try simp only [Act.put, List.getElem_toArray, List.getElem_cons_succ, List.getElem_cons_zero, List.setIfInBounds_toArray, List.set_cons_zero, List.set_cons_succ]
        refine wpAnyH_take (i := 4) (v := ?_) rfl (by kernel_rfl) (by kernel_rfl) (by kernel_rfl) (fun _ _ _ h => h) (Or.inl ⟨by rfl, ?_⟩) (by assumption) ?_
        rotate_left
        · intro w hSw
          try dsimp only at hSw
          go_simp
          try with_reducible rfl
        try simp only [Act.put, List.getElem_toArray, List.getElem_cons_succ, List.getElem_cons_zero, List.setIfInBounds_toArray, List.set_cons_zero, List.set_cons_succ]
        refine wpAnyH_take (i := 5) (v := ?_) rfl (by kernel_rfl) (by kernel_rfl) (by kernel_rfl) (fun _ _ _ h => h) (Or.inl ⟨by rfl, ?_⟩) (by assumption) ?_
        rotate_left
        · intro w hSw
          try dsimp only at hSw
          go_simp
          try with_reducible rfl
        try simp only [Act.put, List.getElem_toArray, List.getElem_cons_succ, List.getElem_cons_zero, List.setIfInBounds_toArray, List.set_cons_zero, List.set_cons_succ]
        refine wpAnyH_take (i := 6) (v := ?_) rfl (by kernel_rfl) (by kernel_rfl) (by kernel_rfl) (fun _ _ _ h => h) (Or.inl ⟨by rfl, ?_⟩) (by assumption) ?_
        rotate_left
        · intro w hSw
          try dsimp only at hSw
          go_simp
          try with_reducible rfl
        try simp only [Act.put, List.getElem_toArray, List.getElem_cons_succ, List.getElem_cons_zero, List.setIfInBounds_toArray, List.set_cons_zero, List.set_cons_succ]
        refine wpAnyH_take (i := 7) (v := ?_) rfl (by kernel_rfl) (by kernel_rfl) (by kernel_rfl) (fun _ _ _ h => h) (Or.inl ⟨by rfl, ?_⟩) (by assumption) ?_
        rotate_left
        · intro w hSw
          try dsimp only at hSw
          go_simp
          try with_reducible rfl
        try simp only [Act.put, List.getElem_toArray, List.getElem_cons_succ, List.getElem_cons_zero, List.setIfInBounds_toArray, List.set_cons_zero, List.set_cons_succ]
        refine wpAnyH_take (i := 8) (v := ?_) rfl (by kernel_rfl) (by kernel_rfl) (by kernel_rfl) (fun _ _ _ h => h) (Or.inl ⟨by rfl, ?_⟩) (by assumption) ?_
        rotate_left
        · intro w hSw
          try dsimp only at hSw
          go_simp
          try with_reducible rfl
        try simp only [Act.put, List.getElem_toArray, List.getElem_cons_succ, List.getElem_cons_zero, List.setIfInBounds_toArray, List.set_cons_zero, List.set_cons_succ]
        refine wpAnyH_take (i := 9) (v := ?_) rfl (by kernel_rfl) (by kernel_rfl) (by kernel_rfl) (fun _ _ _ h => h) (Or.inl ⟨by rfl, ?_⟩) (by assumption) ?_
        rotate_left
        · intro w hSw
          try dsimp only at hSw
          go_simp
          try with_reducible rfl
        try simp only [Act.put, List.getElem_toArray, List.getElem_cons_succ, List.getElem_cons_zero, List.setIfInBounds_toArray, List.set_cons_zero, List.set_cons_succ]
        refine wpAnyH_ready (rs := [10]) (by kernel_rfl) (by simp) ?_
        refine AllReadyH.cons rfl (fun K hK => ?_) AllReadyH.nil
        go_simp
        try rw [HU.out]
        go_at_call 36
        (with_reducible refine (HAT.out _ (by first | exact below_drewN (Below.refl _ _) _ | exact (below_drewN (Below.refl _ _) _).drew)).mono ?_)
        rintro e w5 ⟨ev, rfl, hev, hb5⟩
        have HL5 : Hid (Below wr.heap.size wr w5) := Lib.hid ((below_drewN (Below.refl wr.heap.size wr) _).trans (hb5.mono (Nat.le_refl _)))
        have x0 := below_c HL5.out HRW.out c0
        have x1 := below_c HL5.out HRW.out c1
        have x2 := below_c HL5.out HRW.out c2
        have HEV := Lib.hid hev
        clear hb5 hev
        go_wp2_with fail
        refine hK.out _ _ (by exact ⟨x0, x1⟩) (fun _ => ?_)
        clear hK K
        try simp only [Act.put, List.getElem_toArray, List.getElem_cons_succ, List.getElem_cons_zero, List.setIfInBounds_toArray, List.set_cons_zero, List.set_cons_succ]
        refine wpAnyH_take (i := 11) (v := ?_) rfl (by kernel_rfl) (by kernel_rfl) (by kernel_rfl) (fun _ _ _ h => h) (Or.inl ⟨by rfl, ?_⟩) (by assumption) ?_
        rotate_left
        · intro w hSw
          try dsimp only at hSw
          go_simp
          try with_reducible rfl
        try simp only [Act.put, List.getElem_toArray, List.getElem_cons_succ, List.getElem_cons_zero, List.setIfInBounds_toArray, List.set_cons_zero, List.set_cons_succ]
        refine wpAnyH_take (i := 12) (v := ?_) rfl (by kernel_rfl) (by kernel_rfl) (by kernel_rfl) (fun _ _ _ h => h) (Or.inl ⟨by rfl, ?_⟩) (by assumption) ?_
        rotate_left
        · intro w hSw
          try dsimp only at hSw
          go_simp
          try with_reducible rfl
        try simp only [Act.put, List.getElem_toArray, List.getElem_cons_succ, List.getElem_cons_zero, List.setIfInBounds_toArray, List.set_cons_zero, List.set_cons_succ]
        refine wpAnyH_take (i := 13) (v := ?_) rfl (by kernel_rfl) (by kernel_rfl) (by kernel_rfl) (fun _ _ _ h => h) (Or.inl ⟨by rfl, ?_⟩) (by assumption) ?_
        rotate_left
        · intro w hSw
          try dsimp only at hSw
          go_simp
          try with_reducible rfl
        try simp only [Act.put, List.getElem_toArray, List.getElem_cons_succ, List.getElem_cons_zero, List.setIfInBounds_toArray, List.set_cons_zero, List.set_cons_succ]
        refine wpAnyH_take (i := 14) (v := ?_) rfl (by kernel_rfl) (by kernel_rfl) (by kernel_rfl) (fun _ _ _ h => h) (Or.inl ⟨by rfl, ?_⟩) (by assumption) ?_
        rotate_left
        · intro w hSw
          try dsimp only at hSw
          go_simp
          try with_reducible rfl
        try simp only [Act.put, List.getElem_toArray, List.getElem_cons_succ, List.getElem_cons_zero, List.setIfInBounds_toArray, List.set_cons_zero, List.set_cons_succ]
        refine wpAnyH_take (i := 15) (v := ?_) rfl (by kernel_rfl) (by kernel_rfl) (by kernel_rfl) (fun _ _ _ h => h) (Or.inl ⟨by rfl, ?_⟩) (by assumption) ?_
        rotate_left
        · intro w hSw
          try dsimp only at hSw
          go_simp
          try with_reducible rfl
        try simp only [Act.put, List.getElem_toArray, List.getElem_cons_succ, List.getElem_cons_zero, List.setIfInBounds_toArray, List.set_cons_zero, List.set_cons_succ]
        refine wpAnyH_done (by kernel_rfl) ?_ _
        have hxf2 : w5.frozen? ⟨R, 2, none⟩ = false := below_z HL5.out HRW.out fz2
        rcases HEV.out with ⟨hev, hsm⟩ | ⟨Te, pe, hev, hnn⟩
        · subst hev
          have HSM := Lib.hid hsm
          have HL6 : Hid (Below wr.heap.size wr w5.drew) := Lib.hid HL5.out.drew
          clear HEV hsm
          go_upto_region 5 with fail
          refine wp_region_held_drew (S := fun w' => w'.cell? ⟨R, 0, none⟩ = some (.string T) ∧ w'.cell? ⟨R, 1, none⟩ = some (.int .i64 p)) (by kernel_rfl) (by exact ⟨x0, x1⟩) (fun hHeld => ?_)
          refine wpAnyH_take (i := 0) (v := ?_) rfl (by kernel_rfl) (by kernel_rfl) (by kernel_rfl) (fun _ _ _ h => h) (Or.inl ⟨by rfl, ?_⟩) (by assumption) ?_
          rotate_left
          · intro w hSw
            try dsimp only at hSw
            go_simp
            try with_reducible rfl
          try simp only [Act.put, List.getElem_toArray, List.getElem_cons_succ, List.getElem_cons_zero, List.setIfInBounds_toArray, List.set_cons_zero, List.set_cons_succ]
          refine wpAnyH_take (i := 1) (v := ?_) rfl (by kernel_rfl) (by kernel_rfl) (by kernel_rfl) (fun _ _ _ h => h) (Or.inl ⟨by rfl, ?_⟩) (by assumption) ?_
          rotate_left
          · intro w hSw
            try dsimp only at hSw
            go_simp
            try with_reducible rfl
          try simp only [Act.put, List.getElem_toArray, List.getElem_cons_succ, List.getElem_cons_zero, List.setIfInBounds_toArray, List.set_cons_zero, List.set_cons_succ]
          refine wpAnyH_take (i := 2) (v := ?_) rfl (by kernel_rfl) (by kernel_rfl) (by kernel_rfl) (fun _ _ _ h => h) (Or.inl ⟨by rfl, ?_⟩) (by assumption) ?_
          rotate_left
          · intro w hSw
            try dsimp only at hSw
            go_simp
            try with_reducible rfl
          try simp only [Act.put, List.getElem_toArray, List.getElem_cons_succ, List.getElem_cons_zero, List.setIfInBounds_toArray, List.set_cons_zero, List.set_cons_succ]
          refine wpAnyH_take (i := 3) (v := ?_) rfl (by kernel_rfl) (by kernel_rfl) (by kernel_rfl) (fun _ _ _ h => h) (Or.inl ⟨by rfl, ?_⟩) (by assumption) ?_
          rotate_left
          · intro w hSw
            try dsimp only at hSw
            go_simp
            try with_reducible rfl
          try simp only [Act.put, List.getElem_toArray, List.getElem_cons_succ, List.getElem_cons_zero, List.setIfInBounds_toArray, List.set_cons_zero, List.set_cons_succ]
          refine wpAnyH_take (i := 5) (v := ?_) rfl (by kernel_rfl) (by kernel_rfl) (by kernel_rfl) (fun _ _ _ h => h) (Or.inl ⟨by rfl, ?_⟩) (by assumption) ?_
          rotate_left
          · intro w hSw
            try dsimp only at hSw
            go_simp
            try with_reducible rfl
          try simp only [Act.put, List.getElem_toArray, List.getElem_cons_succ, List.getElem_cons_zero, List.setIfInBounds_toArray, List.set_cons_zero, List.set_cons_succ]
          refine wpAnyH_take (i := 6) (v := ?_) rfl (by kernel_rfl) (by kernel_rfl) (by kernel_rfl) (fun _ _ _ h => h) (Or.inl ⟨by rfl, ?_⟩) (by assumption) ?_
          rotate_left
          · intro w hSw
            try dsimp only at hSw
            go_simp
            try with_reducible rfl
          try simp only [Act.put, List.getElem_toArray, List.getElem_cons_succ, List.getElem_cons_zero, List.setIfInBounds_toArray, List.set_cons_zero, List.set_cons_succ]
          refine wpAnyH_take (i := 7) (v := ?_) rfl (by kernel_rfl) (by kernel_rfl) (by kernel_rfl) (fun _ _ _ h => h) (Or.inl ⟨by rfl, ?_⟩) (by assumption) ?_
          rotate_left
          · intro w hSw
            try dsimp only at hSw
            go_simp
            try with_reducible rfl
          try simp only [Act.put, List.getElem_toArray, List.getElem_cons_succ, List.getElem_cons_zero, List.setIfInBounds_toArray, List.set_cons_zero, List.set_cons_succ]
          refine wpAnyH_take (i := 8) (v := ?_) rfl (by kernel_rfl) (by kernel_rfl) (by kernel_rfl) (fun _ _ _ h => h) (Or.inl ⟨by rfl, ?_⟩) (by assumption) ?_
          rotate_left
          · intro w hSw
            try dsimp only at hSw
            go_simp
            try with_reducible rfl
          try simp only [Act.put, List.getElem_toArray, List.getElem_cons_succ, List.getElem_cons_zero, List.setIfInBounds_toArray, List.set_cons_zero, List.set_cons_succ]
          refine wpAnyH_take (i := 9) (v := ?_) rfl (by kernel_rfl) (by kernel_rfl) (by kernel_rfl) (fun _ _ _ h => h) (Or.inl ⟨by rfl, ?_⟩) (by assumption) ?_
          rotate_left
          · intro w hSw
            try dsimp only at hSw
            go_simp
            try with_reducible rfl
          try simp only [Act.put, List.getElem_toArray, List.getElem_cons_succ, List.getElem_cons_zero, List.setIfInBounds_toArray, List.set_cons_zero, List.set_cons_succ]
          refine wpAnyH_take (i := 10) (v := ?_) rfl (by kernel_rfl) (by kernel_rfl) (by kernel_rfl) (fun _ _ _ h => h) (Or.inl ⟨by rfl, ?_⟩) (by assumption) ?_
          rotate_left
          · intro w hSw
            try dsimp only at hSw
            go_simp
            try with_reducible rfl
          try simp only [Act.put, List.getElem_toArray, List.getElem_cons_succ, List.getElem_cons_zero, List.setIfInBounds_toArray, List.set_cons_zero, List.set_cons_succ]
          refine wpAnyH_take (i := 11) (v := ?_) rfl (by kernel_rfl) (by kernel_rfl) (by kernel_rfl) (fun _ _ _ h => h) (Or.inl ⟨by rfl, ?_⟩) (by assumption) ?_
          rotate_left
          · intro w hSw
            try dsimp only at hSw
            go_simp
            try with_reducible rfl
          try simp only [Act.put, List.getElem_toArray, List.getElem_cons_succ, List.getElem_cons_zero, List.setIfInBounds_toArray, List.set_cons_zero, List.set_cons_succ]
          refine wpAnyH_take (i := 12) (v := ?_) rfl (by kernel_rfl) (by kernel_rfl) (by kernel_rfl) (fun _ _ _ h => h) (Or.inl ⟨by rfl, ?_⟩) (by assumption) ?_
          rotate_left
          · intro w hSw
            try dsimp only at hSw
            go_simp
            try with_reducible rfl
          try simp only [Act.put, List.getElem_toArray, List.getElem_cons_succ, List.getElem_cons_zero, List.setIfInBounds_toArray, List.set_cons_zero, List.set_cons_succ]
          refine wpAnyH_take (i := 13) (v := ?_) rfl (by kernel_rfl) (by kernel_rfl) (by kernel_rfl) (fun _ _ _ h => h) (Or.inl ⟨by rfl, ?_⟩) (by assumption) ?_
          rotate_left
          · intro w hSw
            try dsimp only at hSw
            go_simp
            try with_reducible rfl
          try simp only [Act.put, List.getElem_toArray, List.getElem_cons_succ, List.getElem_cons_zero, List.setIfInBounds_toArray, List.set_cons_zero, List.set_cons_succ]
          refine wpAnyH_take (i := 14) (v := ?_) rfl (by kernel_rfl) (by kernel_rfl) (by kernel_rfl) (fun _ _ _ h => h) (Or.inl ⟨by rfl, ?_⟩) (by assumption) ?_
          rotate_left
          · intro w hSw
            try dsimp only at hSw
            go_simp
            try with_reducible rfl
          try simp only [Act.put, List.getElem_toArray, List.getElem_cons_succ, List.getElem_cons_zero, List.setIfInBounds_toArray, List.set_cons_zero, List.set_cons_succ]
          refine wpAnyH_ready (rs := [4]) (by kernel_rfl) (by simp) ?_
          refine AllReadyH.cons rfl (fun K hK => ?_) AllReadyH.nil
          go_simp
          go_at_call 22
          (with_reducible refine (HIT.out _ HL6.out).mono ?_)
          rintro e w6 ⟨S, rfl, HS, hb6⟩
          have HL7 : Hid (Below wr.heap.size wr w6) := Lib.hid (HL6.out.trans (hb6.mono HL6.out.size))
          have x0 := below_c HL7.out HRW.out c0
          have x1 := below_c HL7.out HRW.out c1
          have x2 := below_c HL7.out HRW.out c2
          have hxf : w6.frozen? ⟨R, 2, none⟩ = false := below_z HL7.out HRW.out fz2
          obtain ⟨C, hC⟩ : ∃ C, (S.toList == (T.extract a p).toList) = C := ⟨_, rfl⟩
          have HC : Hid ((!C) = badM (tokM (t.drop a))) := Lib.hid (by
            rw [bad_some HSM.out, ← hC, ByteArray.toList_eq, ByteArray.toList_eq, HU.out, HUT.out, HS.out]
            show (!((itoa (valM (tokM (t.drop a)))).toArray.toList == tokM (t.drop a))) = _
            simp [bne])
          clear hb6 HS
          go_wp2_with fail
          refine hK.out _ _ (by exact ⟨x0, x1⟩) (fun _ => ?_)
          clear hK K
          try simp only [Act.put, List.getElem_toArray, List.getElem_cons_succ, List.getElem_cons_zero, List.setIfInBounds_toArray, List.set_cons_zero, List.set_cons_succ]
          refine wpAnyH_take (i := 15) (v := ?_) rfl (by kernel_rfl) (by kernel_rfl) (by kernel_rfl) (fun _ _ _ h => h) (Or.inl ⟨by rfl, ?_⟩) (by assumption) ?_
          rotate_left
          · intro w hSw
            try dsimp only at hSw
            go_simp
            try with_reducible rfl
          try simp only [Act.put, List.getElem_toArray, List.getElem_cons_succ, List.getElem_cons_zero, List.setIfInBounds_toArray, List.set_cons_zero, List.set_cons_succ]
          refine wpAnyH_take (i := 16) (v := ?_) rfl (by kernel_rfl) (by kernel_rfl) (by kernel_rfl) (fun _ _ _ h => h) (Or.inl ⟨by rfl, ?_⟩) (by assumption) ?_
          rotate_left
          · intro w hSw
            try dsimp only at hSw
            go_simp
            try with_reducible rfl
          try simp only [Act.put, List.getElem_toArray, List.getElem_cons_succ, List.getElem_cons_zero, List.setIfInBounds_toArray, List.set_cons_zero, List.set_cons_succ]
          refine wpAnyH_done (by kernel_rfl) ?_ _
          rcases bool2 C with rfl | rfl
          · have HRS : Hid (NumPost w R T t a b (.returned (.int .i64 (valM (tokM (t.drop a))))) w6) := Lib.hid ⟨p, rfl, by
                have h := HRX.out.same (w' := w6) (HL7.out.block R HRW.out)
                show RdS _ R T p (b || badM _)
                rw [← HC.out]
                show RdS _ R T p (b || false)
                rw [Bool.or_false]
                exact h, haj, HDR.out, kpr_trans (HKP.out) (kpr_below HL7.out)⟩
            clear HC
            go_wp2_with fail
            go_ret
            exact HRS.out
          · have HRS : Hid (NumPost w R T t a b (.returned (.int .i64 (valM (tokM (t.drop a))))) (w6.setCell ⟨R, 2, none⟩ (.bool true))) := Lib.hid ⟨p, rfl, by
                have h := ((HRX.out.same (w' := w6) (HL7.out.block R HRW.out)).setB true)
                show RdS _ R T p (b || badM _)
                rw [← HC.out]
                show RdS _ R T p (b || true)
                rw [Bool.or_true]
                exact h, haj, HDR.out, kpr_trans (HKP.out) (kpr_trans (kpr_below HL7.out) (kpr_set _ _ _ _))⟩
            clear HC
            go_wp2_with fail
            go_ret
            exact HRS.out
        · subst hev
          have HRS : Hid (∀ q, NumPost w R T t a b (.returned (.int .i64 (valM (tokM (t.drop a))))) ((w5.drewN q).setCell ⟨R, 2, none⟩ (.bool true))) := Lib.hid fun q => ⟨p, rfl, by
              have h := ((HRX.out.same (w' := w5.drewN q) (HL5.out.block R HRW.out)).setB true)
              show RdS _ R T p (b || badM _)
              rw [bad_none hnn, Bool.or_true]
              exact h, haj, HDR.out, kpr_trans (HKP.out) (kpr_trans (w1 := w5.drewN q) (kpr_below (below_drewN HL5.out q)) (kpr_set _ _ _ _))⟩
          clear HEV hnn
          go_upto_region 5 with fail
          go_quiet (fail)
          go_wp2_with fail
          go_ret
          exact HRS.out _
    · have e3 : ((p : Int) == a) = false := by rw [beq_eq_false_iff_ne]; omega
      have e3' : (p == a) = false := by rw [beq_eq_false_iff_ne]; omega
      have HNA : Hid (¬ (isDig y = true ∨ (j = 0 ∧ y = 45))) := Lib.hid (by
        rintro (h | ⟨h, _⟩)
        · rw [dig_nat, HYX.out] at h; omega
        · exact h3 h)
      clear h1 h3 hpa
      have HTK : Hid (tokM (t.drop a) = (t.drop a).take j) := Lib.hid (by rw [HK.out, rest_stop hB HYA.out HNA.out, List.append_nil])
      clear HK HNA
      obtain ⟨hw1, hw1'⟩ := HWW.out
      go_upto_region 2 with fail
      go_quiet (fail)
      go_wp2_with fail
      clear hw1 hw1'
      obtain ⟨U, hU⟩ : ∃ U, T.extract a p = U := ⟨_, rfl⟩
      have HUT : Hid (U.data.toList = tokM (t.drop a)) := Lib.hid (by rw [← hU, HT.out, ba_ext, HTK.out]; congr 1; omega)
      have HDR : Hid (t.drop p = numR (t.drop a)) := Lib.hid (by
        have hl : (tokM (t.drop a)).length = j := by rw [HTK.out, List.length_take, List.length_drop]; omega
        unfold numR
        rw [hl, List.drop_drop, hp])
      have HU := Lib.hid hU
      have HRW : Hid (R < wr.heap.size) := Lib.hid (block_lt c0)
      have fz2 := HRX.out.fz 2
      have HAT : Hid (∀ W, Below wr.heap.size wr W → Calls Tryz.prog 36 #[.string U] W (AtPost W (tokM (t.drop a)))) := Lib.hid fun W hW => atoi_any B0 U _ W HUT.out (by have := tok_len (t.drop a); omega) ((HSY.out.on (kpr_b HKP.out hBR (by omega))).below hW (by have := HKP.out.size; omega))
      have HIT : Hid (∀ W, Below wr.heap.size wr W → Calls Tryz.prog 22 #[.int .i64 (valM (tokM (t.drop a)))] W (TxPost W (itoa (valM (tokM (t.drop a)))))) := Lib.hid fun W hW => itoa_any B0 _ W (val_i64 (tok_len _)) (TabT.below (HTB.out.on (kpr_b HKP.out hBR (by omega))) hW (by have := HKP.out.size; omega))
      have ha0 : (0 : Int) ≤ a := by omega
      have hap : (a : Int) ≤ p := by omega
      have hap' : a ≤ p := by omega
      have hpt : (p : Int) ≤ T.size := by have := HSZ.out; omega
      have hpt' : p ≤ T.size := by have := HSZ.out; omega
      clear HTK hU
      go_upto_region 4 with fail
      refine wp_region_held_drew (S := fun w' => w'.cell? ⟨R, 0, none⟩ = some (.string T) ∧ w'.cell? ⟨R, 1, none⟩ = some (.int .i64 p)) (by kernel_rfl) (by exact ⟨c0, c1⟩) (fun hHeld => ?_)
      refine wpAnyH_take (i := 0) (v := ?_) rfl (by kernel_rfl) (by kernel_rfl) (by kernel_rfl) (fun _ _ _ h => h) (Or.inl ⟨by rfl, ?_⟩) (by assumption) ?_
      rotate_left
      · intro w hSw
        try dsimp only at hSw
        go_simp
        try with_reducible rfl
      try simp only [Act.put, List.getElem_toArray, List.getElem_cons_succ, List.getElem_cons_zero, List.setIfInBounds_toArray, List.set_cons_zero, List.set_cons_succ]
      refine wpAnyH_take (i := 1) (v := ?_) rfl (by kernel_rfl) (by kernel_rfl) (by kernel_rfl) (fun _ _ _ h => h) (Or.inl ⟨by rfl, ?_⟩) (by assumption) ?_
      rotate_left
      · intro w hSw
        try dsimp only at hSw
        go_simp
        try with_reducible rfl
      try simp only [Act.put, List.getElem_toArray, List.getElem_cons_succ, List.getElem_cons_zero, List.setIfInBounds_toArray, List.set_cons_zero, List.set_cons_succ]
      refine wpAnyH_take (i := 2) (v := ?_) rfl (by kernel_rfl) (by kernel_rfl) (by kernel_rfl) (fun _ _ _ h => h) (Or.inl ⟨by rfl, ?_⟩) (by assumption) ?_
      rotate_left
      · intro w hSw
        try dsimp only at hSw
        go_simp
        try with_reducible rfl
      try simp only [Act.put, List.getElem_toArray, List.getElem_cons_succ, List.getElem_cons_zero, List.setIfInBounds_toArray, List.set_cons_zero, List.set_cons_succ]
      refine wpAnyH_take (i := 3) (v := ?_) rfl (by kernel_rfl) (by kernel_rfl) (by kernel_rfl) (fun _ _ _ h => h) (Or.inl ⟨by rfl, ?_⟩) (by assumption) ?_
      rotate_left
      · intro w hSw
        try dsimp only at hSw
        go_simp
        try with_reducible rfl
      try simp only [Act.put, List.getElem_toArray, List.getElem_cons_succ, List.getElem_cons_zero, List.setIfInBounds_toArray, List.set_cons_zero, List.set_cons_succ]
      refine wpAnyH_take (i := 4) (v := ?_) rfl (by kernel_rfl) (by kernel_rfl) (by kernel_rfl) (fun _ _ _ h => h) (Or.inl ⟨by rfl, ?_⟩) (by assumption) ?_
      rotate_left
      · intro w hSw
        try dsimp only at hSw
        go_simp
        try with_reducible rfl
      try simp only [Act.put, List.getElem_toArray, List.getElem_cons_succ, List.getElem_cons_zero, List.setIfInBounds_toArray, List.set_cons_zero, List.set_cons_succ]
      refine wpAnyH_take (i := 5) (v := ?_) rfl (by kernel_rfl) (by kernel_rfl) (by kernel_rfl) (fun _ _ _ h => h) (Or.inl ⟨by rfl, ?_⟩) (by assumption) ?_
      rotate_left
      · intro w hSw
        try dsimp only at hSw
        go_simp
        try with_reducible rfl
      try simp only [Act.put, List.getElem_toArray, List.getElem_cons_succ, List.getElem_cons_zero, List.setIfInBounds_toArray, List.set_cons_zero, List.set_cons_succ]
      refine wpAnyH_take (i := 6) (v := ?_) rfl (by kernel_rfl) (by kernel_rfl) (by kernel_rfl) (fun _ _ _ h => h) (Or.inl ⟨by rfl, ?_⟩) (by assumption) ?_
      rotate_left
      · intro w hSw
        try dsimp only at hSw
        go_simp
        try with_reducible rfl
      try simp only [Act.put, List.getElem_toArray, List.getElem_cons_succ, List.getElem_cons_zero, List.setIfInBounds_toArray, List.set_cons_zero, List.set_cons_succ]
      refine wpAnyH_take (i := 7) (v := ?_) rfl (by kernel_rfl) (by kernel_rfl) (by kernel_rfl) (fun _ _ _ h => h) (Or.inl ⟨by rfl, ?_⟩) (by assumption) ?_
      rotate_left
      · intro w hSw
        try dsimp only at hSw
        go_simp
        try with_reducible rfl
      try simp only [Act.put, List.getElem_toArray, List.getElem_cons_succ, List.getElem_cons_zero, List.setIfInBounds_toArray, List.set_cons_zero, List.set_cons_succ]
      refine wpAnyH_take (i := 8) (v := ?_) rfl (by kernel_rfl) (by kernel_rfl) (by kernel_rfl) (fun _ _ _ h => h) (Or.inl ⟨by rfl, ?_⟩) (by assumption) ?_
      rotate_left
      · intro w hSw
        try dsimp only at hSw
        go_simp
        try with_reducible rfl
      try simp only [Act.put, List.getElem_toArray, List.getElem_cons_succ, List.getElem_cons_zero, List.setIfInBounds_toArray, List.set_cons_zero, List.set_cons_succ]
      refine wpAnyH_take (i := 9) (v := ?_) rfl (by kernel_rfl) (by kernel_rfl) (by kernel_rfl) (fun _ _ _ h => h) (Or.inl ⟨by rfl, ?_⟩) (by assumption) ?_
      rotate_left
      · intro w hSw
        try dsimp only at hSw
        go_simp
        try with_reducible rfl
      try simp only [Act.put, List.getElem_toArray, List.getElem_cons_succ, List.getElem_cons_zero, List.setIfInBounds_toArray, List.set_cons_zero, List.set_cons_succ]
      refine wpAnyH_ready (rs := [10]) (by kernel_rfl) (by simp) ?_
      refine AllReadyH.cons rfl (fun K hK => ?_) AllReadyH.nil
      go_simp
      try rw [HU.out]
      go_at_call 36
      (with_reducible refine (HAT.out _ (by first | exact below_drewN (Below.refl _ _) _ | exact (below_drewN (Below.refl _ _) _).drew)).mono ?_)
      rintro e w5 ⟨ev, rfl, hev, hb5⟩
      have HL5 : Hid (Below wr.heap.size wr w5) := Lib.hid ((below_drewN (Below.refl wr.heap.size wr) _).trans (hb5.mono (Nat.le_refl _)))
      have x0 := below_c HL5.out HRW.out c0
      have x1 := below_c HL5.out HRW.out c1
      have x2 := below_c HL5.out HRW.out c2
      have HEV := Lib.hid hev
      clear hb5 hev
      go_wp2_with fail
      refine hK.out _ _ (by exact ⟨x0, x1⟩) (fun _ => ?_)
      clear hK K
      try simp only [Act.put, List.getElem_toArray, List.getElem_cons_succ, List.getElem_cons_zero, List.setIfInBounds_toArray, List.set_cons_zero, List.set_cons_succ]
      refine wpAnyH_take (i := 11) (v := ?_) rfl (by kernel_rfl) (by kernel_rfl) (by kernel_rfl) (fun _ _ _ h => h) (Or.inl ⟨by rfl, ?_⟩) (by assumption) ?_
      rotate_left
      · intro w hSw
        try dsimp only at hSw
        go_simp
        try with_reducible rfl
      try simp only [Act.put, List.getElem_toArray, List.getElem_cons_succ, List.getElem_cons_zero, List.setIfInBounds_toArray, List.set_cons_zero, List.set_cons_succ]
      refine wpAnyH_take (i := 12) (v := ?_) rfl (by kernel_rfl) (by kernel_rfl) (by kernel_rfl) (fun _ _ _ h => h) (Or.inl ⟨by rfl, ?_⟩) (by assumption) ?_
      rotate_left
      · intro w hSw
        try dsimp only at hSw
        go_simp
        try with_reducible rfl
      try simp only [Act.put, List.getElem_toArray, List.getElem_cons_succ, List.getElem_cons_zero, List.setIfInBounds_toArray, List.set_cons_zero, List.set_cons_succ]
      refine wpAnyH_take (i := 13) (v := ?_) rfl (by kernel_rfl) (by kernel_rfl) (by kernel_rfl) (fun _ _ _ h => h) (Or.inl ⟨by rfl, ?_⟩) (by assumption) ?_
      rotate_left
      · intro w hSw
        try dsimp only at hSw
        go_simp
        try with_reducible rfl
      try simp only [Act.put, List.getElem_toArray, List.getElem_cons_succ, List.getElem_cons_zero, List.setIfInBounds_toArray, List.set_cons_zero, List.set_cons_succ]
      refine wpAnyH_take (i := 14) (v := ?_) rfl (by kernel_rfl) (by kernel_rfl) (by kernel_rfl) (fun _ _ _ h => h) (Or.inl ⟨by rfl, ?_⟩) (by assumption) ?_
      rotate_left
      · intro w hSw
        try dsimp only at hSw
        go_simp
        try with_reducible rfl
      try simp only [Act.put, List.getElem_toArray, List.getElem_cons_succ, List.getElem_cons_zero, List.setIfInBounds_toArray, List.set_cons_zero, List.set_cons_succ]
      refine wpAnyH_take (i := 15) (v := ?_) rfl (by kernel_rfl) (by kernel_rfl) (by kernel_rfl) (fun _ _ _ h => h) (Or.inl ⟨by rfl, ?_⟩) (by assumption) ?_
      rotate_left
      · intro w hSw
        try dsimp only at hSw
        go_simp
        try with_reducible rfl
      try simp only [Act.put, List.getElem_toArray, List.getElem_cons_succ, List.getElem_cons_zero, List.setIfInBounds_toArray, List.set_cons_zero, List.set_cons_succ]
      refine wpAnyH_done (by kernel_rfl) ?_ _
      have hxf2 : w5.frozen? ⟨R, 2, none⟩ = false := below_z HL5.out HRW.out fz2
      rcases HEV.out with ⟨hev, hsm⟩ | ⟨Te, pe, hev, hnn⟩
      · subst hev
        have HSM := Lib.hid hsm
        have HL6 : Hid (Below wr.heap.size wr w5.drew) := Lib.hid HL5.out.drew
        clear HEV hsm
        go_upto_region 5 with fail
        refine wp_region_held_drew (S := fun w' => w'.cell? ⟨R, 0, none⟩ = some (.string T) ∧ w'.cell? ⟨R, 1, none⟩ = some (.int .i64 p)) (by kernel_rfl) (by exact ⟨x0, x1⟩) (fun hHeld => ?_)
        refine wpAnyH_take (i := 0) (v := ?_) rfl (by kernel_rfl) (by kernel_rfl) (by kernel_rfl) (fun _ _ _ h => h) (Or.inl ⟨by rfl, ?_⟩) (by assumption) ?_
        rotate_left
        · intro w hSw
          try dsimp only at hSw
          go_simp
          try with_reducible rfl
        try simp only [Act.put, List.getElem_toArray, List.getElem_cons_succ, List.getElem_cons_zero, List.setIfInBounds_toArray, List.set_cons_zero, List.set_cons_succ]
        refine wpAnyH_take (i := 1) (v := ?_) rfl (by kernel_rfl) (by kernel_rfl) (by kernel_rfl) (fun _ _ _ h => h) (Or.inl ⟨by rfl, ?_⟩) (by assumption) ?_
        rotate_left
        · intro w hSw
          try dsimp only at hSw
          go_simp
          try with_reducible rfl
        try simp only [Act.put, List.getElem_toArray, List.getElem_cons_succ, List.getElem_cons_zero, List.setIfInBounds_toArray, List.set_cons_zero, List.set_cons_succ]
        refine wpAnyH_take (i := 2) (v := ?_) rfl (by kernel_rfl) (by kernel_rfl) (by kernel_rfl) (fun _ _ _ h => h) (Or.inl ⟨by rfl, ?_⟩) (by assumption) ?_
        rotate_left
        · intro w hSw
          try dsimp only at hSw
          go_simp
          try with_reducible rfl
        try simp only [Act.put, List.getElem_toArray, List.getElem_cons_succ, List.getElem_cons_zero, List.setIfInBounds_toArray, List.set_cons_zero, List.set_cons_succ]
        refine wpAnyH_take (i := 3) (v := ?_) rfl (by kernel_rfl) (by kernel_rfl) (by kernel_rfl) (fun _ _ _ h => h) (Or.inl ⟨by rfl, ?_⟩) (by assumption) ?_
        rotate_left
        · intro w hSw
          try dsimp only at hSw
          go_simp
          try with_reducible rfl
        try simp only [Act.put, List.getElem_toArray, List.getElem_cons_succ, List.getElem_cons_zero, List.setIfInBounds_toArray, List.set_cons_zero, List.set_cons_succ]
        refine wpAnyH_take (i := 5) (v := ?_) rfl (by kernel_rfl) (by kernel_rfl) (by kernel_rfl) (fun _ _ _ h => h) (Or.inl ⟨by rfl, ?_⟩) (by assumption) ?_
        rotate_left
        · intro w hSw
          try dsimp only at hSw
          go_simp
          try with_reducible rfl
        try simp only [Act.put, List.getElem_toArray, List.getElem_cons_succ, List.getElem_cons_zero, List.setIfInBounds_toArray, List.set_cons_zero, List.set_cons_succ]
        refine wpAnyH_take (i := 6) (v := ?_) rfl (by kernel_rfl) (by kernel_rfl) (by kernel_rfl) (fun _ _ _ h => h) (Or.inl ⟨by rfl, ?_⟩) (by assumption) ?_
        rotate_left
        · intro w hSw
          try dsimp only at hSw
          go_simp
          try with_reducible rfl
        try simp only [Act.put, List.getElem_toArray, List.getElem_cons_succ, List.getElem_cons_zero, List.setIfInBounds_toArray, List.set_cons_zero, List.set_cons_succ]
        refine wpAnyH_take (i := 7) (v := ?_) rfl (by kernel_rfl) (by kernel_rfl) (by kernel_rfl) (fun _ _ _ h => h) (Or.inl ⟨by rfl, ?_⟩) (by assumption) ?_
        rotate_left
        · intro w hSw
          try dsimp only at hSw
          go_simp
          try with_reducible rfl
        try simp only [Act.put, List.getElem_toArray, List.getElem_cons_succ, List.getElem_cons_zero, List.setIfInBounds_toArray, List.set_cons_zero, List.set_cons_succ]
        refine wpAnyH_take (i := 8) (v := ?_) rfl (by kernel_rfl) (by kernel_rfl) (by kernel_rfl) (fun _ _ _ h => h) (Or.inl ⟨by rfl, ?_⟩) (by assumption) ?_
        rotate_left
        · intro w hSw
          try dsimp only at hSw
          go_simp
          try with_reducible rfl
        try simp only [Act.put, List.getElem_toArray, List.getElem_cons_succ, List.getElem_cons_zero, List.setIfInBounds_toArray, List.set_cons_zero, List.set_cons_succ]
        refine wpAnyH_take (i := 9) (v := ?_) rfl (by kernel_rfl) (by kernel_rfl) (by kernel_rfl) (fun _ _ _ h => h) (Or.inl ⟨by rfl, ?_⟩) (by assumption) ?_
        rotate_left
        · intro w hSw
          try dsimp only at hSw
          go_simp
          try with_reducible rfl
        try simp only [Act.put, List.getElem_toArray, List.getElem_cons_succ, List.getElem_cons_zero, List.setIfInBounds_toArray, List.set_cons_zero, List.set_cons_succ]
        refine wpAnyH_take (i := 10) (v := ?_) rfl (by kernel_rfl) (by kernel_rfl) (by kernel_rfl) (fun _ _ _ h => h) (Or.inl ⟨by rfl, ?_⟩) (by assumption) ?_
        rotate_left
        · intro w hSw
          try dsimp only at hSw
          go_simp
          try with_reducible rfl
        try simp only [Act.put, List.getElem_toArray, List.getElem_cons_succ, List.getElem_cons_zero, List.setIfInBounds_toArray, List.set_cons_zero, List.set_cons_succ]
        refine wpAnyH_take (i := 11) (v := ?_) rfl (by kernel_rfl) (by kernel_rfl) (by kernel_rfl) (fun _ _ _ h => h) (Or.inl ⟨by rfl, ?_⟩) (by assumption) ?_
        rotate_left
        · intro w hSw
          try dsimp only at hSw
          go_simp
          try with_reducible rfl
        try simp only [Act.put, List.getElem_toArray, List.getElem_cons_succ, List.getElem_cons_zero, List.setIfInBounds_toArray, List.set_cons_zero, List.set_cons_succ]
        refine wpAnyH_take (i := 12) (v := ?_) rfl (by kernel_rfl) (by kernel_rfl) (by kernel_rfl) (fun _ _ _ h => h) (Or.inl ⟨by rfl, ?_⟩) (by assumption) ?_
        rotate_left
        · intro w hSw
          try dsimp only at hSw
          go_simp
          try with_reducible rfl
        try simp only [Act.put, List.getElem_toArray, List.getElem_cons_succ, List.getElem_cons_zero, List.setIfInBounds_toArray, List.set_cons_zero, List.set_cons_succ]
        refine wpAnyH_take (i := 13) (v := ?_) rfl (by kernel_rfl) (by kernel_rfl) (by kernel_rfl) (fun _ _ _ h => h) (Or.inl ⟨by rfl, ?_⟩) (by assumption) ?_
        rotate_left
        · intro w hSw
          try dsimp only at hSw
          go_simp
          try with_reducible rfl
        try simp only [Act.put, List.getElem_toArray, List.getElem_cons_succ, List.getElem_cons_zero, List.setIfInBounds_toArray, List.set_cons_zero, List.set_cons_succ]
        refine wpAnyH_take (i := 14) (v := ?_) rfl (by kernel_rfl) (by kernel_rfl) (by kernel_rfl) (fun _ _ _ h => h) (Or.inl ⟨by rfl, ?_⟩) (by assumption) ?_
        rotate_left
        · intro w hSw
          try dsimp only at hSw
          go_simp
          try with_reducible rfl
        try simp only [Act.put, List.getElem_toArray, List.getElem_cons_succ, List.getElem_cons_zero, List.setIfInBounds_toArray, List.set_cons_zero, List.set_cons_succ]
        refine wpAnyH_ready (rs := [4]) (by kernel_rfl) (by simp) ?_
        refine AllReadyH.cons rfl (fun K hK => ?_) AllReadyH.nil
        go_simp
        go_at_call 22
        (with_reducible refine (HIT.out _ HL6.out).mono ?_)
        rintro e w6 ⟨S, rfl, HS, hb6⟩
        have HL7 : Hid (Below wr.heap.size wr w6) := Lib.hid (HL6.out.trans (hb6.mono HL6.out.size))
        have x0 := below_c HL7.out HRW.out c0
        have x1 := below_c HL7.out HRW.out c1
        have x2 := below_c HL7.out HRW.out c2
        have hxf : w6.frozen? ⟨R, 2, none⟩ = false := below_z HL7.out HRW.out fz2
        obtain ⟨C, hC⟩ : ∃ C, (S.toList == (T.extract a p).toList) = C := ⟨_, rfl⟩
        have HC : Hid ((!C) = badM (tokM (t.drop a))) := Lib.hid (by
          rw [bad_some HSM.out, ← hC, ByteArray.toList_eq, ByteArray.toList_eq, HU.out, HUT.out, HS.out]
          show (!((itoa (valM (tokM (t.drop a)))).toArray.toList == tokM (t.drop a))) = _
          simp [bne])
        clear hb6 HS
        go_wp2_with fail
        refine hK.out _ _ (by exact ⟨x0, x1⟩) (fun _ => ?_)
        clear hK K
        try simp only [Act.put, List.getElem_toArray, List.getElem_cons_succ, List.getElem_cons_zero, List.setIfInBounds_toArray, List.set_cons_zero, List.set_cons_succ]
        refine wpAnyH_take (i := 15) (v := ?_) rfl (by kernel_rfl) (by kernel_rfl) (by kernel_rfl) (fun _ _ _ h => h) (Or.inl ⟨by rfl, ?_⟩) (by assumption) ?_
        rotate_left
        · intro w hSw
          try dsimp only at hSw
          go_simp
          try with_reducible rfl
        try simp only [Act.put, List.getElem_toArray, List.getElem_cons_succ, List.getElem_cons_zero, List.setIfInBounds_toArray, List.set_cons_zero, List.set_cons_succ]
        refine wpAnyH_take (i := 16) (v := ?_) rfl (by kernel_rfl) (by kernel_rfl) (by kernel_rfl) (fun _ _ _ h => h) (Or.inl ⟨by rfl, ?_⟩) (by assumption) ?_
        rotate_left
        · intro w hSw
          try dsimp only at hSw
          go_simp
          try with_reducible rfl
        try simp only [Act.put, List.getElem_toArray, List.getElem_cons_succ, List.getElem_cons_zero, List.setIfInBounds_toArray, List.set_cons_zero, List.set_cons_succ]
        refine wpAnyH_done (by kernel_rfl) ?_ _
        rcases bool2 C with rfl | rfl
        · have HRS : Hid (NumPost w R T t a b (.returned (.int .i64 (valM (tokM (t.drop a))))) w6) := Lib.hid ⟨p, rfl, by
              have h := HRX.out.same (w' := w6) (HL7.out.block R HRW.out)
              show RdS _ R T p (b || badM _)
              rw [← HC.out]
              show RdS _ R T p (b || false)
              rw [Bool.or_false]
              exact h, haj, HDR.out, kpr_trans (HKP.out) (kpr_below HL7.out)⟩
          clear HC
          go_wp2_with fail
          go_ret
          exact HRS.out
        · have HRS : Hid (NumPost w R T t a b (.returned (.int .i64 (valM (tokM (t.drop a))))) (w6.setCell ⟨R, 2, none⟩ (.bool true))) := Lib.hid ⟨p, rfl, by
              have h := ((HRX.out.same (w' := w6) (HL7.out.block R HRW.out)).setB true)
              show RdS _ R T p (b || badM _)
              rw [← HC.out]
              show RdS _ R T p (b || true)
              rw [Bool.or_true]
              exact h, haj, HDR.out, kpr_trans (HKP.out) (kpr_trans (kpr_below HL7.out) (kpr_set _ _ _ _))⟩
          clear HC
          go_wp2_with fail
          go_ret
          exact HRS.out
      · subst hev
        have HRS : Hid (∀ q, NumPost w R T t a b (.returned (.int .i64 (valM (tokM (t.drop a))))) ((w5.drewN q).setCell ⟨R, 2, none⟩ (.bool true))) := Lib.hid fun q => ⟨p, rfl, by
            have h := ((HRX.out.same (w' := w5.drewN q) (HL5.out.block R HRW.out)).setB true)
            show RdS _ R T p (b || badM _)
            rw [bad_none hnn, Bool.or_true]
            exact h, haj, HDR.out, kpr_trans (HKP.out) (kpr_trans (w1 := w5.drewN q) (kpr_below (below_drewN HL5.out q)) (kpr_set _ _ _ _))⟩
        clear HEV hnn
        go_upto_region 5 with fail
        go_quiet (fail)
        go_wp2_with fail
        go_ret
        exact HRS.out _
end Go.Proofs.YthkpobipndifoaaGreatDoor
