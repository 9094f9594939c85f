/- (Counter seat) Walk: unit. No condition but the sizes, and that smaller lists are proved. -/
import Derived.Test.YthanfjpmcckbhaaGreatDoorYl
namespace Go.Proofs.YthanfjpmcckbhaaGreatDoor
open Go.ChangeShapes Go.WideShapes Go.ChangeAt Go.RowKit
set_option linter.unusedVariables false
set_option linter.unusedSimpArgs false

set_option maxRecDepth 100000 in
set_option maxHeartbeats 16000000 in
theorem unit_any (Ex : Nat → Prop) (B pb mb : Nat) (keep : Int) (cv lv : Value) (ts : List Claim) (n : Nat) (l : List (List Int)) (lit : Int) (w : World) (hp : Pre Ex B w pb mb keep cv lv ts n l) (hc : Cn' l) (hs : SzL l) (hv : [lit] ∈ l) (IH : Smaller l) :
    Calls Tryz.prog 87 #[.pointer (some ⟨pb, 0, none⟩), lv, .int .i64 lit] w (FreshPost Ex B w pb mb keep cv ts l) := by
  obtain ⟨hP, hT, hL, hlen, hn⟩ := hp
  have hlr := hc.2 _ hv lit (List.mem_cons_self ..)
  have ho : varM lit ∈ occM l := hc.mem.2 ⟨_, hv, lit, List.mem_cons_self .., rfl⟩
  have hvr := occM_range ho
  obtain ⟨la, ln, lc, rfl, _, _⟩ := hL.form'
  have hwn : IntKind.i64.wrap (-lit) = -lit := IntWalk.i64_in _ ⟨by omega, by omega⟩
  have hmx : max lit (-lit) = varM lit := by unfold varM; split <;> omega
  have hsa := res_smaller hc hlr.2 ho
  have hcap := capT_one hsa
  have HRA := Lib.hid (residual_any _ _ l lit w hL (by unfold I64; omega) (by have := hs.1; omega) (fun c h => by have := hs.2 c h; omega))
  have HP := Lib.hid hP
  have HT := Lib.hid hT
  have HL := Lib.hid hL
  have HC := Lib.hid hc
  have HS := Lib.hid hs
  have HV := Lib.hid hv
  have HIH := Lib.hid IH
  have HSA := Lib.hid hsa
  clear hP hT hL hc hs hv IH hsa ho
  go_enter Tryz.func87, Tryz.ntmps87
  go_wp2_with fail
  refine HRA.out.mono ?_
  rintro e w2 ⟨av, rfl, ha2, hB2⟩
  obtain ⟨aa, an, ac, rfl, _, _⟩ := ha2.form'
  have HP2 := Lib.hid (HP.out.below hB2)
  have hA2 : Clss (AX Ex pb mb cv) w2 (.slice aa an ac) (resM l lit) := Rows1.mono (fun _ _ _ _ _ h hg => h.mono hg) ha2 fun b hb => HP.out.apart hb
  have HL2 := Lib.hid (clss_below hB2 HL.out)
  have HA2 := Lib.hid hA2
  have HT2 := Lib.hid (HT.out.below (hB2.mono HP.out.low.2.2) (Nat.le_refl B))
  have HG2 : Hid (Grw pb mb cv w cv w2) := Lib.hid (Grw.of_below hB2)
  have HPA := Lib.hid (HIH.out (resM l lit) (HC.out.res hlr.2) (res_sz HS.out) HSA.out Ex B pb mb keep cv _ ts n w2 ⟨HP2.out, HT2.out, hA2, by omega, hn⟩)
  clear ha2 hB2 hA2 HRA HP
  go_wp2_with fail
  refine HPA.out.mono ?_
  rintro e w3 ⟨cv3, us, n3, i, rfl, hP3, hG3, hi3, hic, hul, hn3, _⟩
  obtain ⟨t4, ht4⟩ : ∃ t, ts ++ us = t := ⟨_, rfl⟩
  rw [ht4] at hP3 hi3 hic hn3
  have hl4 : t4.length = ts.length + us.length := by rw [← ht4, List.length_append]
  obtain ⟨cb, cc4, hcv4, hcb, hcp, hci⟩ := hP3.count hi3
  have hp2 := hP3.c2
  have hka := acc_kid hP3.acc (k := (i : Int)) ⟨by omega, by omega⟩
  rw [show ((i : Nat) : Int).toNat = i by omega] at hka
  obtain ⟨a, ha⟩ : ∃ a, t4.getD i clNil = a := ⟨_, rfl⟩
  rw [ha] at hci hka hic
  have hkp := hP3.keep0
  have hfa := shl_fits hkp.2 (v := varM lit) (l := l) (k := a) (kid_occ HC.out hlr.2 hic) hka
  have hff := fits_unit hkp.2 HC.out HV.out hka hic i
  have hfae : freeN keep l a.cls (varM lit) = freeN keep l (resM l lit) (varM lit) := by rw [hic]
  have hf1 : freeN keep l (resM l lit) (varM lit) ≤ 40 := freeN_le hkp.2
  rw [hfae] at hfa hff
  have HL3 := Lib.hid (hG3.clss HL2.out)
  have HFR : Hid (∀ W, Below w3.heap.size w3 W → Calls Tryz.prog 132 #[.pointer (some ⟨pb, 0, none⟩), .slice la ln lc, .slice aa an ac, .int .i64 (varM lit)] W (IntPost W (freeN keep l (resM l lit) (varM lit)))) := Lib.hid fun W hW => free_any _ _ pb keep _ _ _ l (resM l lit) W (below_c hW (block_lt hP3.c0) hP3.c0) hkp (clss_below hW HL3.out) (clss_below hW (hG3.clss HA2.out)) (by unfold I64; omega) HS.out.1 HS.out.2 (res_sz HS.out).1 (res_sz HS.out).2
  obtain ⟨f1, hf1e⟩ : ∃ f, freeN keep l (resM l lit) (varM lit) = f := ⟨_, rfl⟩
  rw [hf1e] at hfa hff hf1 HFR
  obtain ⟨V, hV⟩ : ∃ V, varM lit = V := ⟨_, rfl⟩
  rw [hV] at HFR hmx
  have HBC : Hid (Below w3.heap.size w3 w3.drew) := Lib.hid (Below.refl _ _).drew
  have hplt : pb < w3.heap.size := block_lt hP3.c0
  have HP3 := Lib.hid hP3
  have HG3 := Lib.hid (HG2.out.trans hG3)
  have HFF := Lib.hid hff
  have HFFA := Lib.hid hfa
  have hit : (i : Int) < t4.length := by omega
  obtain ⟨tn, htn⟩ : ∃ m, t4.length = m := ⟨_, rfl⟩
  rw [htn] at hit hi3 hcv4
  have HTN := Lib.hid htn
  have HA := Lib.hid ha
  have HHL := Lib.hid (And.intro hul (And.intro hl4 hn3))
  have HT4 := Lib.hid ht4
  have hi6 : i ≤ 60000 := by omega
  rw [hcv4] at hp2
  have HCV := Lib.hid hcv4
  clear hP3 hG3 hic ha hka hfa hff hfae hf1e hV HPA HL2 HA2 HT2 HG2 hkp htn hul hl4 hn3 ht4 HP2 hcv4
  obtain ⟨X, hX⟩ : ∃ X, a.count * 2 ^ f1 = X := ⟨_, rfl⟩
  have hx1 := HFFA.out
  have hff := HFF.out
  rw [hX] at hx1 hff
  have hw1 : IntKind.i64.wrap X = X := IntWalk.i64_in _ ⟨by omega, by omega⟩
  have hX64 : I64 X := by unfold I64; omega
  have HLEAF : Hid (∀ W kv, Below w3.heap.size w3 W → Ints (AX Ex pb mb cv3) W kv [(i : Int)] → Calls Tryz.prog 86 #[.pointer (some ⟨pb, 0, none⟩), .agg #[.slice la ln lc, .int .i64 2, .int .i64 lit, kv, .int .i64 X]] W (fun e w' => e = .returned (.int .i64 (t4.length : Int)) ∧ FreshPost Ex B w pb mb keep cv ts l e w')) := Lib.hid fun W kv hW hkv => by
    refine (claim_any Ex B pb mb keep cv3 (.slice la ln lc) (.int .i64 2) (.int .i64 lit) kv (.int .i64 X) t4 n3 ⟨l, 2, lit, [(i : Int)], X⟩ W (HP3.out.below hW)
      ⟨⟨clss_below hW HL3.out, rfl, rfl, hkv, rfl⟩, by unfold I64; show (-9223372036854775808 : Int) ≤ 2 ∧ (2 : Int) ≤ _; omega, by unfold I64; show (-9223372036854775808 : Int) ≤ lit ∧ lit ≤ _; omega, hX64⟩
      (fun k hk => by
        have := HTN.out
        simp at hk
        subst hk
        omega)
      (by
        have : kidsM t4 ⟨l, 2, lit, [(i : Int)], X⟩ = [a] := by
          unfold kidsM
          simp only [List.map_cons, List.map_nil, Int.toNat_natCast]
          rw [HA.out]
        rw [this]
        exact hff)
      (by have := HHL.out.2.1; have := HHL.out.1; omega) ⟨HS.out.1, HS.out.2, by simp⟩).mono ?_
    rintro e w8 ⟨cv8, rfl, hP8, hG8⟩
    have ht := HT4.out
    have hh := HHL.out
    refine ⟨rfl, cv8, us ++ [⟨l, 2, lit, [(i : Int)], X⟩], n3, t4.length, rfl, ?_, (HG3.out.trans (Grw.of_below hW)).trans hG8, ?_, ?_, ?_, ?_⟩
    · rw [← List.append_assoc, ht]; exact hP8
    · rw [← List.append_assoc, ht]; simp
    · rw [← List.append_assoc, ht, List.getD_eq_getElem?_getD, List.getElem?_append_right (Nat.le_refl _)]; simp
    · rw [List.length_append]; simp only [List.length_cons, List.length_nil]; omega
    · rw [← List.append_assoc, ht]; simp; omega
  clear hff hx1 HFF HFFA
  go_upto_region 3 with fail
  refine wp_region_held_drew (S := fun _ => True) (by kernel_rfl) (by trivial) (fun hHeld => ?_)
  refine wpAnyH_take (i := 0) (v := ?_) rfl (by kernel_rfl) (by kernel_rfl) (by kernel_rfl) (fun _ _ _ h => h) (Or.inl ⟨by rfl, ?_⟩) (by assumption) ?_
  rotate_left
  · intro w hSw
    try dsimp only at hSw
    go_simp
    try with_reducible rfl
  try simp only [Act.put, List.getElem_toArray, List.getElem_cons_succ, List.getElem_cons_zero, List.setIfInBounds_toArray, List.set_cons_zero, List.set_cons_succ]
  refine wpAnyH_take (i := 1) (v := ?_) rfl (by kernel_rfl) (by kernel_rfl) (by kernel_rfl) (fun _ _ _ h => h) (Or.inl ⟨by rfl, ?_⟩) (by assumption) ?_
  rotate_left
  · intro w hSw
    try dsimp only at hSw
    go_simp
    try with_reducible rfl
  try simp only [Act.put, List.getElem_toArray, List.getElem_cons_succ, List.getElem_cons_zero, List.setIfInBounds_toArray, List.set_cons_zero, List.set_cons_succ]
  refine wpAnyH_take (i := 2) (v := ?_) rfl (by kernel_rfl) (by kernel_rfl) (by kernel_rfl) (fun _ _ _ h => h) (Or.inl ⟨by rfl, ?_⟩) (by assumption) ?_
  rotate_left
  · intro w hSw
    try dsimp only at hSw
    go_simp
    try with_reducible rfl
  try simp only [Act.put, List.getElem_toArray, List.getElem_cons_succ, List.getElem_cons_zero, List.setIfInBounds_toArray, List.set_cons_zero, List.set_cons_succ]
  refine wpAnyH_take (i := 3) (v := ?_) rfl (by kernel_rfl) (by kernel_rfl) (by kernel_rfl) (fun _ _ _ h => h) (Or.inl ⟨by rfl, ?_⟩) (by assumption) ?_
  rotate_left
  · intro w hSw
    try dsimp only at hSw
    go_simp
    try with_reducible rfl
  try simp only [Act.put, List.getElem_toArray, List.getElem_cons_succ, List.getElem_cons_zero, List.setIfInBounds_toArray, List.set_cons_zero, List.set_cons_succ]
  refine wpAnyH_take (i := 5) (v := ?_) rfl (by kernel_rfl) (by kernel_rfl) (by kernel_rfl) (fun _ _ _ h => h) (Or.inl ⟨by rfl, ?_⟩) (by assumption) ?_
  rotate_left
  · intro w hSw
    try dsimp only at hSw
    go_simp
    try with_reducible rfl
  try simp only [Act.put, List.getElem_toArray, List.getElem_cons_succ, List.getElem_cons_zero, List.setIfInBounds_toArray, List.set_cons_zero, List.set_cons_succ]
  refine wpAnyH_take (i := 6) (v := ?_) rfl (by kernel_rfl) (by kernel_rfl) (by kernel_rfl) (fun _ _ _ h => h) (Or.inl ⟨by rfl, ?_⟩) (by assumption) ?_
  rotate_left
  · intro w hSw
    try dsimp only at hSw
    go_simp
    try with_reducible rfl
  try simp only [Act.put, List.getElem_toArray, List.getElem_cons_succ, List.getElem_cons_zero, List.setIfInBounds_toArray, List.set_cons_zero, List.set_cons_succ]
  refine wpAnyH_take (i := 7) (v := ?_) rfl (by kernel_rfl) (by kernel_rfl) (by kernel_rfl) (fun _ _ _ h => h) (Or.inl ⟨by rfl, ?_⟩) (by assumption) ?_
  rotate_left
  · intro w hSw
    try dsimp only at hSw
    go_simp
    try with_reducible rfl
  try simp only [Act.put, List.getElem_toArray, List.getElem_cons_succ, List.getElem_cons_zero, List.setIfInBounds_toArray, List.set_cons_zero, List.set_cons_succ]
  refine wpAnyH_take (i := 9) (v := ?_) rfl (by kernel_rfl) (by kernel_rfl) (by kernel_rfl) (fun _ _ _ h => h) (Or.inl ⟨by rfl, ?_⟩) (by assumption) ?_
  rotate_left
  · intro w hSw
    try dsimp only at hSw
    go_simp
    try with_reducible rfl
  try simp only [Act.put, List.getElem_toArray, List.getElem_cons_succ, List.getElem_cons_zero, List.setIfInBounds_toArray, List.set_cons_zero, List.set_cons_succ]
  refine wpAnyH_take (i := 13) (v := ?_) rfl (by kernel_rfl) (by kernel_rfl) (by kernel_rfl) (fun _ _ _ h => h) (Or.inl ⟨by rfl, ?_⟩) (by assumption) ?_
  rotate_left
  · intro w hSw
    try dsimp only at hSw
    go_simp
    try with_reducible rfl
  try simp only [Act.put, List.getElem_toArray, List.getElem_cons_succ, List.getElem_cons_zero, List.setIfInBounds_toArray, List.set_cons_zero, List.set_cons_succ]
  refine wpAnyH_take (i := 14) (v := ?_) rfl (by kernel_rfl) (by kernel_rfl) (by kernel_rfl) (fun _ _ _ h => h) (Or.inl ⟨by rfl, ?_⟩) (by assumption) ?_
  rotate_left
  · intro w hSw
    try dsimp only at hSw
    go_simp
    try with_reducible rfl
  try simp only [Act.put, List.getElem_toArray, List.getElem_cons_succ, List.getElem_cons_zero, List.setIfInBounds_toArray, List.set_cons_zero, List.set_cons_succ]
  refine wpAnyH_take (i := 15) (v := ?_) rfl (by kernel_rfl) (by kernel_rfl) (by kernel_rfl) (fun _ _ _ h => h) (Or.inl ⟨by rfl, ?_⟩) (by assumption) ?_
  rotate_left
  · intro w hSw
    try dsimp only at hSw
    go_simp
    try with_reducible rfl
  try simp only [Act.put, List.getElem_toArray, List.getElem_cons_succ, List.getElem_cons_zero, List.setIfInBounds_toArray, List.set_cons_zero, List.set_cons_succ]
  refine wpAnyH_take (i := 16) (v := ?_) rfl (by kernel_rfl) (by kernel_rfl) (by kernel_rfl) (fun _ _ _ h => h) (Or.inl ⟨by rfl, ?_⟩) (by assumption) ?_
  rotate_left
  · intro w hSw
    try dsimp only at hSw
    go_simp
    try with_reducible rfl
  try simp only [Act.put, List.getElem_toArray, List.getElem_cons_succ, List.getElem_cons_zero, List.setIfInBounds_toArray, List.set_cons_zero, List.set_cons_succ]
  refine wpAnyH_take (i := 17) (v := ?_) rfl (by kernel_rfl) (by kernel_rfl) (by kernel_rfl) (fun _ _ _ h => h) (Or.inl ⟨by rfl, ?_⟩) (by assumption) ?_
  rotate_left
  · intro w hSw
    try dsimp only at hSw
    go_simp
    try with_reducible rfl
  try simp only [Act.put, List.getElem_toArray, List.getElem_cons_succ, List.getElem_cons_zero, List.setIfInBounds_toArray, List.set_cons_zero, List.set_cons_succ]
  refine wpAnyH_take (i := 18) (v := ?_) rfl (by kernel_rfl) (by kernel_rfl) (by kernel_rfl) (fun _ _ _ h => h) (Or.inl ⟨by rfl, ?_⟩) (by assumption) ?_
  rotate_left
  · intro w hSw
    try dsimp only at hSw
    go_simp
    try with_reducible rfl
  try simp only [Act.put, List.getElem_toArray, List.getElem_cons_succ, List.getElem_cons_zero, List.setIfInBounds_toArray, List.set_cons_zero, List.set_cons_succ]
  refine wpAnyH_take (i := 19) (v := ?_) rfl (by kernel_rfl) (by kernel_rfl) (by kernel_rfl) (fun _ _ _ h => h) (Or.inl ⟨by rfl, ?_⟩) (by assumption) ?_
  rotate_left
  · intro w hSw
    try dsimp only at hSw
    go_simp
    try with_reducible rfl
  try simp only [Act.put, List.getElem_toArray, List.getElem_cons_succ, List.getElem_cons_zero, List.setIfInBounds_toArray, List.set_cons_zero, List.set_cons_succ]
  refine wpAnyH_ready (rs := [4, 8, 20]) (by kernel_rfl) (by simp) ?_
  refine AllReadyH.cons rfl (fun K hK => ?_) (AllReadyH.cons rfl (fun K hK => ?_) (AllReadyH.cons rfl (fun K hK => ?_) AllReadyH.nil))
  · go_simp
    obtain ⟨W7, hW7⟩ : ∃ W, (w3.alloc (.cells #[.int .i64 i] 3)).drew = W := ⟨_, rfl⟩
    have hb7 : Below w3.heap.size w3 W7 := by rw [← hW7]; exact ((Below.refl _ _).alloc (Nat.le_refl _) _).drew
    have HKI : Hid (Ints (AX Ex pb mb cv3) W7 (.slice (some ⟨w3.heap.size, 0, none⟩) 1 1) [(i : Int)]) := Lib.hid (by
      have h1 : (w3.alloc (.cells #[.int .i64 i] 3)).ownsRow w3.heap.size 3 1 (.slice (some ⟨w3.heap.size, 0, none⟩) 1 1) 1 ([(i : Int)].map (.int .i64)) := by simpa using own_new (base := w3.heap.size) (w := w3) #[.int .i64 i] 3 (Nat.le_refl _) (by simp)
      have h2 : Ints (AX Ex pb mb cv3) (w3.alloc (.cells #[.int .i64 i] 3)) (.slice (some ⟨w3.heap.size, 0, none⟩) 1 1) [(i : Int)] := ⟨(ownsRow_sl1 h1 (by simp)).mono fun b hb => HP3.out.apart (hb.1), fun x hx => by simp at hx; subst hx; unfold I64; omega⟩
      rw [← hW7]
      exact h2.below ((Below.refl _ _).drew))
    have HBC := Lib.hid (hb7)
    have x2 := below_c HBC.out hplt hp2
    have x5 := below_c HBC.out hcb hci
    try rw [hW7]
    clear hb7 hW7
    refine hK.out _ _ trivial (fun _ => ?_)
    clear hK K
    try simp only [Act.put, List.getElem_toArray, List.getElem_cons_succ, List.getElem_cons_zero, List.setIfInBounds_toArray, List.set_cons_zero, List.set_cons_succ]
    refine wpAnyH_ready (rs := [8, 20]) (by kernel_rfl) (by simp) ?_
    refine AllReadyH.cons rfl (fun K hK => ?_) (AllReadyH.cons rfl (fun K hK => ?_) AllReadyH.nil)
    · go_simp
      refine hK.out _ _ trivial (fun _ => ?_)
      clear hK K
      try simp only [Act.put, List.getElem_toArray, List.getElem_cons_succ, List.getElem_cons_zero, List.setIfInBounds_toArray, List.set_cons_zero, List.set_cons_succ]
      refine wpAnyH_take (i := 10) (v := ?_) rfl (by kernel_rfl) (by kernel_rfl) (by kernel_rfl) (fun _ _ _ h => h) (Or.inl ⟨by rfl, ?_⟩) (by assumption) ?_
      rotate_left
      · intro w hSw
        try dsimp only at hSw
        go_simp
        try with_reducible rfl
      try simp only [Act.put, List.getElem_toArray, List.getElem_cons_succ, List.getElem_cons_zero, List.setIfInBounds_toArray, List.set_cons_zero, List.set_cons_succ]
      refine wpAnyH_take (i := 11) (v := ?_) rfl (by kernel_rfl) (by kernel_rfl) (by kernel_rfl) (fun _ _ _ h => h) (Or.inl ⟨by rfl, ?_⟩) (by assumption) ?_
      rotate_left
      · intro w hSw
        try dsimp only at hSw
        go_simp
        try with_reducible rfl
      try simp only [Act.put, List.getElem_toArray, List.getElem_cons_succ, List.getElem_cons_zero, List.setIfInBounds_toArray, List.set_cons_zero, List.set_cons_succ]
      refine wpAnyH_ready (rs := [12, 20]) (by kernel_rfl) (by simp) ?_
      refine AllReadyH.cons rfl (fun K hK => ?_) (AllReadyH.cons rfl (fun K hK => ?_) AllReadyH.nil)
      · go_simp
        refine hK.out _ _ trivial (fun _ => ?_)
        clear hK K
        try simp only [Act.put, List.getElem_toArray, List.getElem_cons_succ, List.getElem_cons_zero, List.setIfInBounds_toArray, List.set_cons_zero, List.set_cons_succ]
        refine wpAnyH_ready (rs := [20]) (by kernel_rfl) (by simp) ?_
        refine AllReadyH.cons rfl (fun K hK => ?_) AllReadyH.nil
        go_simp
        go_at_call 132
        refine (HFR.out _ HBC.out).mono ?_
        rintro e w5 ⟨rfl, hb5⟩
        have HBC := Lib.hid (HBC.out.trans (hb5.mono HBC.out.size))
        have HKI := Lib.hid (HKI.out.below hb5)
        have x2 := below_c HBC.out hplt hp2
        have x5 := below_c HBC.out hcb hci
        clear hb5
        go_wp2_with fail
        refine hK.out _ _ trivial (fun _ => ?_)
        clear hK K
        try simp only [Act.put, List.getElem_toArray, List.getElem_cons_succ, List.getElem_cons_zero, List.setIfInBounds_toArray, List.set_cons_zero, List.set_cons_succ]
        refine wpAnyH_take (i := 21) (v := ?_) rfl (by kernel_rfl) (by kernel_rfl) (by kernel_rfl) (fun _ _ _ h => h) (Or.inl ⟨by rfl, ?_⟩) (by assumption) ?_
        rotate_left
        · intro w hSw
          try dsimp only at hSw
          go_simp
          try with_reducible rfl
        try simp only [Act.put, List.getElem_toArray, List.getElem_cons_succ, List.getElem_cons_zero, List.setIfInBounds_toArray, List.set_cons_zero, List.set_cons_succ]
        refine wpAnyH_take (i := 22) (v := ?_) rfl (by kernel_rfl) (by kernel_rfl) (by kernel_rfl) (fun _ _ _ h => h) (Or.inl ⟨by rfl, ?_⟩) (by assumption) ?_
        rotate_left
        · intro w hSw
          try dsimp only at hSw
          go_simp
          try with_reducible rfl
        try simp only [Act.put, List.getElem_toArray, List.getElem_cons_succ, List.getElem_cons_zero, List.setIfInBounds_toArray, List.set_cons_zero, List.set_cons_succ]
        refine wpAnyH_ready (rs := [23]) (by kernel_rfl) (by simp) ?_
        refine AllReadyH.cons rfl (fun K hK => ?_) AllReadyH.nil
        go_simp
        go_at_call 86
        try rw [hX, hw1]
        refine (HLEAF.out _ _ HBC.out HKI.out).mono ?_
        rintro e w8 ⟨rfl, hF⟩
        have HF := Lib.hid hF
        clear hF
        go_wp2_with fail
        refine hK.out _ _ trivial (fun _ => ?_)
        clear hK K
        try simp only [Act.put, List.getElem_toArray, List.getElem_cons_succ, List.getElem_cons_zero, List.setIfInBounds_toArray, List.set_cons_zero, List.set_cons_succ]
        refine wpAnyH_take (i := 24) (v := ?_) rfl (by kernel_rfl) (by kernel_rfl) (by kernel_rfl) (fun _ _ _ h => h) (Or.inl ⟨by rfl, ?_⟩) (by assumption) ?_
        rotate_left
        · intro w hSw
          try dsimp only at hSw
          go_simp
          try with_reducible rfl
        try simp only [Act.put, List.getElem_toArray, List.getElem_cons_succ, List.getElem_cons_zero, List.setIfInBounds_toArray, List.set_cons_zero, List.set_cons_succ]
        refine wpAnyH_done (by kernel_rfl) ?_ _
        go_wp2_with fail
        go_ret
        exact HF.out
      · go_simp
        go_at_call 132
        refine (HFR.out _ HBC.out).mono ?_
        rintro e w5 ⟨rfl, hb5⟩
        have HBC := Lib.hid (HBC.out.trans (hb5.mono HBC.out.size))
        have HKI := Lib.hid (HKI.out.below hb5)
        have x2 := below_c HBC.out hplt hp2
        have x5 := below_c HBC.out hcb hci
        clear hb5
        go_wp2_with fail
        refine hK.out _ _ trivial (fun _ => ?_)
        clear hK K
        try simp only [Act.put, List.getElem_toArray, List.getElem_cons_succ, List.getElem_cons_zero, List.setIfInBounds_toArray, List.set_cons_zero, List.set_cons_succ]
        refine wpAnyH_ready (rs := [12]) (by kernel_rfl) (by simp) ?_
        refine AllReadyH.cons rfl (fun K hK => ?_) AllReadyH.nil
        go_simp
        refine hK.out _ _ trivial (fun _ => ?_)
        clear hK K
        try simp only [Act.put, List.getElem_toArray, List.getElem_cons_succ, List.getElem_cons_zero, List.setIfInBounds_toArray, List.set_cons_zero, List.set_cons_succ]
        refine wpAnyH_take (i := 21) (v := ?_) rfl (by kernel_rfl) (by kernel_rfl) (by kernel_rfl) (fun _ _ _ h => h) (Or.inl ⟨by rfl, ?_⟩) (by assumption) ?_
        rotate_left
        · intro w hSw
          try dsimp only at hSw
          go_simp
          try with_reducible rfl
        try simp only [Act.put, List.getElem_toArray, List.getElem_cons_succ, List.getElem_cons_zero, List.setIfInBounds_toArray, List.set_cons_zero, List.set_cons_succ]
        refine wpAnyH_take (i := 22) (v := ?_) rfl (by kernel_rfl) (by kernel_rfl) (by kernel_rfl) (fun _ _ _ h => h) (Or.inl ⟨by rfl, ?_⟩) (by assumption) ?_
        rotate_left
        · intro w hSw
          try dsimp only at hSw
          go_simp
          try with_reducible rfl
        try simp only [Act.put, List.getElem_toArray, List.getElem_cons_succ, List.getElem_cons_zero, List.setIfInBounds_toArray, List.set_cons_zero, List.set_cons_succ]
        refine wpAnyH_ready (rs := [23]) (by kernel_rfl) (by simp) ?_
        refine AllReadyH.cons rfl (fun K hK => ?_) AllReadyH.nil
        go_simp
        go_at_call 86
        try rw [hX, hw1]
        refine (HLEAF.out _ _ HBC.out HKI.out).mono ?_
        rintro e w8 ⟨rfl, hF⟩
        have HF := Lib.hid hF
        clear hF
        go_wp2_with fail
        refine hK.out _ _ trivial (fun _ => ?_)
        clear hK K
        try simp only [Act.put, List.getElem_toArray, List.getElem_cons_succ, List.getElem_cons_zero, List.setIfInBounds_toArray, List.set_cons_zero, List.set_cons_succ]
        refine wpAnyH_take (i := 24) (v := ?_) rfl (by kernel_rfl) (by kernel_rfl) (by kernel_rfl) (fun _ _ _ h => h) (Or.inl ⟨by rfl, ?_⟩) (by assumption) ?_
        rotate_left
        · intro w hSw
          try dsimp only at hSw
          go_simp
          try with_reducible rfl
        try simp only [Act.put, List.getElem_toArray, List.getElem_cons_succ, List.getElem_cons_zero, List.setIfInBounds_toArray, List.set_cons_zero, List.set_cons_succ]
        refine wpAnyH_done (by kernel_rfl) ?_ _
        go_wp2_with fail
        go_ret
        exact HF.out
    · go_simp
      go_at_call 132
      refine (HFR.out _ HBC.out).mono ?_
      rintro e w5 ⟨rfl, hb5⟩
      have HBC := Lib.hid (HBC.out.trans (hb5.mono HBC.out.size))
      have HKI := Lib.hid (HKI.out.below hb5)
      have x2 := below_c HBC.out hplt hp2
      have x5 := below_c HBC.out hcb hci
      clear hb5
      go_wp2_with fail
      refine hK.out _ _ trivial (fun _ => ?_)
      clear hK K
      try simp only [Act.put, List.getElem_toArray, List.getElem_cons_succ, List.getElem_cons_zero, List.setIfInBounds_toArray, List.set_cons_zero, List.set_cons_succ]
      refine wpAnyH_ready (rs := [8]) (by kernel_rfl) (by simp) ?_
      refine AllReadyH.cons rfl (fun K hK => ?_) AllReadyH.nil
      go_simp
      refine hK.out _ _ trivial (fun _ => ?_)
      clear hK K
      try simp only [Act.put, List.getElem_toArray, List.getElem_cons_succ, List.getElem_cons_zero, List.setIfInBounds_toArray, List.set_cons_zero, List.set_cons_succ]
      refine wpAnyH_take (i := 10) (v := ?_) rfl (by kernel_rfl) (by kernel_rfl) (by kernel_rfl) (fun _ _ _ h => h) (Or.inl ⟨by rfl, ?_⟩) (by assumption) ?_
      rotate_left
      · intro w hSw
        try dsimp only at hSw
        go_simp
        try with_reducible rfl
      try simp only [Act.put, List.getElem_toArray, List.getElem_cons_succ, List.getElem_cons_zero, List.setIfInBounds_toArray, List.set_cons_zero, List.set_cons_succ]
      refine wpAnyH_take (i := 11) (v := ?_) rfl (by kernel_rfl) (by kernel_rfl) (by kernel_rfl) (fun _ _ _ h => h) (Or.inl ⟨by rfl, ?_⟩) (by assumption) ?_
      rotate_left
      · intro w hSw
        try dsimp only at hSw
        go_simp
        try with_reducible rfl
      try simp only [Act.put, List.getElem_toArray, List.getElem_cons_succ, List.getElem_cons_zero, List.setIfInBounds_toArray, List.set_cons_zero, List.set_cons_succ]
      refine wpAnyH_ready (rs := [12]) (by kernel_rfl) (by simp) ?_
      refine AllReadyH.cons rfl (fun K hK => ?_) AllReadyH.nil
      go_simp
      refine hK.out _ _ trivial (fun _ => ?_)
      clear hK K
      try simp only [Act.put, List.getElem_toArray, List.getElem_cons_succ, List.getElem_cons_zero, List.setIfInBounds_toArray, List.set_cons_zero, List.set_cons_succ]
      refine wpAnyH_take (i := 21) (v := ?_) rfl (by kernel_rfl) (by kernel_rfl) (by kernel_rfl) (fun _ _ _ h => h) (Or.inl ⟨by rfl, ?_⟩) (by assumption) ?_
      rotate_left
      · intro w hSw
        try dsimp only at hSw
        go_simp
        try with_reducible rfl
      try simp only [Act.put, List.getElem_toArray, List.getElem_cons_succ, List.getElem_cons_zero, List.setIfInBounds_toArray, List.set_cons_zero, List.set_cons_succ]
      refine wpAnyH_take (i := 22) (v := ?_) rfl (by kernel_rfl) (by kernel_rfl) (by kernel_rfl) (fun _ _ _ h => h) (Or.inl ⟨by rfl, ?_⟩) (by assumption) ?_
      rotate_left
      · intro w hSw
        try dsimp only at hSw
        go_simp
        try with_reducible rfl
      try simp only [Act.put, List.getElem_toArray, List.getElem_cons_succ, List.getElem_cons_zero, List.setIfInBounds_toArray, List.set_cons_zero, List.set_cons_succ]
      refine wpAnyH_ready (rs := [23]) (by kernel_rfl) (by simp) ?_
      refine AllReadyH.cons rfl (fun K hK => ?_) AllReadyH.nil
      go_simp
      go_at_call 86
      try rw [hX, hw1]
      refine (HLEAF.out _ _ HBC.out HKI.out).mono ?_
      rintro e w8 ⟨rfl, hF⟩
      have HF := Lib.hid hF
      clear hF
      go_wp2_with fail
      refine hK.out _ _ trivial (fun _ => ?_)
      clear hK K
      try simp only [Act.put, List.getElem_toArray, List.getElem_cons_succ, List.getElem_cons_zero, List.setIfInBounds_toArray, List.set_cons_zero, List.set_cons_succ]
      refine wpAnyH_take (i := 24) (v := ?_) rfl (by kernel_rfl) (by kernel_rfl) (by kernel_rfl) (fun _ _ _ h => h) (Or.inl ⟨by rfl, ?_⟩) (by assumption) ?_
      rotate_left
      · intro w hSw
        try dsimp only at hSw
        go_simp
        try with_reducible rfl
      try simp only [Act.put, List.getElem_toArray, List.getElem_cons_succ, List.getElem_cons_zero, List.setIfInBounds_toArray, List.set_cons_zero, List.set_cons_succ]
      refine wpAnyH_done (by kernel_rfl) ?_ _
      go_wp2_with fail
      go_ret
      exact HF.out
  · go_simp
    refine hK.out _ _ trivial (fun _ => ?_)
    clear hK K
    try simp only [Act.put, List.getElem_toArray, List.getElem_cons_succ, List.getElem_cons_zero, List.setIfInBounds_toArray, List.set_cons_zero, List.set_cons_succ]
    refine wpAnyH_take (i := 10) (v := ?_) rfl (by kernel_rfl) (by kernel_rfl) (by kernel_rfl) (fun _ _ _ h => h) (Or.inl ⟨by rfl, ?_⟩) (by assumption) ?_
    rotate_left
    · intro w hSw
      try dsimp only at hSw
      go_simp
      try with_reducible rfl
    try simp only [Act.put, List.getElem_toArray, List.getElem_cons_succ, List.getElem_cons_zero, List.setIfInBounds_toArray, List.set_cons_zero, List.set_cons_succ]
    refine wpAnyH_take (i := 11) (v := ?_) rfl (by kernel_rfl) (by kernel_rfl) (by kernel_rfl) (fun _ _ _ h => h) (Or.inl ⟨by rfl, ?_⟩) (by assumption) ?_
    rotate_left
    · intro w hSw
      try dsimp only at hSw
      go_simp
      try with_reducible rfl
    try simp only [Act.put, List.getElem_toArray, List.getElem_cons_succ, List.getElem_cons_zero, List.setIfInBounds_toArray, List.set_cons_zero, List.set_cons_succ]
    refine wpAnyH_ready (rs := [4, 12, 20]) (by kernel_rfl) (by simp) ?_
    refine AllReadyH.cons rfl (fun K hK => ?_) (AllReadyH.cons rfl (fun K hK => ?_) (AllReadyH.cons rfl (fun K hK => ?_) AllReadyH.nil))
    · go_simp
      obtain ⟨W7, hW7⟩ : ∃ W, (w3.alloc (.cells #[.int .i64 i] 3)).drew = W := ⟨_, rfl⟩
      have hb7 : Below w3.heap.size w3 W7 := by rw [← hW7]; exact ((Below.refl _ _).alloc (Nat.le_refl _) _).drew
      have HKI : Hid (Ints (AX Ex pb mb cv3) W7 (.slice (some ⟨w3.heap.size, 0, none⟩) 1 1) [(i : Int)]) := Lib.hid (by
        have h1 : (w3.alloc (.cells #[.int .i64 i] 3)).ownsRow w3.heap.size 3 1 (.slice (some ⟨w3.heap.size, 0, none⟩) 1 1) 1 ([(i : Int)].map (.int .i64)) := by simpa using own_new (base := w3.heap.size) (w := w3) #[.int .i64 i] 3 (Nat.le_refl _) (by simp)
        have h2 : Ints (AX Ex pb mb cv3) (w3.alloc (.cells #[.int .i64 i] 3)) (.slice (some ⟨w3.heap.size, 0, none⟩) 1 1) [(i : Int)] := ⟨(ownsRow_sl1 h1 (by simp)).mono fun b hb => HP3.out.apart (hb.1), fun x hx => by simp at hx; subst hx; unfold I64; omega⟩
        rw [← hW7]
        exact h2.below ((Below.refl _ _).drew))
      have HBC := Lib.hid (hb7)
      have x2 := below_c HBC.out hplt hp2
      have x5 := below_c HBC.out hcb hci
      try rw [hW7]
      clear hb7 hW7
      refine hK.out _ _ trivial (fun _ => ?_)
      clear hK K
      try simp only [Act.put, List.getElem_toArray, List.getElem_cons_succ, List.getElem_cons_zero, List.setIfInBounds_toArray, List.set_cons_zero, List.set_cons_succ]
      refine wpAnyH_ready (rs := [12, 20]) (by kernel_rfl) (by simp) ?_
      refine AllReadyH.cons rfl (fun K hK => ?_) (AllReadyH.cons rfl (fun K hK => ?_) AllReadyH.nil)
      · go_simp
        refine hK.out _ _ trivial (fun _ => ?_)
        clear hK K
        try simp only [Act.put, List.getElem_toArray, List.getElem_cons_succ, List.getElem_cons_zero, List.setIfInBounds_toArray, List.set_cons_zero, List.set_cons_succ]
        refine wpAnyH_ready (rs := [20]) (by kernel_rfl) (by simp) ?_
        refine AllReadyH.cons rfl (fun K hK => ?_) AllReadyH.nil
        go_simp
        go_at_call 132
        refine (HFR.out _ HBC.out).mono ?_
        rintro e w5 ⟨rfl, hb5⟩
        have HBC := Lib.hid (HBC.out.trans (hb5.mono HBC.out.size))
        have HKI := Lib.hid (HKI.out.below hb5)
        have x2 := below_c HBC.out hplt hp2
        have x5 := below_c HBC.out hcb hci
        clear hb5
        go_wp2_with fail
        refine hK.out _ _ trivial (fun _ => ?_)
        clear hK K
        try simp only [Act.put, List.getElem_toArray, List.getElem_cons_succ, List.getElem_cons_zero, List.setIfInBounds_toArray, List.set_cons_zero, List.set_cons_succ]
        refine wpAnyH_take (i := 21) (v := ?_) rfl (by kernel_rfl) (by kernel_rfl) (by kernel_rfl) (fun _ _ _ h => h) (Or.inl ⟨by rfl, ?_⟩) (by assumption) ?_
        rotate_left
        · intro w hSw
          try dsimp only at hSw
          go_simp
          try with_reducible rfl
        try simp only [Act.put, List.getElem_toArray, List.getElem_cons_succ, List.getElem_cons_zero, List.setIfInBounds_toArray, List.set_cons_zero, List.set_cons_succ]
        refine wpAnyH_take (i := 22) (v := ?_) rfl (by kernel_rfl) (by kernel_rfl) (by kernel_rfl) (fun _ _ _ h => h) (Or.inl ⟨by rfl, ?_⟩) (by assumption) ?_
        rotate_left
        · intro w hSw
          try dsimp only at hSw
          go_simp
          try with_reducible rfl
        try simp only [Act.put, List.getElem_toArray, List.getElem_cons_succ, List.getElem_cons_zero, List.setIfInBounds_toArray, List.set_cons_zero, List.set_cons_succ]
        refine wpAnyH_ready (rs := [23]) (by kernel_rfl) (by simp) ?_
        refine AllReadyH.cons rfl (fun K hK => ?_) AllReadyH.nil
        go_simp
        go_at_call 86
        try rw [hX, hw1]
        refine (HLEAF.out _ _ HBC.out HKI.out).mono ?_
        rintro e w8 ⟨rfl, hF⟩
        have HF := Lib.hid hF
        clear hF
        go_wp2_with fail
        refine hK.out _ _ trivial (fun _ => ?_)
        clear hK K
        try simp only [Act.put, List.getElem_toArray, List.getElem_cons_succ, List.getElem_cons_zero, List.setIfInBounds_toArray, List.set_cons_zero, List.set_cons_succ]
        refine wpAnyH_take (i := 24) (v := ?_) rfl (by kernel_rfl) (by kernel_rfl) (by kernel_rfl) (fun _ _ _ h => h) (Or.inl ⟨by rfl, ?_⟩) (by assumption) ?_
        rotate_left
        · intro w hSw
          try dsimp only at hSw
          go_simp
          try with_reducible rfl
        try simp only [Act.put, List.getElem_toArray, List.getElem_cons_succ, List.getElem_cons_zero, List.setIfInBounds_toArray, List.set_cons_zero, List.set_cons_succ]
        refine wpAnyH_done (by kernel_rfl) ?_ _
        go_wp2_with fail
        go_ret
        exact HF.out
      · go_simp
        go_at_call 132
        refine (HFR.out _ HBC.out).mono ?_
        rintro e w5 ⟨rfl, hb5⟩
        have HBC := Lib.hid (HBC.out.trans (hb5.mono HBC.out.size))
        have HKI := Lib.hid (HKI.out.below hb5)
        have x2 := below_c HBC.out hplt hp2
        have x5 := below_c HBC.out hcb hci
        clear hb5
        go_wp2_with fail
        refine hK.out _ _ trivial (fun _ => ?_)
        clear hK K
        try simp only [Act.put, List.getElem_toArray, List.getElem_cons_succ, List.getElem_cons_zero, List.setIfInBounds_toArray, List.set_cons_zero, List.set_cons_succ]
        refine wpAnyH_ready (rs := [12]) (by kernel_rfl) (by simp) ?_
        refine AllReadyH.cons rfl (fun K hK => ?_) AllReadyH.nil
        go_simp
        refine hK.out _ _ trivial (fun _ => ?_)
        clear hK K
        try simp only [Act.put, List.getElem_toArray, List.getElem_cons_succ, List.getElem_cons_zero, List.setIfInBounds_toArray, List.set_cons_zero, List.set_cons_succ]
        refine wpAnyH_take (i := 21) (v := ?_) rfl (by kernel_rfl) (by kernel_rfl) (by kernel_rfl) (fun _ _ _ h => h) (Or.inl ⟨by rfl, ?_⟩) (by assumption) ?_
        rotate_left
        · intro w hSw
          try dsimp only at hSw
          go_simp
          try with_reducible rfl
        try simp only [Act.put, List.getElem_toArray, List.getElem_cons_succ, List.getElem_cons_zero, List.setIfInBounds_toArray, List.set_cons_zero, List.set_cons_succ]
        refine wpAnyH_take (i := 22) (v := ?_) rfl (by kernel_rfl) (by kernel_rfl) (by kernel_rfl) (fun _ _ _ h => h) (Or.inl ⟨by rfl, ?_⟩) (by assumption) ?_
        rotate_left
        · intro w hSw
          try dsimp only at hSw
          go_simp
          try with_reducible rfl
        try simp only [Act.put, List.getElem_toArray, List.getElem_cons_succ, List.getElem_cons_zero, List.setIfInBounds_toArray, List.set_cons_zero, List.set_cons_succ]
        refine wpAnyH_ready (rs := [23]) (by kernel_rfl) (by simp) ?_
        refine AllReadyH.cons rfl (fun K hK => ?_) AllReadyH.nil
        go_simp
        go_at_call 86
        try rw [hX, hw1]
        refine (HLEAF.out _ _ HBC.out HKI.out).mono ?_
        rintro e w8 ⟨rfl, hF⟩
        have HF := Lib.hid hF
        clear hF
        go_wp2_with fail
        refine hK.out _ _ trivial (fun _ => ?_)
        clear hK K
        try simp only [Act.put, List.getElem_toArray, List.getElem_cons_succ, List.getElem_cons_zero, List.setIfInBounds_toArray, List.set_cons_zero, List.set_cons_succ]
        refine wpAnyH_take (i := 24) (v := ?_) rfl (by kernel_rfl) (by kernel_rfl) (by kernel_rfl) (fun _ _ _ h => h) (Or.inl ⟨by rfl, ?_⟩) (by assumption) ?_
        rotate_left
        · intro w hSw
          try dsimp only at hSw
          go_simp
          try with_reducible rfl
        try simp only [Act.put, List.getElem_toArray, List.getElem_cons_succ, List.getElem_cons_zero, List.setIfInBounds_toArray, List.set_cons_zero, List.set_cons_succ]
        refine wpAnyH_done (by kernel_rfl) ?_ _
        go_wp2_with fail
        go_ret
        exact HF.out
    · go_simp
      refine hK.out _ _ trivial (fun _ => ?_)
      clear hK K
      try simp only [Act.put, List.getElem_toArray, List.getElem_cons_succ, List.getElem_cons_zero, List.setIfInBounds_toArray, List.set_cons_zero, List.set_cons_succ]
      refine wpAnyH_ready (rs := [4, 20]) (by kernel_rfl) (by simp) ?_
      refine AllReadyH.cons rfl (fun K hK => ?_) (AllReadyH.cons rfl (fun K hK => ?_) AllReadyH.nil)
      · go_simp
        obtain ⟨W7, hW7⟩ : ∃ W, (w3.alloc (.cells #[.int .i64 i] 3)).drew = W := ⟨_, rfl⟩
        have hb7 : Below w3.heap.size w3 W7 := by rw [← hW7]; exact ((Below.refl _ _).alloc (Nat.le_refl _) _).drew
        have HKI : Hid (Ints (AX Ex pb mb cv3) W7 (.slice (some ⟨w3.heap.size, 0, none⟩) 1 1) [(i : Int)]) := Lib.hid (by
          have h1 : (w3.alloc (.cells #[.int .i64 i] 3)).ownsRow w3.heap.size 3 1 (.slice (some ⟨w3.heap.size, 0, none⟩) 1 1) 1 ([(i : Int)].map (.int .i64)) := by simpa using own_new (base := w3.heap.size) (w := w3) #[.int .i64 i] 3 (Nat.le_refl _) (by simp)
          have h2 : Ints (AX Ex pb mb cv3) (w3.alloc (.cells #[.int .i64 i] 3)) (.slice (some ⟨w3.heap.size, 0, none⟩) 1 1) [(i : Int)] := ⟨(ownsRow_sl1 h1 (by simp)).mono fun b hb => HP3.out.apart (hb.1), fun x hx => by simp at hx; subst hx; unfold I64; omega⟩
          rw [← hW7]
          exact h2.below ((Below.refl _ _).drew))
        have HBC := Lib.hid (hb7)
        have x2 := below_c HBC.out hplt hp2
        have x5 := below_c HBC.out hcb hci
        try rw [hW7]
        clear hb7 hW7
        refine hK.out _ _ trivial (fun _ => ?_)
        clear hK K
        try simp only [Act.put, List.getElem_toArray, List.getElem_cons_succ, List.getElem_cons_zero, List.setIfInBounds_toArray, List.set_cons_zero, List.set_cons_succ]
        refine wpAnyH_ready (rs := [20]) (by kernel_rfl) (by simp) ?_
        refine AllReadyH.cons rfl (fun K hK => ?_) AllReadyH.nil
        go_simp
        go_at_call 132
        refine (HFR.out _ HBC.out).mono ?_
        rintro e w5 ⟨rfl, hb5⟩
        have HBC := Lib.hid (HBC.out.trans (hb5.mono HBC.out.size))
        have HKI := Lib.hid (HKI.out.below hb5)
        have x2 := below_c HBC.out hplt hp2
        have x5 := below_c HBC.out hcb hci
        clear hb5
        go_wp2_with fail
        refine hK.out _ _ trivial (fun _ => ?_)
        clear hK K
        try simp only [Act.put, List.getElem_toArray, List.getElem_cons_succ, List.getElem_cons_zero, List.setIfInBounds_toArray, List.set_cons_zero, List.set_cons_succ]
        refine wpAnyH_take (i := 21) (v := ?_) rfl (by kernel_rfl) (by kernel_rfl) (by kernel_rfl) (fun _ _ _ h => h) (Or.inl ⟨by rfl, ?_⟩) (by assumption) ?_
        rotate_left
        · intro w hSw
          try dsimp only at hSw
          go_simp
          try with_reducible rfl
        try simp only [Act.put, List.getElem_toArray, List.getElem_cons_succ, List.getElem_cons_zero, List.setIfInBounds_toArray, List.set_cons_zero, List.set_cons_succ]
        refine wpAnyH_take (i := 22) (v := ?_) rfl (by kernel_rfl) (by kernel_rfl) (by kernel_rfl) (fun _ _ _ h => h) (Or.inl ⟨by rfl, ?_⟩) (by assumption) ?_
        rotate_left
        · intro w hSw
          try dsimp only at hSw
          go_simp
          try with_reducible rfl
        try simp only [Act.put, List.getElem_toArray, List.getElem_cons_succ, List.getElem_cons_zero, List.setIfInBounds_toArray, List.set_cons_zero, List.set_cons_succ]
        refine wpAnyH_ready (rs := [23]) (by kernel_rfl) (by simp) ?_
        refine AllReadyH.cons rfl (fun K hK => ?_) AllReadyH.nil
        go_simp
        go_at_call 86
        try rw [hX, hw1]
        refine (HLEAF.out _ _ HBC.out HKI.out).mono ?_
        rintro e w8 ⟨rfl, hF⟩
        have HF := Lib.hid hF
        clear hF
        go_wp2_with fail
        refine hK.out _ _ trivial (fun _ => ?_)
        clear hK K
        try simp only [Act.put, List.getElem_toArray, List.getElem_cons_succ, List.getElem_cons_zero, List.setIfInBounds_toArray, List.set_cons_zero, List.set_cons_succ]
        refine wpAnyH_take (i := 24) (v := ?_) rfl (by kernel_rfl) (by kernel_rfl) (by kernel_rfl) (fun _ _ _ h => h) (Or.inl ⟨by rfl, ?_⟩) (by assumption) ?_
        rotate_left
        · intro w hSw
          try dsimp only at hSw
          go_simp
          try with_reducible rfl
        try simp only [Act.put, List.getElem_toArray, List.getElem_cons_succ, List.getElem_cons_zero, List.setIfInBounds_toArray, List.set_cons_zero, List.set_cons_succ]
        refine wpAnyH_done (by kernel_rfl) ?_ _
        go_wp2_with fail
        go_ret
        exact HF.out
      · go_simp
        go_at_call 132
        refine (HFR.out _ HBC.out).mono ?_
        rintro e w5 ⟨rfl, hb5⟩
        have HBC := Lib.hid (HBC.out.trans (hb5.mono HBC.out.size))
        have x2 := below_c HBC.out hplt hp2
        have x5 := below_c HBC.out hcb hci
        clear hb5
        go_wp2_with fail
        refine hK.out _ _ trivial (fun _ => ?_)
        clear hK K
        try simp only [Act.put, List.getElem_toArray, List.getElem_cons_succ, List.getElem_cons_zero, List.setIfInBounds_toArray, List.set_cons_zero, List.set_cons_succ]
        refine wpAnyH_take (i := 21) (v := ?_) rfl (by kernel_rfl) (by kernel_rfl) (by kernel_rfl) (fun _ _ _ h => h) (Or.inl ⟨by rfl, ?_⟩) (by assumption) ?_
        rotate_left
        · intro w hSw
          try dsimp only at hSw
          go_simp
          try with_reducible rfl
        try simp only [Act.put, List.getElem_toArray, List.getElem_cons_succ, List.getElem_cons_zero, List.setIfInBounds_toArray, List.set_cons_zero, List.set_cons_succ]
        refine wpAnyH_ready (rs := [4]) (by kernel_rfl) (by simp) ?_
        refine AllReadyH.cons rfl (fun K hK => ?_) AllReadyH.nil
        go_simp
        obtain ⟨W7, hW7⟩ : ∃ W, w5.alloc (.cells #[.int .i64 i] 3) = W := ⟨_, rfl⟩
        have hb7 : Below w5.heap.size w5 W7 := by rw [← hW7]; exact (Below.refl _ _).alloc (Nat.le_refl _) _
        have HKI : Hid (Ints (AX Ex pb mb cv3) W7 (.slice (some ⟨w5.heap.size, 0, none⟩) 1 1) [(i : Int)]) := Lib.hid (by
          have h1 : (w5.alloc (.cells #[.int .i64 i] 3)).ownsRow w5.heap.size 3 1 (.slice (some ⟨w5.heap.size, 0, none⟩) 1 1) 1 ([(i : Int)].map (.int .i64)) := by simpa using own_new (base := w5.heap.size) (w := w5) #[.int .i64 i] 3 (Nat.le_refl _) (by simp)
          have h2 : Ints (AX Ex pb mb cv3) (w5.alloc (.cells #[.int .i64 i] 3)) (.slice (some ⟨w5.heap.size, 0, none⟩) 1 1) [(i : Int)] := ⟨(ownsRow_sl1 h1 (by simp)).mono fun b hb => HP3.out.apart (Nat.le_trans HBC.out.size hb.1), fun x hx => by simp at hx; subst hx; unfold I64; omega⟩
          rw [← hW7]
          exact h2)
        have HBC := Lib.hid (HBC.out.trans (hb7.mono HBC.out.size))
        have x2 := below_c HBC.out hplt hp2
        have x5 := below_c HBC.out hcb hci
        try rw [hW7]
        clear hb7 hW7
        refine hK.out _ _ trivial (fun _ => ?_)
        clear hK K
        try simp only [Act.put, List.getElem_toArray, List.getElem_cons_succ, List.getElem_cons_zero, List.setIfInBounds_toArray, List.set_cons_zero, List.set_cons_succ]
        refine wpAnyH_take (i := 22) (v := ?_) rfl (by kernel_rfl) (by kernel_rfl) (by kernel_rfl) (fun _ _ _ h => h) (Or.inl ⟨by rfl, ?_⟩) (by assumption) ?_
        rotate_left
        · intro w hSw
          try dsimp only at hSw
          go_simp
          try with_reducible rfl
        try simp only [Act.put, List.getElem_toArray, List.getElem_cons_succ, List.getElem_cons_zero, List.setIfInBounds_toArray, List.set_cons_zero, List.set_cons_succ]
        refine wpAnyH_ready (rs := [23]) (by kernel_rfl) (by simp) ?_
        refine AllReadyH.cons rfl (fun K hK => ?_) AllReadyH.nil
        go_simp
        go_at_call 86
        try rw [hX, hw1]
        refine (HLEAF.out _ _ HBC.out HKI.out).mono ?_
        rintro e w8 ⟨rfl, hF⟩
        have HF := Lib.hid hF
        clear hF
        go_wp2_with fail
        refine hK.out _ _ trivial (fun _ => ?_)
        clear hK K
        try simp only [Act.put, List.getElem_toArray, List.getElem_cons_succ, List.getElem_cons_zero, List.setIfInBounds_toArray, List.set_cons_zero, List.set_cons_succ]
        refine wpAnyH_take (i := 24) (v := ?_) rfl (by kernel_rfl) (by kernel_rfl) (by kernel_rfl) (fun _ _ _ h => h) (Or.inl ⟨by rfl, ?_⟩) (by assumption) ?_
        rotate_left
        · intro w hSw
          try dsimp only at hSw
          go_simp
          try with_reducible rfl
        try simp only [Act.put, List.getElem_toArray, List.getElem_cons_succ, List.getElem_cons_zero, List.setIfInBounds_toArray, List.set_cons_zero, List.set_cons_succ]
        refine wpAnyH_done (by kernel_rfl) ?_ _
        go_wp2_with fail
        go_ret
        exact HF.out
    · go_simp
      go_at_call 132
      refine (HFR.out _ HBC.out).mono ?_
      rintro e w5 ⟨rfl, hb5⟩
      have HBC := Lib.hid (HBC.out.trans (hb5.mono HBC.out.size))
      have x2 := below_c HBC.out hplt hp2
      have x5 := below_c HBC.out hcb hci
      clear hb5
      go_wp2_with fail
      refine hK.out _ _ trivial (fun _ => ?_)
      clear hK K
      try simp only [Act.put, List.getElem_toArray, List.getElem_cons_succ, List.getElem_cons_zero, List.setIfInBounds_toArray, List.set_cons_zero, List.set_cons_succ]
      refine wpAnyH_ready (rs := [4, 12]) (by kernel_rfl) (by simp) ?_
      refine AllReadyH.cons rfl (fun K hK => ?_) (AllReadyH.cons rfl (fun K hK => ?_) AllReadyH.nil)
      · go_simp
        obtain ⟨W7, hW7⟩ : ∃ W, w5.alloc (.cells #[.int .i64 i] 3) = W := ⟨_, rfl⟩
        have hb7 : Below w5.heap.size w5 W7 := by rw [← hW7]; exact (Below.refl _ _).alloc (Nat.le_refl _) _
        have HKI : Hid (Ints (AX Ex pb mb cv3) W7 (.slice (some ⟨w5.heap.size, 0, none⟩) 1 1) [(i : Int)]) := Lib.hid (by
          have h1 : (w5.alloc (.cells #[.int .i64 i] 3)).ownsRow w5.heap.size 3 1 (.slice (some ⟨w5.heap.size, 0, none⟩) 1 1) 1 ([(i : Int)].map (.int .i64)) := by simpa using own_new (base := w5.heap.size) (w := w5) #[.int .i64 i] 3 (Nat.le_refl _) (by simp)
          have h2 : Ints (AX Ex pb mb cv3) (w5.alloc (.cells #[.int .i64 i] 3)) (.slice (some ⟨w5.heap.size, 0, none⟩) 1 1) [(i : Int)] := ⟨(ownsRow_sl1 h1 (by simp)).mono fun b hb => HP3.out.apart (Nat.le_trans HBC.out.size hb.1), fun x hx => by simp at hx; subst hx; unfold I64; omega⟩
          rw [← hW7]
          exact h2)
        have HBC := Lib.hid (HBC.out.trans (hb7.mono HBC.out.size))
        have x2 := below_c HBC.out hplt hp2
        have x5 := below_c HBC.out hcb hci
        try rw [hW7]
        clear hb7 hW7
        refine hK.out _ _ trivial (fun _ => ?_)
        clear hK K
        try simp only [Act.put, List.getElem_toArray, List.getElem_cons_succ, List.getElem_cons_zero, List.setIfInBounds_toArray, List.set_cons_zero, List.set_cons_succ]
        refine wpAnyH_ready (rs := [12]) (by kernel_rfl) (by simp) ?_
        refine AllReadyH.cons rfl (fun K hK => ?_) AllReadyH.nil
        go_simp
        refine hK.out _ _ trivial (fun _ => ?_)
        clear hK K
        try simp only [Act.put, List.getElem_toArray, List.getElem_cons_succ, List.getElem_cons_zero, List.setIfInBounds_toArray, List.set_cons_zero, List.set_cons_succ]
        refine wpAnyH_take (i := 21) (v := ?_) rfl (by kernel_rfl) (by kernel_rfl) (by kernel_rfl) (fun _ _ _ h => h) (Or.inl ⟨by rfl, ?_⟩) (by assumption) ?_
        rotate_left
        · intro w hSw
          try dsimp only at hSw
          go_simp
          try with_reducible rfl
        try simp only [Act.put, List.getElem_toArray, List.getElem_cons_succ, List.getElem_cons_zero, List.setIfInBounds_toArray, List.set_cons_zero, List.set_cons_succ]
        refine wpAnyH_take (i := 22) (v := ?_) rfl (by kernel_rfl) (by kernel_rfl) (by kernel_rfl) (fun _ _ _ h => h) (Or.inl ⟨by rfl, ?_⟩) (by assumption) ?_
        rotate_left
        · intro w hSw
          try dsimp only at hSw
          go_simp
          try with_reducible rfl
        try simp only [Act.put, List.getElem_toArray, List.getElem_cons_succ, List.getElem_cons_zero, List.setIfInBounds_toArray, List.set_cons_zero, List.set_cons_succ]
        refine wpAnyH_ready (rs := [23]) (by kernel_rfl) (by simp) ?_
        refine AllReadyH.cons rfl (fun K hK => ?_) AllReadyH.nil
        go_simp
        go_at_call 86
        try rw [hX, hw1]
        refine (HLEAF.out _ _ HBC.out HKI.out).mono ?_
        rintro e w8 ⟨rfl, hF⟩
        have HF := Lib.hid hF
        clear hF
        go_wp2_with fail
        refine hK.out _ _ trivial (fun _ => ?_)
        clear hK K
        try simp only [Act.put, List.getElem_toArray, List.getElem_cons_succ, List.getElem_cons_zero, List.setIfInBounds_toArray, List.set_cons_zero, List.set_cons_succ]
        refine wpAnyH_take (i := 24) (v := ?_) rfl (by kernel_rfl) (by kernel_rfl) (by kernel_rfl) (fun _ _ _ h => h) (Or.inl ⟨by rfl, ?_⟩) (by assumption) ?_
        rotate_left
        · intro w hSw
          try dsimp only at hSw
          go_simp
          try with_reducible rfl
        try simp only [Act.put, List.getElem_toArray, List.getElem_cons_succ, List.getElem_cons_zero, List.setIfInBounds_toArray, List.set_cons_zero, List.set_cons_succ]
        refine wpAnyH_done (by kernel_rfl) ?_ _
        go_wp2_with fail
        go_ret
        exact HF.out
      · go_simp
        refine hK.out _ _ trivial (fun _ => ?_)
        clear hK K
        try simp only [Act.put, List.getElem_toArray, List.getElem_cons_succ, List.getElem_cons_zero, List.setIfInBounds_toArray, List.set_cons_zero, List.set_cons_succ]
        refine wpAnyH_take (i := 21) (v := ?_) rfl (by kernel_rfl) (by kernel_rfl) (by kernel_rfl) (fun _ _ _ h => h) (Or.inl ⟨by rfl, ?_⟩) (by assumption) ?_
        rotate_left
        · intro w hSw
          try dsimp only at hSw
          go_simp
          try with_reducible rfl
        try simp only [Act.put, List.getElem_toArray, List.getElem_cons_succ, List.getElem_cons_zero, List.setIfInBounds_toArray, List.set_cons_zero, List.set_cons_succ]
        refine wpAnyH_ready (rs := [4]) (by kernel_rfl) (by simp) ?_
        refine AllReadyH.cons rfl (fun K hK => ?_) AllReadyH.nil
        go_simp
        obtain ⟨W7, hW7⟩ : ∃ W, w5.alloc (.cells #[.int .i64 i] 3) = W := ⟨_, rfl⟩
        have hb7 : Below w5.heap.size w5 W7 := by rw [← hW7]; exact (Below.refl _ _).alloc (Nat.le_refl _) _
        have HKI : Hid (Ints (AX Ex pb mb cv3) W7 (.slice (some ⟨w5.heap.size, 0, none⟩) 1 1) [(i : Int)]) := Lib.hid (by
          have h1 : (w5.alloc (.cells #[.int .i64 i] 3)).ownsRow w5.heap.size 3 1 (.slice (some ⟨w5.heap.size, 0, none⟩) 1 1) 1 ([(i : Int)].map (.int .i64)) := by simpa using own_new (base := w5.heap.size) (w := w5) #[.int .i64 i] 3 (Nat.le_refl _) (by simp)
          have h2 : Ints (AX Ex pb mb cv3) (w5.alloc (.cells #[.int .i64 i] 3)) (.slice (some ⟨w5.heap.size, 0, none⟩) 1 1) [(i : Int)] := ⟨(ownsRow_sl1 h1 (by simp)).mono fun b hb => HP3.out.apart (Nat.le_trans HBC.out.size hb.1), fun x hx => by simp at hx; subst hx; unfold I64; omega⟩
          rw [← hW7]
          exact h2)
        have HBC := Lib.hid (HBC.out.trans (hb7.mono HBC.out.size))
        have x2 := below_c HBC.out hplt hp2
        have x5 := below_c HBC.out hcb hci
        try rw [hW7]
        clear hb7 hW7
        refine hK.out _ _ trivial (fun _ => ?_)
        clear hK K
        try simp only [Act.put, List.getElem_toArray, List.getElem_cons_succ, List.getElem_cons_zero, List.setIfInBounds_toArray, List.set_cons_zero, List.set_cons_succ]
        refine wpAnyH_take (i := 22) (v := ?_) rfl (by kernel_rfl) (by kernel_rfl) (by kernel_rfl) (fun _ _ _ h => h) (Or.inl ⟨by rfl, ?_⟩) (by assumption) ?_
        rotate_left
        · intro w hSw
          try dsimp only at hSw
          go_simp
          try with_reducible rfl
        try simp only [Act.put, List.getElem_toArray, List.getElem_cons_succ, List.getElem_cons_zero, List.setIfInBounds_toArray, List.set_cons_zero, List.set_cons_succ]
        refine wpAnyH_ready (rs := [23]) (by kernel_rfl) (by simp) ?_
        refine AllReadyH.cons rfl (fun K hK => ?_) AllReadyH.nil
        go_simp
        go_at_call 86
        try rw [hX, hw1]
        refine (HLEAF.out _ _ HBC.out HKI.out).mono ?_
        rintro e w8 ⟨rfl, hF⟩
        have HF := Lib.hid hF
        clear hF
        go_wp2_with fail
        refine hK.out _ _ trivial (fun _ => ?_)
        clear hK K
        try simp only [Act.put, List.getElem_toArray, List.getElem_cons_succ, List.getElem_cons_zero, List.setIfInBounds_toArray, List.set_cons_zero, List.set_cons_succ]
        refine wpAnyH_take (i := 24) (v := ?_) rfl (by kernel_rfl) (by kernel_rfl) (by kernel_rfl) (fun _ _ _ h => h) (Or.inl ⟨by rfl, ?_⟩) (by assumption) ?_
        rotate_left
        · intro w hSw
          try dsimp only at hSw
          go_simp
          try with_reducible rfl
        try simp only [Act.put, List.getElem_toArray, List.getElem_cons_succ, List.getElem_cons_zero, List.setIfInBounds_toArray, List.set_cons_zero, List.set_cons_succ]
        refine wpAnyH_done (by kernel_rfl) ?_ _
        go_wp2_with fail
        go_ret
        exact HF.out
  · go_simp
    go_at_call 132
    refine (HFR.out _ HBC.out).mono ?_
    rintro e w5 ⟨rfl, hb5⟩
    have HBC := Lib.hid (HBC.out.trans (hb5.mono HBC.out.size))
    have x2 := below_c HBC.out hplt hp2
    have x5 := below_c HBC.out hcb hci
    clear hb5
    go_wp2_with fail
    refine hK.out _ _ trivial (fun _ => ?_)
    clear hK K
    try simp only [Act.put, List.getElem_toArray, List.getElem_cons_succ, List.getElem_cons_zero, List.setIfInBounds_toArray, List.set_cons_zero, List.set_cons_succ]
    refine wpAnyH_ready (rs := [4, 8]) (by kernel_rfl) (by simp) ?_
    refine AllReadyH.cons rfl (fun K hK => ?_) (AllReadyH.cons rfl (fun K hK => ?_) AllReadyH.nil)
    · go_simp
      obtain ⟨W7, hW7⟩ : ∃ W, w5.alloc (.cells #[.int .i64 i] 3) = W := ⟨_, rfl⟩
      have hb7 : Below w5.heap.size w5 W7 := by rw [← hW7]; exact (Below.refl _ _).alloc (Nat.le_refl _) _
      have HKI : Hid (Ints (AX Ex pb mb cv3) W7 (.slice (some ⟨w5.heap.size, 0, none⟩) 1 1) [(i : Int)]) := Lib.hid (by
        have h1 : (w5.alloc (.cells #[.int .i64 i] 3)).ownsRow w5.heap.size 3 1 (.slice (some ⟨w5.heap.size, 0, none⟩) 1 1) 1 ([(i : Int)].map (.int .i64)) := by simpa using own_new (base := w5.heap.size) (w := w5) #[.int .i64 i] 3 (Nat.le_refl _) (by simp)
        have h2 : Ints (AX Ex pb mb cv3) (w5.alloc (.cells #[.int .i64 i] 3)) (.slice (some ⟨w5.heap.size, 0, none⟩) 1 1) [(i : Int)] := ⟨(ownsRow_sl1 h1 (by simp)).mono fun b hb => HP3.out.apart (Nat.le_trans HBC.out.size hb.1), fun x hx => by simp at hx; subst hx; unfold I64; omega⟩
        rw [← hW7]
        exact h2)
      have HBC := Lib.hid (HBC.out.trans (hb7.mono HBC.out.size))
      have x2 := below_c HBC.out hplt hp2
      have x5 := below_c HBC.out hcb hci
      try rw [hW7]
      clear hb7 hW7
      refine hK.out _ _ trivial (fun _ => ?_)
      clear hK K
      try simp only [Act.put, List.getElem_toArray, List.getElem_cons_succ, List.getElem_cons_zero, List.setIfInBounds_toArray, List.set_cons_zero, List.set_cons_succ]
      refine wpAnyH_ready (rs := [8]) (by kernel_rfl) (by simp) ?_
      refine AllReadyH.cons rfl (fun K hK => ?_) AllReadyH.nil
      go_simp
      refine hK.out _ _ trivial (fun _ => ?_)
      clear hK K
      try simp only [Act.put, List.getElem_toArray, List.getElem_cons_succ, List.getElem_cons_zero, List.setIfInBounds_toArray, List.set_cons_zero, List.set_cons_succ]
      refine wpAnyH_take (i := 10) (v := ?_) rfl (by kernel_rfl) (by kernel_rfl) (by kernel_rfl) (fun _ _ _ h => h) (Or.inl ⟨by rfl, ?_⟩) (by assumption) ?_
      rotate_left
      · intro w hSw
        try dsimp only at hSw
        go_simp
        try with_reducible rfl
      try simp only [Act.put, List.getElem_toArray, List.getElem_cons_succ, List.getElem_cons_zero, List.setIfInBounds_toArray, List.set_cons_zero, List.set_cons_succ]
      refine wpAnyH_take (i := 11) (v := ?_) rfl (by kernel_rfl) (by kernel_rfl) (by kernel_rfl) (fun _ _ _ h => h) (Or.inl ⟨by rfl, ?_⟩) (by assumption) ?_
      rotate_left
      · intro w hSw
        try dsimp only at hSw
        go_simp
        try with_reducible rfl
      try simp only [Act.put, List.getElem_toArray, List.getElem_cons_succ, List.getElem_cons_zero, List.setIfInBounds_toArray, List.set_cons_zero, List.set_cons_succ]
      refine wpAnyH_ready (rs := [12]) (by kernel_rfl) (by simp) ?_
      refine AllReadyH.cons rfl (fun K hK => ?_) AllReadyH.nil
      go_simp
      refine hK.out _ _ trivial (fun _ => ?_)
      clear hK K
      try simp only [Act.put, List.getElem_toArray, List.getElem_cons_succ, List.getElem_cons_zero, List.setIfInBounds_toArray, List.set_cons_zero, List.set_cons_succ]
      refine wpAnyH_take (i := 21) (v := ?_) rfl (by kernel_rfl) (by kernel_rfl) (by kernel_rfl) (fun _ _ _ h => h) (Or.inl ⟨by rfl, ?_⟩) (by assumption) ?_
      rotate_left
      · intro w hSw
        try dsimp only at hSw
        go_simp
        try with_reducible rfl
      try simp only [Act.put, List.getElem_toArray, List.getElem_cons_succ, List.getElem_cons_zero, List.setIfInBounds_toArray, List.set_cons_zero, List.set_cons_succ]
      refine wpAnyH_take (i := 22) (v := ?_) rfl (by kernel_rfl) (by kernel_rfl) (by kernel_rfl) (fun _ _ _ h => h) (Or.inl ⟨by rfl, ?_⟩) (by assumption) ?_
      rotate_left
      · intro w hSw
        try dsimp only at hSw
        go_simp
        try with_reducible rfl
      try simp only [Act.put, List.getElem_toArray, List.getElem_cons_succ, List.getElem_cons_zero, List.setIfInBounds_toArray, List.set_cons_zero, List.set_cons_succ]
      refine wpAnyH_ready (rs := [23]) (by kernel_rfl) (by simp) ?_
      refine AllReadyH.cons rfl (fun K hK => ?_) AllReadyH.nil
      go_simp
      go_at_call 86
      try rw [hX, hw1]
      refine (HLEAF.out _ _ HBC.out HKI.out).mono ?_
      rintro e w8 ⟨rfl, hF⟩
      have HF := Lib.hid hF
      clear hF
      go_wp2_with fail
      refine hK.out _ _ trivial (fun _ => ?_)
      clear hK K
      try simp only [Act.put, List.getElem_toArray, List.getElem_cons_succ, List.getElem_cons_zero, List.setIfInBounds_toArray, List.set_cons_zero, List.set_cons_succ]
      refine wpAnyH_take (i := 24) (v := ?_) rfl (by kernel_rfl) (by kernel_rfl) (by kernel_rfl) (fun _ _ _ h => h) (Or.inl ⟨by rfl, ?_⟩) (by assumption) ?_
      rotate_left
      · intro w hSw
        try dsimp only at hSw
        go_simp
        try with_reducible rfl
      try simp only [Act.put, List.getElem_toArray, List.getElem_cons_succ, List.getElem_cons_zero, List.setIfInBounds_toArray, List.set_cons_zero, List.set_cons_succ]
      refine wpAnyH_done (by kernel_rfl) ?_ _
      go_wp2_with fail
      go_ret
      exact HF.out
    · go_simp
      refine hK.out _ _ trivial (fun _ => ?_)
      clear hK K
      try simp only [Act.put, List.getElem_toArray, List.getElem_cons_succ, List.getElem_cons_zero, List.setIfInBounds_toArray, List.set_cons_zero, List.set_cons_succ]
      refine wpAnyH_take (i := 10) (v := ?_) rfl (by kernel_rfl) (by kernel_rfl) (by kernel_rfl) (fun _ _ _ h => h) (Or.inl ⟨by rfl, ?_⟩) (by assumption) ?_
      rotate_left
      · intro w hSw
        try dsimp only at hSw
        go_simp
        try with_reducible rfl
      try simp only [Act.put, List.getElem_toArray, List.getElem_cons_succ, List.getElem_cons_zero, List.setIfInBounds_toArray, List.set_cons_zero, List.set_cons_succ]
      refine wpAnyH_take (i := 11) (v := ?_) rfl (by kernel_rfl) (by kernel_rfl) (by kernel_rfl) (fun _ _ _ h => h) (Or.inl ⟨by rfl, ?_⟩) (by assumption) ?_
      rotate_left
      · intro w hSw
        try dsimp only at hSw
        go_simp
        try with_reducible rfl
      try simp only [Act.put, List.getElem_toArray, List.getElem_cons_succ, List.getElem_cons_zero, List.setIfInBounds_toArray, List.set_cons_zero, List.set_cons_succ]
      refine wpAnyH_ready (rs := [4, 12]) (by kernel_rfl) (by simp) ?_
      refine AllReadyH.cons rfl (fun K hK => ?_) (AllReadyH.cons rfl (fun K hK => ?_) AllReadyH.nil)
      · go_simp
        obtain ⟨W7, hW7⟩ : ∃ W, w5.alloc (.cells #[.int .i64 i] 3) = W := ⟨_, rfl⟩
        have hb7 : Below w5.heap.size w5 W7 := by rw [← hW7]; exact (Below.refl _ _).alloc (Nat.le_refl _) _
        have HKI : Hid (Ints (AX Ex pb mb cv3) W7 (.slice (some ⟨w5.heap.size, 0, none⟩) 1 1) [(i : Int)]) := Lib.hid (by
          have h1 : (w5.alloc (.cells #[.int .i64 i] 3)).ownsRow w5.heap.size 3 1 (.slice (some ⟨w5.heap.size, 0, none⟩) 1 1) 1 ([(i : Int)].map (.int .i64)) := by simpa using own_new (base := w5.heap.size) (w := w5) #[.int .i64 i] 3 (Nat.le_refl _) (by simp)
          have h2 : Ints (AX Ex pb mb cv3) (w5.alloc (.cells #[.int .i64 i] 3)) (.slice (some ⟨w5.heap.size, 0, none⟩) 1 1) [(i : Int)] := ⟨(ownsRow_sl1 h1 (by simp)).mono fun b hb => HP3.out.apart (Nat.le_trans HBC.out.size hb.1), fun x hx => by simp at hx; subst hx; unfold I64; omega⟩
          rw [← hW7]
          exact h2)
        have HBC := Lib.hid (HBC.out.trans (hb7.mono HBC.out.size))
        have x2 := below_c HBC.out hplt hp2
        have x5 := below_c HBC.out hcb hci
        try rw [hW7]
        clear hb7 hW7
        refine hK.out _ _ trivial (fun _ => ?_)
        clear hK K
        try simp only [Act.put, List.getElem_toArray, List.getElem_cons_succ, List.getElem_cons_zero, List.setIfInBounds_toArray, List.set_cons_zero, List.set_cons_succ]
        refine wpAnyH_ready (rs := [12]) (by kernel_rfl) (by simp) ?_
        refine AllReadyH.cons rfl (fun K hK => ?_) AllReadyH.nil
        go_simp
        refine hK.out _ _ trivial (fun _ => ?_)
        clear hK K
        try simp only [Act.put, List.getElem_toArray, List.getElem_cons_succ, List.getElem_cons_zero, List.setIfInBounds_toArray, List.set_cons_zero, List.set_cons_succ]
        refine wpAnyH_take (i := 21) (v := ?_) rfl (by kernel_rfl) (by kernel_rfl) (by kernel_rfl) (fun _ _ _ h => h) (Or.inl ⟨by rfl, ?_⟩) (by assumption) ?_
        rotate_left
        · intro w hSw
          try dsimp only at hSw
          go_simp
          try with_reducible rfl
        try simp only [Act.put, List.getElem_toArray, List.getElem_cons_succ, List.getElem_cons_zero, List.setIfInBounds_toArray, List.set_cons_zero, List.set_cons_succ]
        refine wpAnyH_take (i := 22) (v := ?_) rfl (by kernel_rfl) (by kernel_rfl) (by kernel_rfl) (fun _ _ _ h => h) (Or.inl ⟨by rfl, ?_⟩) (by assumption) ?_
        rotate_left
        · intro w hSw
          try dsimp only at hSw
          go_simp
          try with_reducible rfl
        try simp only [Act.put, List.getElem_toArray, List.getElem_cons_succ, List.getElem_cons_zero, List.setIfInBounds_toArray, List.set_cons_zero, List.set_cons_succ]
        refine wpAnyH_ready (rs := [23]) (by kernel_rfl) (by simp) ?_
        refine AllReadyH.cons rfl (fun K hK => ?_) AllReadyH.nil
        go_simp
        go_at_call 86
        try rw [hX, hw1]
        refine (HLEAF.out _ _ HBC.out HKI.out).mono ?_
        rintro e w8 ⟨rfl, hF⟩
        have HF := Lib.hid hF
        clear hF
        go_wp2_with fail
        refine hK.out _ _ trivial (fun _ => ?_)
        clear hK K
        try simp only [Act.put, List.getElem_toArray, List.getElem_cons_succ, List.getElem_cons_zero, List.setIfInBounds_toArray, List.set_cons_zero, List.set_cons_succ]
        refine wpAnyH_take (i := 24) (v := ?_) rfl (by kernel_rfl) (by kernel_rfl) (by kernel_rfl) (fun _ _ _ h => h) (Or.inl ⟨by rfl, ?_⟩) (by assumption) ?_
        rotate_left
        · intro w hSw
          try dsimp only at hSw
          go_simp
          try with_reducible rfl
        try simp only [Act.put, List.getElem_toArray, List.getElem_cons_succ, List.getElem_cons_zero, List.setIfInBounds_toArray, List.set_cons_zero, List.set_cons_succ]
        refine wpAnyH_done (by kernel_rfl) ?_ _
        go_wp2_with fail
        go_ret
        exact HF.out
      · go_simp
        refine hK.out _ _ trivial (fun _ => ?_)
        clear hK K
        try simp only [Act.put, List.getElem_toArray, List.getElem_cons_succ, List.getElem_cons_zero, List.setIfInBounds_toArray, List.set_cons_zero, List.set_cons_succ]
        refine wpAnyH_take (i := 21) (v := ?_) rfl (by kernel_rfl) (by kernel_rfl) (by kernel_rfl) (fun _ _ _ h => h) (Or.inl ⟨by rfl, ?_⟩) (by assumption) ?_
        rotate_left
        · intro w hSw
          try dsimp only at hSw
          go_simp
          try with_reducible rfl
        try simp only [Act.put, List.getElem_toArray, List.getElem_cons_succ, List.getElem_cons_zero, List.setIfInBounds_toArray, List.set_cons_zero, List.set_cons_succ]
        refine wpAnyH_ready (rs := [4]) (by kernel_rfl) (by simp) ?_
        refine AllReadyH.cons rfl (fun K hK => ?_) AllReadyH.nil
        go_simp
        obtain ⟨W7, hW7⟩ : ∃ W, w5.alloc (.cells #[.int .i64 i] 3) = W := ⟨_, rfl⟩
        have hb7 : Below w5.heap.size w5 W7 := by rw [← hW7]; exact (Below.refl _ _).alloc (Nat.le_refl _) _
        have HKI : Hid (Ints (AX Ex pb mb cv3) W7 (.slice (some ⟨w5.heap.size, 0, none⟩) 1 1) [(i : Int)]) := Lib.hid (by
          have h1 : (w5.alloc (.cells #[.int .i64 i] 3)).ownsRow w5.heap.size 3 1 (.slice (some ⟨w5.heap.size, 0, none⟩) 1 1) 1 ([(i : Int)].map (.int .i64)) := by simpa using own_new (base := w5.heap.size) (w := w5) #[.int .i64 i] 3 (Nat.le_refl _) (by simp)
          have h2 : Ints (AX Ex pb mb cv3) (w5.alloc (.cells #[.int .i64 i] 3)) (.slice (some ⟨w5.heap.size, 0, none⟩) 1 1) [(i : Int)] := ⟨(ownsRow_sl1 h1 (by simp)).mono fun b hb => HP3.out.apart (Nat.le_trans HBC.out.size hb.1), fun x hx => by simp at hx; subst hx; unfold I64; omega⟩
          rw [← hW7]
          exact h2)
        have HBC := Lib.hid (HBC.out.trans (hb7.mono HBC.out.size))
        have x2 := below_c HBC.out hplt hp2
        have x5 := below_c HBC.out hcb hci
        try rw [hW7]
        clear hb7 hW7
        refine hK.out _ _ trivial (fun _ => ?_)
        clear hK K
        try simp only [Act.put, List.getElem_toArray, List.getElem_cons_succ, List.getElem_cons_zero, List.setIfInBounds_toArray, List.set_cons_zero, List.set_cons_succ]
        refine wpAnyH_take (i := 22) (v := ?_) rfl (by kernel_rfl) (by kernel_rfl) (by kernel_rfl) (fun _ _ _ h => h) (Or.inl ⟨by rfl, ?_⟩) (by assumption) ?_
        rotate_left
        · intro w hSw
          try dsimp only at hSw
          go_simp
          try with_reducible rfl
        try simp only [Act.put, List.getElem_toArray, List.getElem_cons_succ, List.getElem_cons_zero, List.setIfInBounds_toArray, List.set_cons_zero, List.set_cons_succ]
        refine wpAnyH_ready (rs := [23]) (by kernel_rfl) (by simp) ?_
        refine AllReadyH.cons rfl (fun K hK => ?_) AllReadyH.nil
        go_simp
        go_at_call 86
        try rw [hX, hw1]
        refine (HLEAF.out _ _ HBC.out HKI.out).mono ?_
        rintro e w8 ⟨rfl, hF⟩
        have HF := Lib.hid hF
        clear hF
        go_wp2_with fail
        refine hK.out _ _ trivial (fun _ => ?_)
        clear hK K
        try simp only [Act.put, List.getElem_toArray, List.getElem_cons_succ, List.getElem_cons_zero, List.setIfInBounds_toArray, List.set_cons_zero, List.set_cons_succ]
        refine wpAnyH_take (i := 24) (v := ?_) rfl (by kernel_rfl) (by kernel_rfl) (by kernel_rfl) (fun _ _ _ h => h) (Or.inl ⟨by rfl, ?_⟩) (by assumption) ?_
        rotate_left
        · intro w hSw
          try dsimp only at hSw
          go_simp
          try with_reducible rfl
        try simp only [Act.put, List.getElem_toArray, List.getElem_cons_succ, List.getElem_cons_zero, List.setIfInBounds_toArray, List.set_cons_zero, List.set_cons_succ]
        refine wpAnyH_done (by kernel_rfl) ?_ _
        go_wp2_with fail
        go_ret
        exact HF.out
end Go.Proofs.YthanfjpmcckbhaaGreatDoor
