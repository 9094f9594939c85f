/- Walks of layer 33: the variables that a part mentions. -/
import Derived.Test.YteadlkecngfcoaaGreatDoorChecked
import Derived.Test.YteadlkecngfcoaaGreatDoorDd
import Derived.Deep.DeepCutAuto
import Derived.Deep.LoopGhost
namespace Go.Proofs.YteadlkecngfcoaaGreatDoor
open Go.ChangeShapes Go.WideShapes Go.ChangeAt Go.RowKit
set_option linter.unusedVariables false

theorem wrap_own (lit : Int) (n : Nat) (h0 : lit ≠ 0) (h1 : -40 ≤ lit) (h2 : lit ≤ 40) (hn : n = lit.natAbs) : IntKind.u64.wrap (2 ^ (n - 1)) = (ownM lit : Int) := by
  subst hn
  have hl := ownM_lt lit h1 h2
  unfold ownM at hl ⊢
  rw [if_neg h0] at hl ⊢
  rw [IntKind.wrap_u64, show (2 : Int) ^ (lit.natAbs - 1) = ((2 ^ (lit.natAbs - 1) : Nat) : Int) by simp]
  generalize (2 : Nat) ^ (lit.natAbs - 1) = q at *
  omega

set_option maxHeartbeats 4000000 in
theorem mask_any {F G : Nat → Prop} (kind lit : Int) (kids : List Int) (kv mv : Value) (b : Nat) (ms : List Nat) (w : World)
   (hm : w.cell? ⟨b, 2, none⟩ = some mv) (hms : Nats F w mv ms) (hk : Ints G w kv kids) (hl1 : -40 ≤ lit) (hl2 : lit ≤ 40) (hkr : ∀ k ∈ kids, 0 ≤ k ∧ k < ms.length) :
    Calls Tryz.prog 33 #[.pointer (some ⟨b, 0, none⟩), .agg #[.int .i64 kind, .int .i64 lit, kv]] w fun e w' =>
      e = .returned (.tuple #[.int .u64 ((maskM ⟨kind, lit, kids⟩ ms).getD 0 : Nat), .bool (maskM ⟨kind, lit, kids⟩ ms).isSome]) ∧ Below w.heap.size w w' := by
  have hb := block_lt hm
  obtain ⟨ka, kc, rfl, hkl⟩ := hk.form
  obtain ⟨ma, mc, rfl, hml⟩ := hms.form
  have HK := Lib.hid hkr
  clear hkr
  obtain ⟨M, hM⟩ : ∃ M, maskM ⟨kind, lit, kids⟩ ms = M := ⟨_, rfl⟩
  rw [hM]
  have HM := Lib.hid hM
  clear hM
  go_enter Tryz.func33, Tryz.ntmps33
  go_upto_if 13 with fail
  go_cut [6] (fun u6 wx => u6 = .int .u64 (ownM lit) ∧ wx = w.alloc (.cells #[.int .i64 kind, .int .i64 lit, .slice ka kids.length kc] 43))
  case first =>
    go_wp2
    all_goals go_meet
    · have hz : lit ≠ 0 := by simpa using ‹(lit != 0) = true›
      exact ⟨by rw [wrap_own lit _ hz hl1 hl2 (by omega)], rfl⟩
    · have hz : lit ≠ 0 := by simpa using ‹(lit != 0) = true›
      exact ⟨by rw [wrap_own lit _ hz hl1 hl2 (by omega)], rfl⟩
    · have hz : lit = 0 := by simpa using ‹(lit != 0) = false›
      exact ⟨by simp [ownM, hz], rfl⟩
  case rest =>
    obtain ⟨rfl, rfl⟩ := hcut
    have hol := ownM_lt lit hl1 hl2
    have hb' : ∀ p, Below w.heap.size w (w.alloc p) := fun p => (Below.refl _ _).alloc (Nat.le_refl _) _
    have HB := Lib.hid hb'
    clear hb'
    have HM' : Hid (M = maskGo kind (ownM lit) ms (kids.drop 0) (ownM lit)) := Lib.hid (by rw [← HM.out]; rfl)
    clear HM
    generalize ownM lit = own at *
    go_wp2
    go_loop [4, 5, 6, 26] (fun r4 r5 u6 u26 => ∃ (k all : Nat), k ≤ kids.length ∧ all < 1099511627776 ∧ u26 = .int .i64 k ∧ u6 = .int .u64 all ∧ r4 = .int .u64 0 ∧ r5 = .bool false ∧
      Hid (M = maskGo kind own ms (kids.drop k) all)) (fun _ _ _ i => kids.length - (intOf i).toNat)
    case atStart => exact ⟨0, own, by omega, hol, rfl, rfl, rfl, rfl, HM'⟩
    case round =>
      obtain ⟨k, all, hk1, hal, rfl, rfl, rfl, rfl, hinv⟩ := hrel
      rcases hd : kids.drop k with _ | ⟨x, r⟩
      · have hge := drop_nil hd
        have hk : k = kids.length := by omega
        have HD := Lib.hid hd
        clear hd
        subst hk
        go_wp2
        go_ret2
        refine ⟨?_, HB.out _⟩
        have := hinv.out
        rw [HD.out] at this
        simp [this, maskGo]
      · obtain ⟨h1, h2, h3⟩ := drop_cons hd
        have HD := Lib.hid hd
        have H2 := Lib.hid h2
        have hx := HK.out x (List.mem_of_getElem? h1)
        obtain ⟨kb, koff, rfl, _, hkb, hck, _⟩ := hk.at h1
        clear hd h2
        obtain ⟨x, rfl⟩ := Int.eq_ofNat_of_zero_le hx.1
        have hxl : x < ms.length := by omega
        obtain ⟨mb, moff, rfl, _, hmb, hcm, hml2⟩ := hms.at (List.getElem?_eq_getElem hxl)
        generalize hmx : ms[x] = m at *
        have hstep : maskGo kind own ms ((x : Int) :: r) all = if (kind = 3 ∧ all &&& m ≠ 0) ∨ (kind = 4 ∧ own &&& m ≠ 0) then none else maskGo kind own ms r (all ||| m) := by
          have : ms.getD x 0 = m := by simp [List.getD, List.getElem?_eq_getElem hxl, hmx]
          simp only [maskGo, Int.toNat_natCast, this]
        have HS := Lib.hid hstep
        clear hstep hmx h1
        have hor := or_lt hal hml2
        have eor : bits .or .u64 (all : Int) m = ((all ||| m : Nat) : Int) := u64_or_nat _ _ (by omega) (by omega)
        have eA : bits .and .u64 (all : Int) m = ((all &&& m : Nat) : Int) := u64_and_nat _ _ (by omega) (by omega)
        have eO : bits .and .u64 (own : Int) m = ((own &&& m : Nat) : Int) := u64_and_nat _ _ (by omega) (by omega)
        have next : ∀ X, (M = if (kind = 3 ∧ all &&& m ≠ 0) ∨ (kind = 4 ∧ own &&& m ≠ 0) then none else maskGo kind own ms r (all ||| m)) ∧ X → X := fun X h => h.2
        have hgo : M = if (kind = 3 ∧ all &&& m ≠ 0) ∨ (kind = 4 ∧ own &&& m ≠ 0) then none else maskGo kind own ms r (all ||| m) := by rw [← HS.out, hinv.out, HD.out]
        have HGO := Lib.hid hgo
        clear next hgo
        have cont : (¬ ((kind = 3 ∧ all &&& m ≠ 0) ∨ (kind = 4 ∧ own &&& m ≠ 0))) → Hid (M = maskGo kind own ms (kids.drop (k + 1)) (all ||| m)) :=
          fun h => Lib.hid (by rw [HGO.out, H2.out, if_neg h])
        have stop : ((kind = 3 ∧ all &&& m ≠ 0) ∨ (kind = 4 ∧ own &&& m ≠ 0)) → Hid (M = none) := fun h => Lib.hid (by rw [HGO.out, if_pos h])
        by_cases k3 : kind = 3
        · have t3 : (kind == 3) = true := by simp [k3]
          by_cases hA : all &&& m = 0
          · have tA : (bits .and .u64 (all : Int) m != 0) = false := by simp [eA, hA]
            have t4 : (kind == 4) = false := by simp [k3]
            have HN := cont (by simp [k3, hA])
            clear eA eO hA k3 cont stop
            go_wp2
            go_round
            case rel => exact ⟨k + 1, all ||| m, by omega, hor, by go_num, rfl, rfl, rfl, HN⟩
            case measure => simp [intOf]; omega
          · have tA : (bits .and .u64 (all : Int) m != 0) = true := by simp [eA, hA]
            have HN := stop (by simp [k3, hA])
            clear eA eO hA k3 cont stop
            go_wp2
            go_ret2
            exact ⟨by rw [HN.out]; rfl, HB.out _⟩
        · have t3 : (kind == 3) = false := by simp [k3]
          by_cases k4 : kind = 4
          · have t4 : (kind == 4) = true := by simp [k4]
            by_cases hA : own &&& m = 0
            · have tA : (bits .and .u64 (own : Int) m != 0) = false := by simp [eO, hA]
              have HN := cont (by simp [k3, hA])
              clear eA eO hA k3 k4 cont stop
              go_wp2
              go_round
              case rel => exact ⟨k + 1, all ||| m, by omega, hor, by go_num, rfl, rfl, rfl, HN⟩
              case measure => simp [intOf]; omega
            · have tA : (bits .and .u64 (own : Int) m != 0) = true := by simp [eO, hA]
              have HN := stop (by simp [k4, hA])
              clear eA eO hA k3 k4 cont stop
              go_wp2
              go_ret2
              exact ⟨by rw [HN.out]; rfl, HB.out _⟩
          · have t4 : (kind == 4) = false := by simp [k4]
            have HN := cont (by simp [k3, k4])
            clear eA eO k3 k4 cont stop
            go_wp2
            go_round
            case rel => exact ⟨k + 1, all ||| m, by omega, hor, by go_num, rfl, rfl, rfl, HN⟩
            case measure => simp [intOf]; omega
end Go.Proofs.YteadlkecngfcoaaGreatDoor
