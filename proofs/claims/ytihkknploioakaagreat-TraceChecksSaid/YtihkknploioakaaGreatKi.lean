/- Walks: CompactFunc with the statement's own closure; the sort with the statement's own comparator. No condition but the length. -/
import Derived.Test.YtihkknploioakaaGreatKh
import Derived.Test.YtihkknploioakaaGreatKj
import Derived.Test.YtihkknploioakaaGreatKo
namespace Go.Proofs.YtihkknploioakaaGreat
open Go.ChangeShapes Go.WideShapes Go.ChangeAt Go.RowKit
set_option linter.unusedVariables false

theorem lsortlit_own (w : World) (base : Nat) (e : TypeId) (v : Value) (xs : List Int) (hown : w.ownsRow base e 1 v xs.length (xs.map (.int .i64))) (h64 : ∀ x ∈ xs, I64 x) (hl : xs.length ≤ 16777216) :
    Calls Tryz.prog 65 #[v, .func (.func 66) #[] #[]] w (SortedPost w base e v (srtC litC xs)) := by
  obtain ⟨ds, hds⟩ := lift_ints h64
  have hc : Cmp fun x y : I64s => litC x.1 y.1 := ⟨fun a b => litC_flip a.1 b.1, fun a b => litC_eq.trans (by rw [Subtype.ext_iff]), fun a b d => litC_tr⟩
  have hm : ds.map (fun x : I64s => Value.int .i64 x.1) = xs.map (.int .i64) := by rw [← hds, List.map_map]; rfl
  have hlen : ds.length = xs.length := by rw [← hds, List.length_map]
  rw [← hm, ← hlen] at hown
  have h := sort_own sortI (fun x : I64s => Value.int .i64 x.1) (fun _ => rfl) (fun x y : I64s => litC x.1 y.1) (swo_of hc) 66
    (enters_of Tryz.func66 (by kernel_rfl) rfl) w base e v ds hown (by omega) (fun x y w' _ => lliterals_any x.1 y.1 w' x.2 y.2)
  refine Calls.mono h ?_
  rintro r w' ⟨rfl, ts, hp, hs, ho, hg⟩
  have hts : ts.map Subtype.val = srtC litC xs := by
    refine srtC_unique litCmp ?_ ?_
    · rw [← hds]; exact hp.map _
    · rw [List.pairwise_map]; exact hs
  have hlt : (srtC litC xs).length = ds.length := by rw [(srtC_perm litC xs).length_eq, hlen]
  refine ⟨rfl, ?_, hg⟩
  rw [hlt, ← hts, List.map_map]
  exact ho

set_option maxRecDepth 100000 in
set_option maxHeartbeats 4000000 in
theorem lcompactf_any (w : World) (base : Nat) (v : Value) (ps : List (Value × List Int)) (hown : w.ownsRow base 40 1 v ps.length (ps.map Prod.fst)) (hps : ∀ p ∈ ps, Ints (fun b => v.ownBlock ≠ some b) w p.1 p.2) (hl : ps.length ≤ 1048576) :
    Calls Tryz.prog 69 #[v, .func (.func 70) #[] #[]] w (CptPost w base v ps) := by
  obtain ⟨n, hn⟩ : ∃ n, ps.length = n := ⟨_, rfl⟩
  have HN := Lib.hid hn
  rw [hn] at hown
  have HOWN := Lib.hid hown
  obtain ⟨qs, hqs⟩ : ∃ q, cptP none ps = q := ⟨_, rfl⟩
  have HP : Hid (∀ p ∈ ps, Ints (fun b => v.ownBlock ≠ some b ∧ b < w.heap.size) w p.1 p.2) := Lib.hid fun p hp => (hps p hp).lt
  rcases hown.2 with ⟨rfl, h0⟩ | ⟨b, cap, cur, rfl, hbase, hb, hnc, hcap, hcs, ht⟩
  · have hps0 : ps = [] := List.eq_nil_of_length_eq_zero (by omega)
    have HF : Hid (CptPost w base (.slice none 0 0) ps (.returned (.slice none 0 0)) w) := Lib.hid (by
      subst hps0
      exact ⟨_, rfl, World.ownsRow_nil _ _ _ _, rfl, ⟨rfl, rfl, rfl, Nat.le_refl _, fun _ _ _ => rfl⟩⟩)
    clear hown hps hn hqs hps0 h0 HP HOWN
    go_enter Tryz.func69, Tryz.ntmps69
    go_wp2
    go_ret
    exact HF.out
  have hbw : b < w.heap.size := (Array.getElem?_eq_some_iff.1 hb).1
  have HB := Lib.hid hbase
  have hcap2 : cap ≤ 9223372036854775807 := by unfold maxLen at hcap; omega
  have hn2 : n ≤ 1048576 := by omega
  have hz := Tryz.zeroValue40
  have hu := Tryz.underlying30
  have HZ := Lib.hid hz
  have HU := Lib.hid hu
  have HSAME : Hid (∀ nq, qs = ps → CptPost w base (.slice (some ⟨b, 0, none⟩) n cap) ps (.returned (.slice (some ⟨b, 0, none⟩) n cap)) (w.drewN nq)) := Lib.hid fun nq e => by
    refine ⟨_, rfl, ?_, rfl, rfl, rfl, rfl, Nat.le_refl _, fun _ _ _ => rfl⟩
    rw [hqs, e, hn]
    exact own_same HOWN.out fun _ _ => rfl
  have HQ0 : Hid (qs = cptP none ps) := Lib.hid hqs.symm
  have HQE : Hid (cptP none ps = qs) := Lib.hid hqs
  clear hown hps hb hcap hcs ht hn hbase hqs hz hu hl
  by_cases h2 : n < 2
  · have HF : Hid (qs = ps) := Lib.hid (by
      rw [HQ0.out]
      have := HN.out
      match ps, this with
      | [], _ => rfl
      | [x], _ => rfl
      | _ :: _ :: _, h => simp at h; omega)
    have hd : decide ((n : Int) < 2) = true := decide_eq_true (by omega)
    clear h2
    go_enter Tryz.func69, Tryz.ntmps69
    go_wp2
    go_ret
    exact HSAME.out 0 HF.out
  have HST : Hid (qs = ps.take 1 ++ cptP ((ps[0]?).map Prod.snd) (ps.drop 1)) := Lib.hid (by
    rw [HQ0.out]
    have := HN.out
    rcases ps with _ | ⟨x, r⟩
    · simp only [List.length_nil] at this
      omega
    · rfl)
  have hd2 : decide ((n : Int) < 2) = false := decide_eq_false (by omega)
  go_enter Tryz.func69, Tryz.ntmps69
  go_wp2
  go_loopg [5] n (fun g u5 wx => ∃ (j K nq : Nat), K + g = n + 1 ∧ K ≤ n ∧ j + 1 = K ∧ u5 = .int .i64 K ∧ wx = w.drewN nq ∧ Hid (qs = ps.take K ++ cptP ((ps[j]?).map Prod.snd) (ps.drop K)))
  case atStart => exact ⟨0, 1, 0, by omega, by omega, rfl, rfl, rfl, HST⟩
  case round =>
  obtain ⟨j, K, nq, hkg, hKn, hjK, rfl, rfl, hinv⟩ := hrel
  by_cases hk : K < n
  case neg =>
    have HF : Hid (qs = ps) := Lib.hid (by
      rw [hinv.out, List.drop_eq_nil_of_le (by have := HN.out; omega), List.take_of_length_le (by have := HN.out; omega), cptP, List.append_nil])
    have hk2 : decide (K < n) = false := decide_eq_false hk
    clear hinv
    go_wp2
    go_ret
    exact HSAME.out nq HF.out
  obtain ⟨xv, x, hx, _⟩ := pair_at (xs := ps) (j := j) (by have := HN.out; omega)
  obtain ⟨yv, y, hy, ey⟩ := pair_at (xs := ps) (j := K) (by have := HN.out; omega)
  obtain ⟨_, hx1, hxc, _⟩ := own_at (c := Prod.fst) HOWN.out (v := j) (by omega)
  obtain ⟨_, hy1, hyc, _⟩ := own_at (c := Prod.fst) HOWN.out (v := K) hk
  rw [hx] at hx1
  rw [hy] at hy1
  injection hx1 with hx1
  injection hy1 with hy1
  subst hx1 hy1
  have heq := fun nq => lcanon1_any yv xv y x (w.drewN nq) ((HP.out _ (List.mem_of_getElem? hy)).drewN nq) ((HP.out _ (List.mem_of_getElem? hx)).drewN nq)
  obtain ⟨C, hC⟩ : ∃ C, (y == x) = C := ⟨_, rfl⟩
  rw [hC] at heq
  have HEQ := Lib.hid heq
  have HI : Hid (qs = ps.take K ++ (if C = true then cptP (some y) (ps.drop (K + 1)) else (yv, y) :: cptP (some y) (ps.drop (K + 1)))) := Lib.hid (by
    rw [hinv.out, hx, ey, Option.map_some, cptP]
    rw [← hC]
    by_cases e : x = y
    · rw [if_pos (by rw [e]), if_pos (by simp [e])]
    · rw [if_neg (by simpa using e), if_neg (by simpa using fun h => e h.symm)])
  have HY := Lib.hid hy
  have hw1 : IntKind.i64.wrap ((K : Int) - 1) = (j : Int) := by rw [IntWalk.i64_in _ ⟨by omega, by omega⟩]; omega
  have hw2 : ((K : Int) - 1) = (j : Int) := by omega
  have hk3 : decide (K < n) = true := decide_eq_true hk
  have hj0 : (0 : Int) ≤ j := by omega
  have hj1 : (j : Int) < n := by omega
  have hK0 : (0 : Int) ≤ K := by omega
  have hK1 : (K : Int) < n := by omega
  clear hinv hx hy ey heq hC
  rcases bool2 C with rfl | rfl
  case inr =>
    have HF : Hid (qs = ps.take (K + 1) ++ cptP ((ps[K]?).map Prod.snd) (ps.drop (K + 1))) := Lib.hid (by
      rw [HI.out, if_neg (by simp), HY.out, Option.map_some]
      have h := HY.out
      have hlt := (List.getElem?_eq_some_iff.1 h).1
      rw [List.take_succ_eq_append_getElem hlt, List.append_assoc]
      rw [List.getElem?_eq_getElem hlt] at h
      injection h with h
      rw [h]
      rfl)
    clear HI
    go_upto_region 6 with fail
    go_quiet ((go_at_call 70; exact quiet_add (HEQ.out _)))
    go_wp2
    go_roundg (gk - 1)
    case measure => omega
    case rel => exact ⟨K, K + 1, _, by omega, by omega, rfl, by go_num, rfl, HF⟩
  have HQ1 : Hid (qs = ps.take K ++ cptP (some y) (ps.drop (K + 1))) := Lib.hid (by rw [HI.out, if_pos rfl])
  have hm1 : K + 1 ≤ n := by omega
  have HKK := Lib.hid hjK
  clear HI hw1 hw2
  have hw1 : IntKind.i64.wrap ((K : Int) - 1) = (j : Int) := by rw [IntWalk.i64_in _ ⟨by omega, by omega⟩]; omega
  have hw2 : ((K : Int) - 1) = (j : Int) := by omega
  obtain ⟨GK, hGK⟩ : ∃ G, G = gk := ⟨_, rfl⟩
  subst hGK
  go_upto_region 6 with fail
  go_quiet ((go_at_call 70; exact quiet_add (HEQ.out _)))
  obtain ⟨L, hL⟩ : ∃ L, K + L = n := ⟨n - K, by omega⟩
  have hnK : n - K = L := by omega
  go_wp2
  have HO0 : Hid (∀ N, (w.drewN N).ownsRow base 40 1 (.slice (some ⟨b, 0, none⟩) n cap) n (ps.map Prod.fst)) := Lib.hid fun N => own_same HOWN.out fun _ _ => rfl
  have HG0 : Hid (∀ N, w.grownBy (w.drewN N) (some b)) := Lib.hid fun N => ⟨rfl, rfl, rfl, Nat.le_refl _, fun _ _ _ => rfl⟩
  have HQ2 : Hid (qs = ps.take K ++ cptP ((ps[K]?).map Prod.snd) (ps.drop (K + 1))) := Lib.hid (by rw [HQ1.out, HY.out]; rfl)
  clear hxc hyc HQ1 HY HEQ hw1 hw2 HSAME HST HQ0
  clear hnK
  go_loopg [5, 7] L (fun g u5 u7 wx => ∃ (kk k2 m' : Nat) (ds : List (Value × List Int)), k2 + g = L + 1 ∧ k2 ≤ L ∧ 1 ≤ k2 ∧ m' + 1 = K + k2 ∧ kk ≤ m' ∧ u5 = .int .i64 kk ∧ u7 = .int .i64 k2 ∧ Hid (ds.length = n) ∧ Hid (ds.drop kk = ps.drop kk) ∧
    Hid (qs = ds.take kk ++ cptP ((ps[m']?).map Prod.snd) (ps.drop (m' + 1))) ∧ Hid (w.grownBy wx (some b)) ∧ Hid (wx.ownsRow base 40 1 (.slice (some ⟨b, 0, none⟩) n cap) n (ds.map Prod.fst)))
  case atStart => exact ⟨K, 1, K, ps, by omega, by omega, by omega, rfl, Nat.le_refl _, rfl, rfl, HN, Lib.hid rfl, HQ2, Lib.hid (HG0.out _), Lib.hid (HO0.out _)⟩
  case round =>
  clear HQ2 HO0 HG0
  obtain ⟨kk, k2, m', ds, hkg2, hk2L, hk21, hm', hkkm, rfl, rfl, HDL, HDD, HQQ, HG, HO⟩ := hrel
  by_cases hk2 : k2 < L
  case neg =>
    have hk2e : k2 = L := by omega
    have HF : Hid (qs = ds.take kk) := Lib.hid (by
      rw [HQQ.out, List.drop_eq_nil_of_le (by have := HN.out; omega), cptP, List.append_nil])
    have hdl : decide ((k2 : Int) < (L : Int)) = false := decide_eq_false (by omega)
    have hcl : ∀ ty, (Builtin.clear_ #[30] ty #[.slice (some ⟨b, kk, none⟩) (n - kk) (cap - kk)]).run Tryz.prog wr = .ok (.tuple #[]) (wr.setCells b kk (List.replicate (n - kk) (.slice none 0 0))) :=
      fun ty => Lib.run_clear_slice wr _ _ ty _ HU.out HZ.out rfl rfl b kk _ _ (by omega) (fun i hi => by
        obtain ⟨_, _, h, _⟩ := own_at (c := Prod.fst) HO.out (v := kk + i) (by omega)
        rw [h]; rfl) (fun i hi => by
        obtain ⟨_, _, _, h, _⟩ := own_at (c := Prod.fst) HO.out (v := kk + i) (by omega)
        exact h)
    have hkkn : (kk : Int) ≤ n := by omega
    have hkk0 : (0 : Int) ≤ kk := by omega
    have hkkc : kk ≤ cap := by omega
    have hkkn2 : kk ≤ n := by omega
    go_wp2
    go_ret
    obtain ⟨k1, k3⟩ := own_high (List.replicate (n - kk) (.slice none 0 0)) kk wr (Nat.le_refl _) (own_cut HO.out hkkn2)
    have hlq : qs.length = kk := by rw [HF.out, List.length_take, HDL.out]; omega
    refine ⟨_, rfl, ?_, rfl, ?_⟩
    · rw [HQE.out, hlq, HF.out, List.map_take]
      exact k1
    · exact ⟨k3.os.trans HG.out.os, k3.tape.trans HG.out.tape, k3.output.trans HG.out.output, Nat.le_trans HG.out.size k3.size, fun i hi hne => (k3.block i (Nat.lt_of_lt_of_le hi HG.out.size) hne).trans (HG.out.block i hi hne)⟩
  obtain ⟨zv, z, hz, _⟩ := pair_at (xs := ps) (j := m') (by have := HN.out; omega)
  obtain ⟨uv, u, hu, eu⟩ := pair_at (xs := ps) (j := K + k2) (by have := HN.out; omega)
  obtain ⟨_, hz1, hzc, _⟩ := own_at (c := Prod.fst) HO.out (v := m') (by omega)
  obtain ⟨_, hu1, huc, _⟩ := own_at (c := Prod.fst) HO.out (v := K + k2) (by omega)
  rw [drop_of_drop HDD.out hkkm, hz] at hz1
  rw [drop_of_drop HDD.out (by omega), hu] at hu1
  injection hz1 with hz1
  injection hu1 with hu1
  subst hz1 hu1
  have hrd : ∀ p ∈ ps, Ints (fun _ => True) wr p.1 p.2 := fun p hp => ((HP.out p hp).move fun k hk _ => HG.out.block k hk.2 fun e => hk.1 (by injection e with e; rw [e]; rfl)).mono fun _ _ => trivial
  obtain ⟨ua, un, uc, rfl, _, _⟩ := (hrd _ (List.mem_of_getElem? hu)).form'
  have heq0 := lcanon1_any (.slice ua un uc) zv u z wr (hrd _ (List.mem_of_getElem? hu)) (hrd _ (List.mem_of_getElem? hz))
  have heq := fun nq => lcanon1_any (.slice ua un uc) zv u z (wr.drewN nq) ((hrd _ (List.mem_of_getElem? hu)).drewN nq) ((hrd _ (List.mem_of_getElem? hz)).drewN nq)
  obtain ⟨D, hD⟩ : ∃ D, (u == z) = D := ⟨_, rfl⟩
  rw [hD] at heq heq0
  have HEQ2 := Lib.hid heq
  have HEQ0 := Lib.hid heq0
  have hmm : m' + 1 = K + k2 := hm'
  have HI2 : Hid (qs = ds.take kk ++ (if D = true then cptP (some u) (ps.drop (K + k2 + 1)) else (.slice ua un uc, u) :: cptP (some u) (ps.drop (K + k2 + 1)))) := Lib.hid (by
    rw [HQQ.out, hz, hmm, eu, Option.map_some, cptP, ← hD]
    by_cases e : z = u
    · rw [if_pos (by rw [e]), if_pos (by simp [e])]
    · rw [if_neg (by simpa using e), if_neg (by simpa using fun h => e h.symm)])
  have HU2 := Lib.hid hu
  obtain ⟨q, hq⟩ : ∃ q, q + 1 = k2 := ⟨k2 - 1, by omega⟩
  have hmq : m' = K + q := by omega
  rw [hmq] at hzc
  have hv1 : IntKind.i64.wrap ((k2 : Int) - 1) = (q : Int) := by rw [IntWalk.i64_in _ ⟨by omega, by omega⟩]; omega
  have hv2 : ((k2 : Int) - 1) = (q : Int) := by omega
  have hv3 : IntKind.i64.wrap (q : Int) = (q : Int) := IntWalk.i64_in _ ⟨by omega, by omega⟩
  have hdl : decide ((k2 : Int) < (L : Int)) = true := decide_eq_true (by omega)
  have hk20 : (0 : Int) ≤ k2 := by omega
  have hk2b : (k2 : Int) < L := by omega
  have hq0 : (0 : Int) ≤ q := by omega
  have hqb : (q : Int) < L := by omega
  have HMQ := Lib.hid hmq
  have HMM := Lib.hid hmm
  clear hz hu eu hrd heq heq0 hD HQQ hm' hmm hmq
  rcases bool2 D with rfl | rfl
  · have HF : Hid (qs = ds.take kk ++ cptP ((ps[K + k2]?).map Prod.snd) (ps.drop (K + k2 + 1))) := Lib.hid (by rw [HI2.out, if_pos rfl, HU2.out]; rfl)
    clear HI2 HU2
    go_upto_region 11 with fail
    go_quiet ((go_at_call 70; first | exact quiet_add (HEQ2.out _) | exact Calls.quiet_of (HEQ2.out _) | exact Calls.quiet_of HEQ0.out | exact Calls.quiet_of (fun n => HEQ2.out n)))
    go_wp2
    go_roundg (gk - 1)
    case measure => omega
    case rel => exact ⟨kk, k2 + 1, K + k2, ds, by omega, by omega, by omega, rfl, by have := HMM.out; omega, rfl, by go_num, HDL, HDD, HF, Lib.hid (by have h := HG.out; exact ⟨h.os, h.tape, h.output, h.size, h.block⟩), Lib.hid (own_same HO.out fun _ _ => rfl)⟩
  have hkkn : (kk : Int) < n := by have := HMM.out; omega
  have hkkn2 : kk < n := by have := HMM.out; omega
  have hkk0 : (0 : Int) ≤ kk := by omega
  obtain ⟨_, _, hkc, hkz, _, _, hst⟩ := own_at (c := Prod.fst) HO.out (v := kk) hkkn2
  have HST2 := Lib.hid (hst (.slice ua un uc, u))
  have HF : Hid (qs = (ds.set kk (.slice ua un uc, u)).take (kk + 1) ++ cptP ((ps[K + k2]?).map Prod.snd) (ps.drop (K + k2 + 1))) := Lib.hid (by
    have hlt : kk < (ds.set kk (.slice ua un uc, u)).length := by rw [List.length_set, HDL.out]; exact hkkn2
    rw [HI2.out, if_neg (by simp), HU2.out, List.take_succ_eq_append_getElem hlt, List.getElem_set_self, List.take_set_of_le (Nat.le_refl _), List.append_assoc]
    rfl)
  have HDD2 : Hid ((ds.set kk (.slice ua un uc, u)).drop (kk + 1) = ps.drop (kk + 1)) := Lib.hid (by
    rw [List.drop_set_of_lt (by omega), ← List.drop_drop, HDD.out, List.drop_drop])
  clear HI2 HU2 hst HDD
  go_upto_region 11 with fail
  go_quiet ((go_at_call 70; first | exact quiet_add (HEQ2.out _) | exact Calls.quiet_of (HEQ2.out _) | exact Calls.quiet_of HEQ0.out | exact Calls.quiet_of (fun n => HEQ2.out n)))
  go_wp2
  go_roundg (gk - 1)
  case measure => omega
  case rel => exact ⟨kk + 1, k2 + 1, K + k2, ds.set kk (.slice ua un uc, u), by omega, by omega, by omega, rfl, by have := HMM.out; omega, by go_num, by go_num, Lib.hid (by rw [List.length_set]; exact HDL.out), HDD2, HF, Lib.hid (by
      have h := HG.out
      refine ⟨h.os, h.tape, h.output, by simpa using h.size, fun i hi hne => ?_⟩
      exact (Below.heap_setCell wr ⟨b, kk, none⟩ _ i (fun e => hne (by rw [e]))).trans (h.block i hi hne)), Lib.hid (own_same HST2.out fun _ _ => rfl)⟩

/- Laying: SortFunc with the statement's comparer of clauses. No condition but the lengths. -/
open Go.ChangeShapes Go.WideShapes Go.ChangeAt Go.RowKit
set_option linter.unusedVariables false

theorem lsortcls_own (w : World) (base : Nat) (v : Value) (ps : List (Value × List Int)) (hown : w.ownsRow base 40 1 v ps.length (ps.map Prod.fst)) (hps : ∀ p ∈ ps, Ints (fun b => v.ownBlock ≠ some b) w p.1 p.2) (hl : ps.length ≤ 1048576) :
    Calls Tryz.prog 67 #[v, .func (.func 68) #[] #[]] w (SortedRows w base v ps) :=
  sortrows _ (enters_of Tryz.func68 (by kernel_rfl) rfl) (fun v u xs ys w hx hy => lcompare_any v u xs ys w hx hy) w base v ps hown hps hl

/- Walk: the statement's Equal. No condition. -/
open Go.ChangeShapes Go.WideShapes Go.ChangeAt Go.RowKit
set_option linter.unusedVariables false

theorem lequal_any {F G : Nat → Prop} (v u : Value) (xs ys : List (List Int)) (w : World) (hx : Clss F w v xs) (hy : Clss G w u ys) :
    Calls Tryz.prog 35 #[v, u] w (QuietPost w (.bool (xs == ys))) := by
  have H := Lib.hid (equalf_any v u xs ys w hx hy)
  obtain ⟨a, n, c, rfl, _, _⟩ := hx.form'
  obtain ⟨b, m, d, rfl, _, _⟩ := hy.form'
  clear hx hy
  go_enter Tryz.func35, Tryz.ntmps35
  go_wp2_with fail
  refine H.out.mono ?_
  rintro e w1 ⟨rfl, n1, rfl⟩
  go_wp2_with fail
  go_ret
  exact ⟨rfl, _, rfl⟩
end Go.Proofs.YtihkknploioakaaGreat
