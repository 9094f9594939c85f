/- Walk: slices.CompactFunc over a slice of clauses that the call owns, with slices.Equal as the function. No condition but the length. -/
import Derived.Test.YteadlkecngfcoaaGreatKp
import Derived.Test.YteadlkecngfcoaaGreatKa
import Derived.Lib.SliceRun
import Derived.Sort.Row
namespace Go.Proofs.YteadlkecngfcoaaGreat
open Go.ChangeShapes Go.WideShapes Go.ChangeAt Go.RowKit
set_option linter.unusedVariables false

/-- neighbours with equal contents, once: the first of each run -/
def cptP : Option (List Int) → List (Value × List Int) → List (Value × List Int)
  | _, [] => []
  | p, x :: r => if p = some x.2 then cptP (some x.2) r else x :: cptP (some x.2) r
theorem cptP_snd : ∀ (p : Option (List Int)) (l : List (Value × List Int)), (cptP p l).map Prod.snd = cptG p (l.map Prod.snd)
  | _, [] => rfl
  | p, x :: r => by
    rw [cptP, List.map_cons, cptG]
    split
    · exact cptP_snd _ r
    · rw [List.map_cons, cptP_snd]
theorem cptP_mem : ∀ (p : Option (List Int)) (l : List (Value × List Int)), ∀ x ∈ cptP p l, x ∈ l
  | _, [], x, h => h
  | p, y :: r, x, h => by
    rw [cptP] at h
    split at h
    · exact List.mem_cons_of_mem _ (cptP_mem _ r x h)
    · rcases List.mem_cons.1 h with rfl | h
      · exact List.mem_cons_self ..
      · exact List.mem_cons_of_mem _ (cptP_mem _ r x h)
theorem own_form {w : World} {base : Nat} {e : TypeId} {size : Nat} {v : Value} {n : Nat} {xs : List Value} (h : w.ownsRow base e size v n xs) : ∃ a c, v = .slice a n c := by
  rcases h.2 with ⟨rfl, h0⟩ | ⟨g, cap, cur, rfl, _⟩
  · exact ⟨none, 0, by rw [h0]⟩
  · exact ⟨_, _, rfl⟩
theorem own_same {w w' : World} {base : Nat} {e : TypeId} {size : Nat} {v : Value} {n : Nat} {xs : List Value} (h : w.ownsRow base e size v n xs) (hb : ∀ k, v.ownBlock = some k → w'.heap[k]? = w.heap[k]?) : w'.ownsRow base e size v n xs := by
  refine ⟨h.1, ?_⟩
  rcases h.2 with h0 | ⟨g, cap, cur, rfl, e2, e3, e4⟩
  · exact .inl h0
  · exact .inr ⟨g, cap, cur, rfl, e2, (hb g rfl).trans e3, e4⟩
/-- a cut of an owned slice -/
theorem own_cut {w : World} {base : Nat} {e : TypeId} {b n cap k : Nat} {us : List Value} (h : w.ownsRow base e 1 (.slice (some ⟨b, 0, none⟩) n cap) n us) (hk : k ≤ n) :
    w.ownsRow base e 1 (.slice (some ⟨b, 0, none⟩) k cap) k (us.take k) := by
  have h1 := h.1
  rcases h.2 with ⟨h0, _⟩ | ⟨b', cap', cur, hv, hbase, hb, hn, hcap, hcs, ht⟩
  · cases h0
  · cases hv
    refine ⟨by rw [List.length_take]; omega, .inr ⟨b, cap, cur, rfl, hbase, hb, by omega, hcap, hcs, ?_⟩⟩
    rw [← ht, List.take_take, Nat.mul_one, Nat.mul_one, Nat.min_eq_left hk]
/-- what is written behind a cut leaves it -/
theorem own_high {base : Nat} {e : TypeId} {b cap k : Nat} {us : List Value} : ∀ (vs : List Value) (i : Nat) (w : World), k ≤ i → w.ownsRow base e 1 (.slice (some ⟨b, 0, none⟩) k cap) k us →
    (w.setCells b i vs).ownsRow base e 1 (.slice (some ⟨b, 0, none⟩) k cap) k us ∧ w.grownBy (w.setCells b i vs) (some b)
  | [], i, w, _, h => ⟨h, rfl, rfl, rfl, Nat.le_refl _, fun _ _ _ => rfl⟩
  | x :: r, i, w, hi, h => by
    have h1 : (w.setCell ⟨b, i, none⟩ x).ownsRow base e 1 (.slice (some ⟨b, 0, none⟩) k cap) k us := by
      rcases h.2 with ⟨h0, _⟩ | ⟨b', cap', cur, hv, hbase, hb, hn, hcap, hcs, ht⟩
      · cases h0
      · cases hv
        refine ⟨h.1, .inr ⟨b, cap, cur.setIfInBounds i x, rfl, hbase, ?_, hn, hcap, by simpa using hcs, ?_⟩⟩
        · rw [Sort.setCell_eq]
          simp [Sort.mapBlock, Array.getElem?_modify, hb, Sort.onCells]
        · rw [← ht, Nat.mul_one]
          apply List.ext_getElem?
          intro j
          by_cases hj : j < k
          · rw [List.getElem?_take_of_lt hj, List.getElem?_take_of_lt hj, Array.getElem?_toList, Array.getElem?_toList, Array.getElem?_setIfInBounds, if_neg (by omega)]
          · rw [List.getElem?_take_eq_none (by omega), List.getElem?_take_eq_none (by omega)]
    obtain ⟨h2, h3⟩ := own_high r (i + 1) (w.setCell ⟨b, i, none⟩ x) (by omega) h1
    refine ⟨h2, h3.os, h3.tape, h3.output, ?_, fun j hj hne => ?_⟩
    · exact Nat.le_trans (by simp) h3.size
    · rw [World.setCells, h3.block j (by simpa using hj) hne]
      exact Below.heap_setCell w ⟨b, i, none⟩ x j (fun e => hne (by rw [e]))

/-- what CompactFunc leaves -/
def CptPost (W : World) (base : Nat) (v : Value) (ps : List (Value × List Int)) (r : Ending) (w' : World) : Prop :=
  ∃ v', r = .returned v' ∧ w'.ownsRow base 22 1 v' (cptP none ps).length ((cptP none ps).map Prod.fst) ∧ v'.ownBlock = v.ownBlock ∧ W.grownBy w' v.ownBlock
theorem pair_at {xs : List (Value × List Int)} {j : Nat} (h : j < xs.length) : ∃ u x, xs[j]? = some (u, x) ∧ xs.drop j = (u, x) :: xs.drop (j + 1) := by
  obtain ⟨⟨u, x⟩, h1, h2⟩ := drop_at h
  exact ⟨u, x, h1, h2⟩
theorem drop_of_drop {α : Type} {a b : List α} {k j : Nat} (h : a.drop k = b.drop k) (hj : k ≤ j) : a[j]? = b[j]? := by
  have h1 := congrArg (fun l => l[j - k]?) h
  simp only [List.getElem?_drop] at h1
  rwa [show k + (j - k) = j by omega] at h1
set_option maxRecDepth 100000 in
set_option maxHeartbeats 4000000 in
theorem compactf_any (w : World) (base : Nat) (v : Value) (ps : List (Value × List Int)) (hown : w.ownsRow base 22 1 v ps.length (ps.map Prod.fst)) (hps : ∀ p ∈ ps, Ints (fun b => v.ownBlock ≠ some b) w p.1 p.2) (hl : ps.length ≤ 1048576) :
    Calls Tryz.prog 48 #[v, .func (.func 28) #[] #[]] w (CptPost w base v ps) := by
  obtain ⟨n, hn⟩ : ∃ n, ps.length = n := ⟨_, rfl⟩
  have HN := Lib.hid hn
  rw [hn] at hown
  have HOWN := Lib.hid hown
  obtain ⟨qs, hqs⟩ : ∃ q, cptP none ps = q := ⟨_, rfl⟩
  have HP : Hid (∀ p ∈ ps, Ints (fun b => v.ownBlock ≠ some b ∧ b < w.heap.size) w p.1 p.2) := Lib.hid fun p hp => (hps p hp).lt
  rcases hown.2 with ⟨rfl, h0⟩ | ⟨b, cap, cur, rfl, hbase, hb, hnc, hcap, hcs, ht⟩
  · have hps0 : ps = [] := List.eq_nil_of_length_eq_zero (by omega)
    have HF : Hid (CptPost w base (.slice none 0 0) ps (.returned (.slice none 0 0)) w) := Lib.hid (by
      subst hps0
      exact ⟨_, rfl, World.ownsRow_nil _ _ _ _, rfl, ⟨rfl, rfl, rfl, Nat.le_refl _, fun _ _ _ => rfl⟩⟩)
    clear hown hps hn hqs hps0 h0 HP HOWN
    go_enter Tryz.func48, Tryz.ntmps48
    go_wp2
    go_ret
    exact HF.out
  have hbw : b < w.heap.size := (Array.getElem?_eq_some_iff.1 hb).1
  have HB := Lib.hid hbase
  have hcap2 : cap ≤ 9223372036854775807 := by unfold maxLen at hcap; omega
  have hn2 : n ≤ 1048576 := by omega
  have hz := Tryz.zeroValue22
  have hu := Tryz.underlying29
  have HZ := Lib.hid hz
  have HU := Lib.hid hu
  have HSAME : Hid (∀ nq, qs = ps → CptPost w base (.slice (some ⟨b, 0, none⟩) n cap) ps (.returned (.slice (some ⟨b, 0, none⟩) n cap)) (w.drewN nq)) := Lib.hid fun nq e => by
    refine ⟨_, rfl, ?_, rfl, rfl, rfl, rfl, Nat.le_refl _, fun _ _ _ => rfl⟩
    rw [hqs, e, hn]
    exact own_same HOWN.out fun _ _ => rfl
  have HQ0 : Hid (qs = cptP none ps) := Lib.hid hqs.symm
  have HQE : Hid (cptP none ps = qs) := Lib.hid hqs
  clear hown hps hb hcap hcs ht hn hbase hqs hz hu hl
  by_cases h2 : n < 2
  · have HF : Hid (qs = ps) := Lib.hid (by
      rw [HQ0.out]
      have := HN.out
      match ps, this with
      | [], _ => rfl
      | [x], _ => rfl
      | _ :: _ :: _, h => simp at h; omega)
    have hd : decide ((n : Int) < 2) = true := decide_eq_true (by omega)
    clear h2
    go_enter Tryz.func48, Tryz.ntmps48
    go_wp2
    go_ret
    exact HSAME.out 0 HF.out
  have HST : Hid (qs = ps.take 1 ++ cptP ((ps[0]?).map Prod.snd) (ps.drop 1)) := Lib.hid (by
    rw [HQ0.out]
    have := HN.out
    rcases ps with _ | ⟨x, r⟩
    · simp only [List.length_nil] at this
      omega
    · rfl)
  have hd2 : decide ((n : Int) < 2) = false := decide_eq_false (by omega)
  go_enter Tryz.func48, Tryz.ntmps48
  go_wp2
  go_loopg [5] n (fun g u5 wx => ∃ (j K nq : Nat), K + g = n + 1 ∧ K ≤ n ∧ j + 1 = K ∧ u5 = .int .i64 K ∧ wx = w.drewN nq ∧ Hid (qs = ps.take K ++ cptP ((ps[j]?).map Prod.snd) (ps.drop K)))
  case atStart => exact ⟨0, 1, 0, by omega, by omega, rfl, rfl, rfl, HST⟩
  case round =>
  obtain ⟨j, K, nq, hkg, hKn, hjK, rfl, rfl, hinv⟩ := hrel
  by_cases hk : K < n
  case neg =>
    have HF : Hid (qs = ps) := Lib.hid (by
      rw [hinv.out, List.drop_eq_nil_of_le (by have := HN.out; omega), List.take_of_length_le (by have := HN.out; omega), cptP, List.append_nil])
    have hk2 : decide (K < n) = false := decide_eq_false hk
    clear hinv
    go_wp2
    go_ret
    exact HSAME.out nq HF.out
  obtain ⟨xv, x, hx, _⟩ := pair_at (xs := ps) (j := j) (by have := HN.out; omega)
  obtain ⟨yv, y, hy, ey⟩ := pair_at (xs := ps) (j := K) (by have := HN.out; omega)
  obtain ⟨_, hx1, hxc, _⟩ := own_at (c := Prod.fst) HOWN.out (v := j) (by omega)
  obtain ⟨_, hy1, hyc, _⟩ := own_at (c := Prod.fst) HOWN.out (v := K) hk
  rw [hx] at hx1
  rw [hy] at hy1
  injection hx1 with hx1
  injection hy1 with hy1
  subst hx1 hy1
  have heq := fun nq => equal_any yv xv y x (w.drewN nq) ((HP.out _ (List.mem_of_getElem? hy)).drewN nq) ((HP.out _ (List.mem_of_getElem? hx)).drewN nq)
  obtain ⟨C, hC⟩ : ∃ C, (y == x) = C := ⟨_, rfl⟩
  rw [hC] at heq
  have HEQ := Lib.hid heq
  have HI : Hid (qs = ps.take K ++ (if C = true then cptP (some y) (ps.drop (K + 1)) else (yv, y) :: cptP (some y) (ps.drop (K + 1)))) := Lib.hid (by
    rw [hinv.out, hx, ey, Option.map_some, cptP]
    rw [← hC]
    by_cases e : x = y
    · rw [if_pos (by rw [e]), if_pos (by simp [e])]
    · rw [if_neg (by simpa using e), if_neg (by simpa using fun h => e h.symm)])
  have HY := Lib.hid hy
  have hw1 : IntKind.i64.wrap ((K : Int) - 1) = (j : Int) := by rw [IntWalk.i64_in _ ⟨by omega, by omega⟩]; omega
  have hw2 : ((K : Int) - 1) = (j : Int) := by omega
  have hk3 : decide (K < n) = true := decide_eq_true hk
  have hj0 : (0 : Int) ≤ j := by omega
  have hj1 : (j : Int) < n := by omega
  have hK0 : (0 : Int) ≤ K := by omega
  have hK1 : (K : Int) < n := by omega
  clear hinv hx hy ey heq hC
  rcases bool2 C with rfl | rfl
  case inr =>
    have HF : Hid (qs = ps.take (K + 1) ++ cptP ((ps[K]?).map Prod.snd) (ps.drop (K + 1))) := Lib.hid (by
      rw [HI.out, if_neg (by simp), HY.out, Option.map_some]
      have h := HY.out
      have hlt := (List.getElem?_eq_some_iff.1 h).1
      rw [List.take_succ_eq_append_getElem hlt, List.append_assoc]
      rw [List.getElem?_eq_getElem hlt] at h
      injection h with h
      rw [h]
      rfl)
    clear HI
    go_upto_region 6 with fail
    go_quiet ((go_at_call 28; exact quiet_add (HEQ.out _)))
    go_wp2
    go_roundg (gk - 1)
    case measure => omega
    case rel => exact ⟨K, K + 1, _, by omega, by omega, rfl, by go_num, rfl, HF⟩
  have HQ1 : Hid (qs = ps.take K ++ cptP (some y) (ps.drop (K + 1))) := Lib.hid (by rw [HI.out, if_pos rfl])
  have hm1 : K + 1 ≤ n := by omega
  have HKK := Lib.hid hjK
  clear HI hw1 hw2
  have hw1 : IntKind.i64.wrap ((K : Int) - 1) = (j : Int) := by rw [IntWalk.i64_in _ ⟨by omega, by omega⟩]; omega
  have hw2 : ((K : Int) - 1) = (j : Int) := by omega
  obtain ⟨GK, hGK⟩ : ∃ G, G = gk := ⟨_, rfl⟩
  subst hGK
  go_upto_region 6 with fail
  go_quiet ((go_at_call 28; exact quiet_add (HEQ.out _)))
  obtain ⟨L, hL⟩ : ∃ L, K + L = n := ⟨n - K, by omega⟩
  have hnK : n - K = L := by omega
  go_wp2
  have HO0 : Hid (∀ N, (w.drewN N).ownsRow base 22 1 (.slice (some ⟨b, 0, none⟩) n cap) n (ps.map Prod.fst)) := Lib.hid fun N => own_same HOWN.out fun _ _ => rfl
  have HG0 : Hid (∀ N, w.grownBy (w.drewN N) (some b)) := Lib.hid fun N => ⟨rfl, rfl, rfl, Nat.le_refl _, fun _ _ _ => rfl⟩
  have HQ2 : Hid (qs = ps.take K ++ cptP ((ps[K]?).map Prod.snd) (ps.drop (K + 1))) := Lib.hid (by rw [HQ1.out, HY.out]; rfl)
  clear hxc hyc HQ1 HY HEQ hw1 hw2 HSAME HST HQ0
  clear hnK
  go_loopg [5, 7] L (fun g u5 u7 wx => ∃ (kk k2 m' : Nat) (ds : List (Value × List Int)), k2 + g = L + 1 ∧ k2 ≤ L ∧ 1 ≤ k2 ∧ m' + 1 = K + k2 ∧ kk ≤ m' ∧ u5 = .int .i64 kk ∧ u7 = .int .i64 k2 ∧ Hid (ds.length = n) ∧ Hid (ds.drop kk = ps.drop kk) ∧
    Hid (qs = ds.take kk ++ cptP ((ps[m']?).map Prod.snd) (ps.drop (m' + 1))) ∧ Hid (w.grownBy wx (some b)) ∧ Hid (wx.ownsRow base 22 1 (.slice (some ⟨b, 0, none⟩) n cap) n (ds.map Prod.fst)))
  case atStart => exact ⟨K, 1, K, ps, by omega, by omega, by omega, rfl, Nat.le_refl _, rfl, rfl, HN, Lib.hid rfl, HQ2, Lib.hid (HG0.out _), Lib.hid (HO0.out _)⟩
  case round =>
  clear HQ2 HO0 HG0
  obtain ⟨kk, k2, m', ds, hkg2, hk2L, hk21, hm', hkkm, rfl, rfl, HDL, HDD, HQQ, HG, HO⟩ := hrel
  by_cases hk2 : k2 < L
  case neg =>
    have hk2e : k2 = L := by omega
    have HF : Hid (qs = ds.take kk) := Lib.hid (by
      rw [HQQ.out, List.drop_eq_nil_of_le (by have := HN.out; omega), cptP, List.append_nil])
    have hdl : decide ((k2 : Int) < (L : Int)) = false := decide_eq_false (by omega)
    have hcl : ∀ ty, (Builtin.clear_ #[29] ty #[.slice (some ⟨b, kk, none⟩) (n - kk) (cap - kk)]).run Tryz.prog wr = .ok (.tuple #[]) (wr.setCells b kk (List.replicate (n - kk) (.slice none 0 0))) :=
      fun ty => Lib.run_clear_slice wr _ _ ty _ HU.out HZ.out rfl rfl b kk _ _ (by omega) (fun i hi => by
        obtain ⟨_, _, h, _⟩ := own_at (c := Prod.fst) HO.out (v := kk + i) (by omega)
        rw [h]; rfl) (fun i hi => by
        obtain ⟨_, _, _, h, _⟩ := own_at (c := Prod.fst) HO.out (v := kk + i) (by omega)
        exact h)
    have hkkn : (kk : Int) ≤ n := by omega
    have hkk0 : (0 : Int) ≤ kk := by omega
    have hkkc : kk ≤ cap := by omega
    have hkkn2 : kk ≤ n := by omega
    go_wp2
    go_ret
    obtain ⟨k1, k3⟩ := own_high (List.replicate (n - kk) (.slice none 0 0)) kk wr (Nat.le_refl _) (own_cut HO.out hkkn2)
    have hlq : qs.length = kk := by rw [HF.out, List.length_take, HDL.out]; omega
    refine ⟨_, rfl, ?_, rfl, ?_⟩
    · rw [HQE.out, hlq, HF.out, List.map_take]
      exact k1
    · exact ⟨k3.os.trans HG.out.os, k3.tape.trans HG.out.tape, k3.output.trans HG.out.output, Nat.le_trans HG.out.size k3.size, fun i hi hne => (k3.block i (Nat.lt_of_lt_of_le hi HG.out.size) hne).trans (HG.out.block i hi hne)⟩
  obtain ⟨zv, z, hz, _⟩ := pair_at (xs := ps) (j := m') (by have := HN.out; omega)
  obtain ⟨uv, u, hu, eu⟩ := pair_at (xs := ps) (j := K + k2) (by have := HN.out; omega)
  obtain ⟨_, hz1, hzc, _⟩ := own_at (c := Prod.fst) HO.out (v := m') (by omega)
  obtain ⟨_, hu1, huc, _⟩ := own_at (c := Prod.fst) HO.out (v := K + k2) (by omega)
  rw [drop_of_drop HDD.out hkkm, hz] at hz1
  rw [drop_of_drop HDD.out (by omega), hu] at hu1
  injection hz1 with hz1
  injection hu1 with hu1
  subst hz1 hu1
  have hrd : ∀ p ∈ ps, Ints (fun _ => True) wr p.1 p.2 := fun p hp => ((HP.out p hp).move fun k hk _ => HG.out.block k hk.2 fun e => hk.1 (by injection e with e; rw [e]; rfl)).mono fun _ _ => trivial
  obtain ⟨ua, un, uc, rfl, _, _⟩ := (hrd _ (List.mem_of_getElem? hu)).form'
  have heq0 := equal_any (.slice ua un uc) zv u z wr (hrd _ (List.mem_of_getElem? hu)) (hrd _ (List.mem_of_getElem? hz))
  have heq := fun nq => equal_any (.slice ua un uc) zv u z (wr.drewN nq) ((hrd _ (List.mem_of_getElem? hu)).drewN nq) ((hrd _ (List.mem_of_getElem? hz)).drewN nq)
  obtain ⟨D, hD⟩ : ∃ D, (u == z) = D := ⟨_, rfl⟩
  rw [hD] at heq heq0
  have HEQ2 := Lib.hid heq
  have HEQ0 := Lib.hid heq0
  have hmm : m' + 1 = K + k2 := hm'
  have HI2 : Hid (qs = ds.take kk ++ (if D = true then cptP (some u) (ps.drop (K + k2 + 1)) else (.slice ua un uc, u) :: cptP (some u) (ps.drop (K + k2 + 1)))) := Lib.hid (by
    rw [HQQ.out, hz, hmm, eu, Option.map_some, cptP, ← hD]
    by_cases e : z = u
    · rw [if_pos (by rw [e]), if_pos (by simp [e])]
    · rw [if_neg (by simpa using e), if_neg (by simpa using fun h => e h.symm)])
  have HU2 := Lib.hid hu
  obtain ⟨q, hq⟩ : ∃ q, q + 1 = k2 := ⟨k2 - 1, by omega⟩
  have hmq : m' = K + q := by omega
  rw [hmq] at hzc
  have hv1 : IntKind.i64.wrap ((k2 : Int) - 1) = (q : Int) := by rw [IntWalk.i64_in _ ⟨by omega, by omega⟩]; omega
  have hv2 : ((k2 : Int) - 1) = (q : Int) := by omega
  have hv3 : IntKind.i64.wrap (q : Int) = (q : Int) := IntWalk.i64_in _ ⟨by omega, by omega⟩
  have hdl : decide ((k2 : Int) < (L : Int)) = true := decide_eq_true (by omega)
  have hk20 : (0 : Int) ≤ k2 := by omega
  have hk2b : (k2 : Int) < L := by omega
  have hq0 : (0 : Int) ≤ q := by omega
  have hqb : (q : Int) < L := by omega
  have HMQ := Lib.hid hmq
  have HMM := Lib.hid hmm
  clear hz hu eu hrd heq heq0 hD HQQ hm' hmm hmq
  rcases bool2 D with rfl | rfl
  · have HF : Hid (qs = ds.take kk ++ cptP ((ps[K + k2]?).map Prod.snd) (ps.drop (K + k2 + 1))) := Lib.hid (by rw [HI2.out, if_pos rfl, HU2.out]; rfl)
    clear HI2 HU2
    go_upto_region 11 with fail
    go_quiet ((go_at_call 28; first | exact quiet_add (HEQ2.out _) | exact Calls.quiet_of (HEQ2.out _) | exact Calls.quiet_of HEQ0.out | exact Calls.quiet_of (fun n => HEQ2.out n)))
    go_wp2
    go_roundg (gk - 1)
    case measure => omega
    case rel => exact ⟨kk, k2 + 1, K + k2, ds, by omega, by omega, by omega, rfl, by have := HMM.out; omega, rfl, by go_num, HDL, HDD, HF, Lib.hid (by have h := HG.out; exact ⟨h.os, h.tape, h.output, h.size, h.block⟩), Lib.hid (own_same HO.out fun _ _ => rfl)⟩
  have hkkn : (kk : Int) < n := by have := HMM.out; omega
  have hkkn2 : kk < n := by have := HMM.out; omega
  have hkk0 : (0 : Int) ≤ kk := by omega
  obtain ⟨_, _, hkc, hkz, _, _, hst⟩ := own_at (c := Prod.fst) HO.out (v := kk) hkkn2
  have HST2 := Lib.hid (hst (.slice ua un uc, u))
  have HF : Hid (qs = (ds.set kk (.slice ua un uc, u)).take (kk + 1) ++ cptP ((ps[K + k2]?).map Prod.snd) (ps.drop (K + k2 + 1))) := Lib.hid (by
    have hlt : kk < (ds.set kk (.slice ua un uc, u)).length := by rw [List.length_set, HDL.out]; exact hkkn2
    rw [HI2.out, if_neg (by simp), HU2.out, List.take_succ_eq_append_getElem hlt, List.getElem_set_self, List.take_set_of_le (Nat.le_refl _), List.append_assoc]
    rfl)
  have HDD2 : Hid ((ds.set kk (.slice ua un uc, u)).drop (kk + 1) = ps.drop (kk + 1)) := Lib.hid (by
    rw [List.drop_set_of_lt (by omega), ← List.drop_drop, HDD.out, List.drop_drop])
  clear HI2 HU2 hst HDD
  go_upto_region 11 with fail
  go_quiet ((go_at_call 28; first | exact quiet_add (HEQ2.out _) | exact Calls.quiet_of (HEQ2.out _) | exact Calls.quiet_of HEQ0.out | exact Calls.quiet_of (fun n => HEQ2.out n)))
  go_wp2
  go_roundg (gk - 1)
  case measure => omega
  case rel => exact ⟨kk + 1, k2 + 1, K + k2, ds.set kk (.slice ua un uc, u), by omega, by omega, by omega, rfl, by have := HMM.out; omega, by go_num, by go_num, Lib.hid (by rw [List.length_set]; exact HDL.out), HDD2, HF, Lib.hid (by
      have h := HG.out
      refine ⟨h.os, h.tape, h.output, by simpa using h.size, fun i hi hne => ?_⟩
      exact (Below.heap_setCell wr ⟨b, kk, none⟩ _ i (fun e => hne (by rw [e]))).trans (h.block i hi hne)), Lib.hid (own_same HST2.out fun _ _ => rfl)⟩
end Go.Proofs.YteadlkecngfcoaaGreat
