/- (Counter seat) Walk: the inner function of CounterProducts; plain: the count of both formulas. No condition but the sizes. -/
import Derived.Test.YthanfjpmcckbhaaGreatDoorZd
import Derived.Test.YthanfjpmcckbhaaGreatDoorYf
namespace Go.Proofs.YthanfjpmcckbhaaGreatDoor
open Go.ChangeShapes Go.WideShapes Go.ChangeAt Go.RowKit
set_option linter.unusedVariables false
set_option linter.unusedSimpArgs false

/-- the moved place of a variable -/
def sM (keep add rest : Int) (v : Int) : Int := if v ≤ keep then v + add else v + rest
/-- a formula that the call owns: the block B, and its clauses behind it -/
def BoO (w : World) (B : Nat) (vs ks : Int) (v : Value) (cs : List (List Int)) : Prop :=
  w.cell? ⟨B, 0, none⟩ = some (.int .i64 vs) ∧ w.cell? ⟨B, 1, none⟩ = some (.int .i64 ks) ∧ w.cell? ⟨B, 2, none⟩ = some v ∧ (∀ o, w.frozen? ⟨B, o, none⟩ = false) ∧
  ∃ us, w.ownsRow (B + 1) 32 1 v cs.length us ∧ us.length = cs.length ∧ ∀ (j : Nat) u c, us[j]? = some u → cs[j]? = some c → Ints (fun b => B < b ∧ v.ownBlock ≠ some b) w u c
theorem BoO.lt {w : World} {B : Nat} {vs ks : Int} {v : Value} {cs : List (List Int)} (h : BoO w B vs ks v cs) : B < w.heap.size := block_lt h.1
theorem BoO.below {w w' : World} {B : Nat} {vs ks : Int} {v : Value} {cs : List (List Int)} (h : BoO w B vs ks v cs) (hb : Below w.heap.size w w') : BoO w' B vs ks v cs := by
  obtain ⟨h0, h1, h2, hf, us, ho, hl, hr⟩ := h
  have hlt := block_lt h0
  exact ⟨below_c hb hlt h0, below_c hb hlt h1, below_c hb hlt h2, fun o => (World.frozen?_of_block (a := ⟨B, o, none⟩) (hb.block B hlt)).trans (hf o), us, own_below ho hb, hl, fun j u c hu hc => (hr j u c hu hc).below hb⟩
theorem BoO.clss {w : World} {B : Nat} {vs ks : Int} {v : Value} {cs : List (List Int)} (h : BoO w B vs ks v cs) (hn : cs.length ≤ 9223372036854775807) : Clss (fun _ => True) w v cs := by
  obtain ⟨_, _, _, _, us, h1, h2, h3⟩ := h
  exact ⟨us, (ownsRow_sl1 h1 hn).mono fun _ _ => trivial, h2, fun j u c hu hc => (h3 j u c hu hc).mono fun _ _ => trivial⟩
theorem BoO.push {w w7 : World} {B g cap n : Nat} {vs ks : Int} {v rv : Value} {acc : List (List Int)} {c : List Int} {us : List Value}
    (h : BoO w B vs ks v acc) (hn : n = acc.length) (h1 : w.ownsRow (B + 1) 32 1 v n us) (h2 : us.length = acc.length) (h3 : ∀ (j : Nat) u c, us[j]? = some u → acc[j]? = some c → Ints (fun b => B < b ∧ v.ownBlock ≠ some b) w u c) (hr : Ints (fun b => B < b ∧ v.ownBlock ≠ some b) w rv c)
    (hown : w7.ownsRow (B + 1) 32 1 (.slice (some ⟨g, 0, none⟩) (n + 1) cap) (n + 1) (us ++ [rv])) (hg : w.grownBy w7 v.ownBlock) (hat : v.ownBlock = some g ∨ w.heap.size ≤ g) :
    BoO (w7.setCell ⟨B, 2, none⟩ (.slice (some ⟨g, 0, none⟩) (n + 1) cap)) B vs ks (.slice (some ⟨g, 0, none⟩) (n + 1) cap) (acc ++ [c]) := by
  subst hn
  obtain ⟨c0, c1, c2, hf, _⟩ := h
  have hlt := block_lt c0
  have hne : some B ≠ v.ownBlock := fun e => by have := (h1.lt B e.symm).1; omega
  have hgB : B + 1 ≤ g := (hown.lt g rfl).1
  have mv : ∀ u m, Ints (fun b => B < b ∧ v.ownBlock ≠ some b) w u m → Ints (fun b => B < b ∧ (Value.slice (some ⟨g, 0, none⟩) (acc.length + 1) cap).ownBlock ≠ some b) (w7.setCell ⟨B, 2, none⟩ (.slice (some ⟨g, 0, none⟩) (acc.length + 1) cap)) u m := by
    intro u m hu
    refine (hu.lt.move (w' := w7.setCell ⟨B, 2, none⟩ (.slice (some ⟨g, 0, none⟩) (acc.length + 1) cap)) fun b hb hlt => ?_).mono fun b hb => ?_
    · have hb1 : B < b := hb.1.1
      exact (Below.heap_setCell _ _ _ _ (show b ≠ B by omega)).trans (hg.block b hlt (fun e => hb.1.2 e.symm))
    · refine ⟨hb.1.1, ?_⟩
      simp only [Value.ownBlock]
      intro e
      injection e with e
      subst e
      rcases hat with h | h
      · exact hb.1.2 h
      · have := hb.2; omega
  refine ⟨set_ne (by omega) (grown_c2 hg hne c0), set_ne (by omega) (grown_c2 hg hne c1), set_eq (grown_c2 hg hne c2), fun o => ?_, us ++ [rv], ?_, by simp [h2], fun j u x hu hx => ?_⟩
  · rw [World.frozen?_setCell]
    exact (World.frozen?_of_block (a := ⟨B, o, none⟩) (hg.block B hlt hne)).trans (hf o)
  · rw [List.length_append]
    refine own_same hown fun b e => Below.heap_setCell _ _ _ _ ?_
    have : g = b := by simpa [Value.ownBlock] using e
    show b ≠ B
    omega
  · rcases Nat.lt_or_ge j us.length with hj | hj
    · rw [List.getElem?_append_left hj] at hu
      rw [List.getElem?_append_left (by omega)] at hx
      exact mv u x (h3 j u x hu hx)
    · rw [List.getElem?_append_right hj] at hu
      rw [List.getElem?_append_right (by omega)] at hx
      rw [h2] at hu
      rcases hk : j - acc.length with _ | k
      · rw [hk] at hu hx
        simp at hu hx
        subst hu hx
        exact mv rv c hr
      · rw [hk] at hu
        simp at hu
theorem mvC_snoc {s : Int → Int} {xs : List (List Int)} {j : Nat} {c : List Int} (h : xs[j]? = some c) : mvC s (xs.take (j + 1)) = mvC s (xs.take j) ++ [c.map (mvL s)] := by
  unfold mvC
  rw [List.take_add_one, h, List.map_append]
  rfl
theorem mvL_b {keep add rest x : Int} (hx : -20000 ≤ x ∧ x ≤ 20000) (ha : 0 ≤ add ∧ add ≤ 20000) (hr : 0 ≤ rest ∧ rest ≤ 20000) : -40000 ≤ mvL (sM keep add rest) x ∧ mvL (sM keep add rest) x ≤ 40000 := by
  unfold mvL sM varM
  split <;> first | omega | (split <;> first | omega | (split <;> omega))
def MovP (w : World) (B : Nat) (vs ks keep add rest : Int) (acc xs : List (List Int)) (e : Ending) (w' : World) : Prop :=
  e = .returned (.tuple #[]) ∧ ∃ v', BoO w' B vs ks v' (acc ++ mvC (sM keep add rest) xs) ∧ Below B w w'
set_option maxRecDepth 100000 in
set_option maxHeartbeats 32000000 in
theorem moved_any (cv : Value) (xs : List (List Int)) (keep add rest : Int) (B : Nat) (vs ks : Int) (v : Value) (acc : List (List Int)) (w : World) (hc : Clss (fun b => b < B) w cv xs) (hb : BoO w B vs ks v acc)
    (ha : 0 ≤ add ∧ add ≤ 20000) (hr : 0 ≤ rest ∧ rest ≤ 20000) (hl : xs.length ≤ 40) (hla : acc.length ≤ 40) (hll : ∀ c ∈ xs, c.length ≤ 14) (hlit : ∀ c ∈ xs, ∀ x ∈ c, x ≠ 0 ∧ -20000 ≤ x ∧ x ≤ 20000) :
    Calls Tryz.prog 27 #[cv, .int .i64 keep, .int .i64 add, .int .i64 rest, .pointer (some ⟨B, 0, none⟩)] w (MovP w B vs ks keep add rest acc xs) := by
  obtain ⟨ca, cn, cc, rfl, HCN, _⟩ := hc.form'
  have hn4 : cn ≤ 40 := by rw [HCN.out]; exact hl
  have HI := Lib.hid (show (Tryz.prog.info? 3).map (fun i => (i.zero, i.size, i.bytes)) = some (some (.int .i64 0), 1, 8) by kernel_rfl)
  have HIS := Lib.hid (show (Tryz.prog.info? 32).map (fun i => (i.zero, i.size, i.bytes)) = some (some (.slice none 0 0), 1, 24) by kernel_rfl)
  obtain ⟨s, hs⟩ : ∃ s, sM keep add rest = s := ⟨_, rfl⟩
  have HSE := Lib.hid hs
  have HC := Lib.hid hc
  have HAB := Lib.hid hb
  have HA := Lib.hid ha
  have HR := Lib.hid hr
  have HLA := Lib.hid hla
  have HLL := Lib.hid hll
  have HLT := Lib.hid hlit
  have HB0 : Hid (Below B w w) := Lib.hid (Below.refl _ _)
  have HC0 : Hid (acc = acc ++ mvC s (xs.take 0)) := Lib.hid (by simp [mvC])
  unfold MovP
  rw [hs]
  clear hs hc hb ha hr hl hla hll hlit
  go_enter Tryz.func27, Tryz.ntmps27
  go_wp2_with fail
  go_loopg [17] cn (fun gg u17 wx => ∃ (j : Nat) (oa : Option Addr) (on oc : Nat) (cs : List (List Int)), j + gg = cn ∧ u17 = .int .i64 j ∧ Hid (cs = acc ++ mvC s (xs.take j)) ∧ Hid (on = cs.length) ∧ Hid (Below B w wx) ∧ Hid (BoO wx B vs ks (.slice oa on oc) cs))
  case atStart =>
    obtain ⟨_, _, _, _, us, ho, _⟩ := HAB.out
    obtain ⟨oa, oc, rfl⟩ := own_form ho
    exact ⟨0, oa, acc.length, oc, acc, by omega, rfl, HC0, Lib.hid rfl, HB0, HAB⟩
  case round =>
  clear HAB HB0 HC0
  obtain ⟨j, oa, on, oc, cs, hjg, rfl, HCS, HON, HB, HBO⟩ := hrel
  by_cases hj : j < cn
  case neg =>
    obtain rfl : cn = j := by omega
    have hdj : decide ((cn : Int) < cn) = false := by simp
    have hdj' : decide (cn < cn) = false := decide_eq_false (by omega)
    have HFIN : Hid (cs = acc ++ mvC s xs) := Lib.hid (by rw [HCS.out, HCN.out, List.take_length])
    go_wp2_with fail
    first | go_end0 | refine bodyPost_ret (results_none rfl _ _ _) rfl ?_
    exact ⟨rfl, _, by rw [← HFIN.out]; exact HBO.out, HB.out⟩
  have hdj : decide ((j : Int) < cn) = true := by simp; omega
  have hdj' : decide (j < cn) = true := decide_eq_true hj
  have hj0 : (0 : Int) ≤ j := by omega
  have hjn : (j : Int) < cn := by omega
  have hon : on ≤ 80 := by
    rw [HON.out, HCS.out]
    unfold mvC
    have := HLA.out
    simp
    omega
  obtain ⟨z, hz⟩ : ∃ z, xs[j]? = some z := ⟨_, List.getElem?_eq_getElem (by rw [← HCN.out]; exact hj)⟩
  have hcw : Clss (fun b => b < B) wr (.slice ca cn cc) xs := Rows1.move (fun _ _ _ _ _ h hm => h.move hm) HC.out fun b hb _ => HB.out.block b hb
  obtain ⟨zb, zo, u1, rfl, hzB, hzb, hc1, hi1⟩ := hcw.at hz
  obtain ⟨za, zn, zc, rfl, HZN, _⟩ := hi1.form'
  have hzm := List.mem_of_getElem? hz
  have hzn : zn ≤ 14 := by rw [HZN.out]; exact HLL.out z hzm
  have HZL : Hid (∀ x ∈ z, x ≠ 0 ∧ -20000 ≤ x ∧ x ≤ 20000) := Lib.hid (HLT.out z hzm)
  have HZ1 := Lib.hid hi1
  have HCX : Hid (cs ++ [z.map (mvL s)] = acc ++ mvC s (xs.take (j + 1))) := Lib.hid (by rw [mvC_snoc hz, HCS.out, List.append_assoc])
  obtain ⟨GJ, hGJ⟩ : ∃ G, G = gk := ⟨_, rfl⟩
  subst hGJ
  obtain ⟨wI, hwI⟩ : ∃ W, W = wr := ⟨_, rfl⟩
  have HP0 : Hid (wI.ownsRow wI.heap.size 3 1 (.slice none 0 0) 0 (((z.take 0).map (mvL s)).map (.int .i64))) := Lib.hid (by simpa using World.ownsRow_nil wI wI.heap.size 3 1)
  have HBI : Hid (Below wI.heap.size wI wI) := Lib.hid (Below.refl _ _)
  rw [← hwI] at HB HBO HZ1 hc1 ⊢
  clear hwI hcw hz hzm hi1 hzb hzB HCS
  go_wp2_with fail
  go_loopg [11, 23] zn (fun gg u11 u23 wx => ∃ (k : Nat) (pa : Option Addr) (pc : Nat), k + gg = zn ∧ u23 = .int .i64 k ∧ u11 = .slice pa k pc ∧ Hid (Below wI.heap.size wI wx) ∧ Hid (wx.ownsRow wI.heap.size 3 1 (.slice pa k pc) k (((z.take k).map (mvL s)).map (.int .i64))))
  case atStart => exact ⟨0, none, 0, by omega, rfl, rfl, HBI, HP0⟩
  case round =>
  clear HP0 HBI
  obtain ⟨k, pa, pc, hkg, rfl, rfl, HBI, HPO⟩ := hrel
  by_cases hk : k < zn
  · have hdk : decide ((k : Int) < zn) = true := by simp; omega
    have hdk' : decide (k < zn) = true := decide_eq_true hk
    have hk0 : (0 : Int) ≤ k := by omega
    have hkn : (k : Int) < zn := by omega
    obtain ⟨x, hx⟩ : ∃ x, z[k]? = some x := ⟨_, List.getElem?_eq_getElem (by rw [← HZN.out]; exact hk)⟩
    have hzr := HZ1.out.lt.below HBI.out
    obtain ⟨xb, xo, rfl, _, hxb, hxc, hx6⟩ := hzr.at hx
    obtain ⟨hx0, hxl, hxh⟩ := HZL.out x (List.mem_of_getElem? hx)
    have hza := HBI.out.size
    have hown := HPO.out
    have ha1 := HA.out
    have hr1 := HR.out
    have hw1 : wrap64 (-x) = -x := by unfold wrap64; omega
    have hmx : max x (-x) = varM x := by unfold varM; split <;> omega
    have hmb : 0 ≤ varM x ∧ varM x ≤ 20000 := by unfold varM; split <;> omega
    go_upto_if 33 with fail
    try rw [hmx]
    obtain ⟨m, hm⟩ : ∃ m, varM x = m := ⟨_, rfl⟩
    rw [hm] at hmb ⊢
    have HMX := Lib.hid hm
    clear hm hmx
    by_cases hle : m ≤ keep <;> by_cases hng : x < 0
    · have hd1 : decide (m ≤ keep) = true := decide_eq_true hle
      have hd2 : decide (x < 0) = true := decide_eq_true hng
      have hwa : wrap64 (m + add) = m + add := by unfold wrap64; omega
      have hwb : wrap64 (-(m + add)) = -(m + add) := by unfold wrap64; omega
      have HY : Hid (((z.take (k + 1)).map (mvL s)).map (Value.int .i64) = ((z.take k).map (mvL s)).map (.int .i64) ++ [.int .i64 (-(m + add))]) := Lib.hid (by
        rw [take_snoc hx, List.map_append, List.map_append]
        have e : mvL s x = -(m + add) := by
          rw [← HSE.out]
          unfold mvL sM
          rw [if_pos hng, HMX.out, if_pos hle]
        rw [List.map_cons, List.map_nil, List.map_cons, List.map_nil, e])
      clear hx hxl hxh hx0
      go_wp2_with (at_builtin; go_loud (refine wpList_push1 rfl _ _ 32 rfl 3 (.int .i64 0) 8 Tryz.underlying32 HI.out rfl wI.heap.size (.slice pa k pc) k (((z.take k).map (mvL s)).map (.int .i64)) wr (.int .i64 (-(m + add))) rfl rfl hown rfl (by omega) (by omega) hza ?_); intro g7 cap7 w7 hown7 hg7 hs7 hgb hgl hat; have HB7 : Hid (Below wI.heap.size wI w7) := Lib.hid (HBI.out.grown hg7 hza (fun k hk => (hown.lt k hk).1)); have HO7 : Hid (w7.ownsRow wI.heap.size 3 1 (.slice (some ⟨g7, 0, none⟩) (k + 1) cap7) (k + 1) (((z.take (k + 1)).map (mvL s)).map (.int .i64))) := Lib.hid (by rw [HY.out]; exact hown7); clear hown7 hg7 hat hown hgb hgl hs7)
      go_roundg (gk - 1)
      case measure => omega
      case rel => exact ⟨k + 1, _, _, by omega, by go_num, rfl, HB7, HO7⟩
    · have hd1 : decide (m ≤ keep) = true := decide_eq_true hle
      have hd2 : decide (x < 0) = false := decide_eq_false hng
      have hwa : wrap64 (m + add) = m + add := by unfold wrap64; omega
      have HY : Hid (((z.take (k + 1)).map (mvL s)).map (Value.int .i64) = ((z.take k).map (mvL s)).map (.int .i64) ++ [.int .i64 (m + add)]) := Lib.hid (by
        rw [take_snoc hx, List.map_append, List.map_append]
        have e : mvL s x = m + add := by
          rw [← HSE.out]
          unfold mvL sM
          rw [if_neg hng, HMX.out, if_pos hle]
        rw [List.map_cons, List.map_nil, List.map_cons, List.map_nil, e])
      clear hx hxl hxh hx0
      go_wp2_with (at_builtin; go_loud (refine wpList_push1 rfl _ _ 32 rfl 3 (.int .i64 0) 8 Tryz.underlying32 HI.out rfl wI.heap.size (.slice pa k pc) k (((z.take k).map (mvL s)).map (.int .i64)) wr (.int .i64 (m + add)) rfl rfl hown rfl (by omega) (by omega) hza ?_); intro g7 cap7 w7 hown7 hg7 hs7 hgb hgl hat; have HB7 : Hid (Below wI.heap.size wI w7) := Lib.hid (HBI.out.grown hg7 hza (fun k hk => (hown.lt k hk).1)); have HO7 : Hid (w7.ownsRow wI.heap.size 3 1 (.slice (some ⟨g7, 0, none⟩) (k + 1) cap7) (k + 1) (((z.take (k + 1)).map (mvL s)).map (.int .i64))) := Lib.hid (by rw [HY.out]; exact hown7); clear hown7 hg7 hat hown hgb hgl hs7)
      go_roundg (gk - 1)
      case measure => omega
      case rel => exact ⟨k + 1, _, _, by omega, by go_num, rfl, HB7, HO7⟩
    · have hd1 : decide (m ≤ keep) = false := decide_eq_false hle
      have hd2 : decide (x < 0) = true := decide_eq_true hng
      have hwa : wrap64 (m + rest) = m + rest := by unfold wrap64; omega
      have hwb : wrap64 (-(m + rest)) = -(m + rest) := by unfold wrap64; omega
      have HY : Hid (((z.take (k + 1)).map (mvL s)).map (Value.int .i64) = ((z.take k).map (mvL s)).map (.int .i64) ++ [.int .i64 (-(m + rest))]) := Lib.hid (by
        rw [take_snoc hx, List.map_append, List.map_append]
        have e : mvL s x = -(m + rest) := by
          rw [← HSE.out]
          unfold mvL sM
          rw [if_pos hng, HMX.out, if_neg hle]
        rw [List.map_cons, List.map_nil, List.map_cons, List.map_nil, e])
      clear hx hxl hxh hx0
      go_wp2_with (at_builtin; go_loud (refine wpList_push1 rfl _ _ 32 rfl 3 (.int .i64 0) 8 Tryz.underlying32 HI.out rfl wI.heap.size (.slice pa k pc) k (((z.take k).map (mvL s)).map (.int .i64)) wr (.int .i64 (-(m + rest))) rfl rfl hown rfl (by omega) (by omega) hza ?_); intro g7 cap7 w7 hown7 hg7 hs7 hgb hgl hat; have HB7 : Hid (Below wI.heap.size wI w7) := Lib.hid (HBI.out.grown hg7 hza (fun k hk => (hown.lt k hk).1)); have HO7 : Hid (w7.ownsRow wI.heap.size 3 1 (.slice (some ⟨g7, 0, none⟩) (k + 1) cap7) (k + 1) (((z.take (k + 1)).map (mvL s)).map (.int .i64))) := Lib.hid (by rw [HY.out]; exact hown7); clear hown7 hg7 hat hown hgb hgl hs7)
      go_roundg (gk - 1)
      case measure => omega
      case rel => exact ⟨k + 1, _, _, by omega, by go_num, rfl, HB7, HO7⟩
    · have hd1 : decide (m ≤ keep) = false := decide_eq_false hle
      have hd2 : decide (x < 0) = false := decide_eq_false hng
      have hwa : wrap64 (m + rest) = m + rest := by unfold wrap64; omega
      have HY : Hid (((z.take (k + 1)).map (mvL s)).map (Value.int .i64) = ((z.take k).map (mvL s)).map (.int .i64) ++ [.int .i64 (m + rest)]) := Lib.hid (by
        rw [take_snoc hx, List.map_append, List.map_append]
        have e : mvL s x = m + rest := by
          rw [← HSE.out]
          unfold mvL sM
          rw [if_neg hng, HMX.out, if_neg hle]
        rw [List.map_cons, List.map_nil, List.map_cons, List.map_nil, e])
      clear hx hxl hxh hx0
      go_wp2_with (at_builtin; go_loud (refine wpList_push1 rfl _ _ 32 rfl 3 (.int .i64 0) 8 Tryz.underlying32 HI.out rfl wI.heap.size (.slice pa k pc) k (((z.take k).map (mvL s)).map (.int .i64)) wr (.int .i64 (m + rest)) rfl rfl hown rfl (by omega) (by omega) hza ?_); intro g7 cap7 w7 hown7 hg7 hs7 hgb hgl hat; have HB7 : Hid (Below wI.heap.size wI w7) := Lib.hid (HBI.out.grown hg7 hza (fun k hk => (hown.lt k hk).1)); have HO7 : Hid (w7.ownsRow wI.heap.size 3 1 (.slice (some ⟨g7, 0, none⟩) (k + 1) cap7) (k + 1) (((z.take (k + 1)).map (mvL s)).map (.int .i64))) := Lib.hid (by rw [HY.out]; exact hown7); clear hown7 hg7 hat hown hgb hgl hs7)
      go_roundg (gk - 1)
      case measure => omega
      case rel => exact ⟨k + 1, _, _, by omega, by go_num, rfl, HB7, HO7⟩
  obtain rfl : zn = k := by omega
  have hdk : decide ((zn : Int) < zn) = false := by simp
  have hdk' : decide (zn < zn) = false := decide_eq_false (by omega)
  have HB6 : Hid (Below B w wr) := Lib.hid (HB.out.trans (HBI.out.mono (by have := HBO.out.lt; omega)))
  have hbo := HBO.out.below HBI.out
  have HBO6 := Lib.hid hbo
  obtain ⟨d0, d1, d2, df, us, ho1, ho2, ho3⟩ := hbo
  have hBl := block_lt d0
  have hf2 := df 2
  have HR6 : Hid (Ints (fun b => B < b ∧ (Value.slice oa on oc).ownBlock ≠ some b) wr (.slice pa zn pc) (z.map (mvL s))) := Lib.hid (by
    have hzl : z.length ≤ 14 := by rw [← HZN.out]; exact hzn
    have h := HPO.out
    rw [HZN.out, List.take_length] at h
    rw [HZN.out]
    obtain ⟨_, _, _, _, us', ho', _⟩ := HBO.out
    exact ⟨(ownsRow_sl1 h (by omega)).mono fun b hb => ⟨by have := HBO.out.lt; have := hb.1; omega, fun e => by
      have h1 := (ho'.lt b e).2
      have h2 := hb.1
      omega⟩, fun y hy => by
      obtain ⟨x, hx, rfl⟩ := List.mem_map.1 hy
      have h1 := HZL.out x hx
      have h2 := mvL_b (keep := keep) (x := x) h1.2 HA.out HR.out
      rw [HSE.out] at h2
      unfold I64
      omega⟩)
  rw [← HON.out] at ho1
  have hown6 := ho1
  have hne : some B ≠ (Value.slice oa on oc).ownBlock := fun e => by have := (ho1.lt B e.symm).1; omega
  have HO2 := Lib.hid ho2
  have HO3 := Lib.hid ho3
  have HNE := Lib.hid hne
  have HDF := Lib.hid df
  clear ho1 ho2 ho3 hne df HPO HBI HB HBO
  go_wp2_with (at_builtin; go_loud (refine wpList_push1 rfl _ _ 22 rfl 32 (.slice none 0 0) 24 Tryz.underlying22 HIS.out rfl (B + 1) (.slice oa on oc) on us wr (.slice pa zn pc) rfl rfl hown6 rfl (by omega) (by omega) hBl ?_); intro g7 cap7 w7 hown7 hg7 hs7 hgb hgl hat; have ef : w7.frozen? ⟨B, 2, none⟩ = false := (World.frozen?_of_block (a := ⟨B, 2, none⟩) (hg7.block B hBl HNE.out)).trans (HDF.out 2); have e2 := grown_c2 hg7 HNE.out d2; have HB7 : Hid (Below B w w7) := Lib.hid (HB6.out.grown hg7 (by omega) (fun k hk => by have := (hown6.lt k hk).1; omega)); have HO7 : Hid (BoO (w7.setCell ⟨B, 2, none⟩ (.slice (some ⟨g7, 0, none⟩) (on + 1) cap7)) B vs ks (.slice (some ⟨g7, 0, none⟩) (on + 1) cap7) (cs ++ [z.map (mvL s)])) := Lib.hid (HBO6.out.push HON.out hown6 HO2.out HO3.out HR6.out hown7 hg7 hat); clear hown7 hg7 hat hown6 hgb hgl hs7)
  have HB8 : Hid (Below B w (w7.setCell ⟨B, 2, none⟩ (.slice (some ⟨g7, 0, none⟩) (on + 1) cap7))) := Lib.hid (HB7.out.setCell (Nat.le_refl _) _)
  go_roundg (GJ - 1)
  case measure => omega
  case rel => exact ⟨j + 1, _, _, _, _, by omega, by go_num, HCX, Lib.hid (by rw [HON.out]; simp), HB8, HO7⟩
end Go.Proofs.YthanfjpmcckbhaaGreatDoor
