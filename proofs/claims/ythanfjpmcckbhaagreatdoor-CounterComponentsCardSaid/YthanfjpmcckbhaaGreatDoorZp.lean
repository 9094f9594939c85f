/- (Counter seat) Walk: components of the statements. No condition but the sizes. -/
import Derived.Test.YthanfjpmcckbhaaGreatDoorZo
import Derived.Deep.RegionHeld3
namespace Go.Proofs.YthanfjpmcckbhaaGreatDoor
open Go.ChangeShapes Go.WideShapes Go.ChangeAt Go.RowKit
set_option linter.unusedVariables false
set_option linter.unusedSimpArgs false

/-- a slice of clauses that the call owns; its rows lie elsewhere -/
def RowsX (w : World) (base : Nat) (v : Value) (cs : List (List Int)) : Prop :=
  ∃ us, w.ownsRow base 32 1 v cs.length us ∧ us.length = cs.length ∧ ∀ (j : Nat) u c, us[j]? = some u → cs[j]? = some c → Ints (fun b => v.ownBlock ≠ some b) w u c
theorem RowsX.below {w w' : World} {p : Nat} {v : Value} {ls : List (List Int)} (h : RowsX w p v ls) (hb : Below w.heap.size w w') : RowsX w' p v ls := by
  obtain ⟨us, h1, h2, h3⟩ := h
  exact ⟨us, own_below h1 hb, h2, fun j u c hu hc => (h3 j u c hu hc).below hb⟩
theorem RowsX.clss {w : World} {p : Nat} {v : Value} {ls : List (List Int)} (h : RowsX w p v ls) (hn : ls.length ≤ 9223372036854775807) : Clss (fun _ => True) w v ls := by
  obtain ⟨us, h1, h2, h3⟩ := h
  exact ⟨us, (ownsRow_sl1 h1 hn).mono fun _ _ => trivial, h2, fun j u c hu hc => (h3 j u c hu hc).mono fun _ _ => trivial⟩
theorem RowsX.push {w w' : World} {base g cap n : Nat} {v rv : Value} {ls : List (List Int)} {c : List Int} {us : List Value}
    (hn : n = ls.length) (h2 : us.length = ls.length) (h3 : ∀ (j : Nat) u c, us[j]? = some u → ls[j]? = some c → Ints (fun b => v.ownBlock ≠ some b) w u c) (hr : Ints (fun b => v.ownBlock ≠ some b) w rv c)
    (hown : w'.ownsRow base 32 1 (.slice (some ⟨g, 0, none⟩) (n + 1) cap) (n + 1) (us ++ [rv])) (hg : w.grownBy w' v.ownBlock) (hat : v.ownBlock = some g ∨ w.heap.size ≤ g) :
    RowsX w' base (.slice (some ⟨g, 0, none⟩) (n + 1) cap) (ls ++ [c]) := by
  subst hn
  have mv : ∀ u m, Ints (fun b => v.ownBlock ≠ some b) w u m → Ints (fun b => (Value.slice (some ⟨g, 0, none⟩) (ls.length + 1) cap).ownBlock ≠ some b) w' u m := by
    intro u m hu
    refine (hu.lt.move (w' := w') fun b hb hlt => hg.block b hlt (fun e => hb.1 e.symm)).mono fun b hb => ?_
    simp only [Value.ownBlock]
    intro e
    injection e with e
    subst e
    rcases hat with h | h
    · exact hb.1 h
    · omega
  refine ⟨_, by rw [List.length_append]; exact hown, by simp [h2], fun j u x hu hx => ?_⟩
  rcases Nat.lt_or_ge j us.length with hj | hj
  · rw [List.getElem?_append_left hj] at hu
    rw [List.getElem?_append_left (by omega)] at hx
    exact mv u x (h3 j u x hu hx)
  · rw [List.getElem?_append_right hj] at hu
    rw [List.getElem?_append_right (by omega)] at hx
    rw [h2] at hu
    rcases hk : j - ls.length with _ | k
    · rw [hk] at hu hx
      simp at hu hx
      subst hu hx
      exact mv rv c hr
    · rw [hk] at hu
      simp at hu
/-! ### plain -/
theorem range_drop {n k : Nat} (h : k < n) : (List.range n).drop k = k :: (List.range n).drop (k + 1) := by
  have h1 : (List.range n)[k]? = some k := List.getElem?_range h
  obtain ⟨h2, e⟩ := List.getElem?_eq_some_iff.1 h1
  rw [List.drop_eq_getElem_cons h2, e]
theorem range_drop_end {n : Nat} : (List.range n).drop n = [] := List.drop_eq_nil_of_le (by simp)
/-- the parts of the roots before i -/
def prtI (f : Nat → Nat) (n i : Nat) : List (List Int) := (rootsTo f i).map fun r => ((List.range n).filter fun k => f k == r).map Int.ofNat
theorem prtI_all (f : Nat → Nat) (n : Nat) : prtI f n n = grpI f n := by
  unfold prtI grpI grpTo
  rw [List.map_map]
  rfl
theorem prtI_len (f : Nat → Nat) (n i : Nat) : (prtI f n i).length ≤ i := by
  unfold prtI
  rw [List.length_map]
  exact rootsTo_le f i
theorem prtI_succ (f : Nat → Nat) (n i : Nat) : prtI f n (i + 1) = prtI f n i ++ if f i = i then [((List.range n).filter fun k => f k == i).map Int.ofNat] else [] := by
  unfold prtI
  rw [rootsTo_succ, List.map_append]
  split <;> simp
/-- the numbers before k of the root i -/
def prtK (f : Nat → Nat) (i k : Nat) : List Int := ((List.range k).filter fun q => f q == i).map Int.ofNat
theorem prtK_succ (f : Nat → Nat) (i k : Nat) : prtK f i (k + 1) = prtK f i k ++ if f k = i then [(k : Int)] else [] := by
  unfold prtK
  rw [List.range_succ, List.filter_append, List.map_append]
  congr 1
  by_cases h : f k = i <;> simp [h]
theorem prtK_le (f : Nat → Nat) (i k : Nat) : (prtK f i k).length ≤ k := by
  unfold prtK
  rw [List.length_map]
  have := List.length_filter_le (fun q => f q == i) (List.range k)
  simpa using this
theorem prtK_i64 {f : Nat → Nat} {i k : Nat} (hk : k ≤ 4000) : ∀ x ∈ prtK f i k, I64 x := fun x hx => by
  obtain ⟨q, hq, rfl⟩ := List.mem_map.1 hx
  have := List.mem_range.1 (List.mem_filter.1 hq).1
  show I64 (q : Int)
  unfold I64
  omega
theorem prtI_next (f : Nat → Nat) (n i : Nat) : prtI f n (i + 1) = prtI f n i ++ if f i = i then [prtK f i n] else [] := prtI_succ f n i
/-- a number is a root if and only if its part is not empty -/
theorem part_iff {f : Nat → Nat} {n i : Nat} (hi : i < n) (hid : ∀ k, k < n → f (f k) = f k) : 0 < ((List.range n).filter fun k => f k == i).length ↔ f i = i := by
  constructor
  · intro h
    obtain ⟨k, hk⟩ := List.exists_mem_of_length_pos h
    obtain ⟨h1, h2⟩ := List.mem_filter.1 hk
    have h2 : f k = i := by simpa using h2
    rw [← h2]
    exact hid k (List.mem_range.1 h1)
  · intro h
    exact List.length_pos_of_mem (a := i) (List.mem_filter.2 ⟨List.mem_range.2 hi, by simpa using h⟩)
def LComp (W : World) (cs : List (List Int)) (e : Ending) (w' : World) : Prop :=
  ∃ v, e = .returned v ∧ Clss (fun _ => True) w' v (grpI (fun i => (leastL (connB cs) cs.length).getD i 0) cs.length) ∧ Below W.heap.size W w'
/-- the row of least numbers in memory -/
def LstO (w : World) (B gb n : Nat) (ms : List Nat) : Prop := w.ownsRow B 3 1 (.slice (some ⟨gb, 0, none⟩) n n) n (ms.map fun k : Nat => .int .i64 (k : Int))
section lsto
variable {w w' : World} {B gb n : Nat} {ms : List Nat}
theorem LstO.lt (h : LstO w B gb n ms) : gb < w.heap.size := (World.ownsRow.lt h gb rfl).2
theorem LstO.below (h : LstO w B gb n ms) (hb : Below w.heap.size w w') : LstO w' B gb n ms := own_below h hb
theorem LstO.grown {row : Option Nat} (h : LstO w B gb n ms) (hg : w.grownBy w' row) (hne : some gb ≠ row) : LstO w' B gb n ms := World.ownsRow.kept h hg (.inr hne)
theorem LstO.cell (h : LstO w B gb n ms) {j : Nat} (hj : j < n) : w.cell? ⟨gb, j, none⟩ = some (.int .i64 (ms.getD j 0 : Nat)) := by
  obtain ⟨x, h1, h2, _⟩ := own_at (fun k : Nat => Value.int .i64 (k : Int)) h hj
  rw [List.getD_eq_getElem?_getD, h1]
  exact h2
theorem LstO.set (h : LstO w B gb n ms) {v : Nat} (hv : v < n) (u : Nat) : LstO (w.setCell ⟨gb, v, none⟩ (.int .i64 (u : Int))) B gb n (ms.set v u) := by
  obtain ⟨x, _, _, _, _, _, h2⟩ := own_at (fun k : Nat => Value.int .i64 (k : Int)) h hv
  exact h2 u
theorem LstO.free (h : LstO w B gb n ms) {v : Nat} (hv : v < n) : w.frozen? ⟨gb, v, none⟩ = false := by
  obtain ⟨x, _, _, h2, _⟩ := own_at (fun k : Nat => Value.int .i64 (k : Int)) h hv
  exact h2
end lsto
set_option maxRecDepth 100000 in
set_option maxHeartbeats 32000000 in
theorem lcomponents_any (F : Nat → Prop) (lv : Value) (cs : List (List Int)) (w : World) (hc : Clss F w lv cs) (hl : cs.length ≤ 4000) :
    Calls Tryz.prog 22 #[lv] w (LComp w cs) := by
  obtain ⟨ca, cn, cc, rfl, HCN, _⟩ := hc.form'
  obtain ⟨s, hs⟩ : ∃ s, w.heap.size = s := ⟨_, rfl⟩
  have hinfo : (Tryz.prog.info? 3).map (fun i => (i.zero, i.size, i.bytes)) = some (some (.int .i64 0), 1, 8) := by kernel_rfl
  obtain ⟨i0, g1, g2, g3, g4⟩ := info_parts hinfo
  have G1 := Lib.hid g1
  have G2 := Lib.hid g2
  have G3 := Lib.hid g3
  have G4 := Lib.hid g4
  have HI := Lib.hid hinfo
  have HIS := Lib.hid (show (Tryz.prog.info? 32).map (fun i => (i.zero, i.size, i.bytes)) = some (some (.slice none 0 0), 1, 24) by kernel_rfl)
  have hn4 : cn ≤ 4000 := by rw [HCN.out]; exact hl
  have HC := Lib.hid (clss_lt hc)
  have HSZ := Lib.hid hs
  clear hc hl hs hinfo g1 g2 g3 g4
  go_enter Tryz.func22, Tryz.ntmps22
  go_upto_region 2 with (at_make; refine wpList_make_full _ rfl _ _ 32 rfl w.heap.size 3 i0 (.int .i64 0) 1 Tryz.underlying32 G1.out G2.out G3.out .i64 .i64 _ _ cn rfl rfl (by simp) (by simp) (by rw [G4.out]; omega) (by unfold maxLen; omega) (by simp) ?_; intro w1 hown1 hg1)
  have HLO1 : Hid (LstO w1 s s cn (List.range 0 ++ List.replicate (cn - 0) 0)) := Lib.hid (by
    rw [made_nats, HSZ.out] at hown1
    exact hown1)
  have HB1 : Hid (Below s w w1) := Lib.hid (by rw [← HSZ.out]; exact (Below.refl _ _).grown hg1 (Nat.le_refl _) (by intro k hk; cases hk))
  rw [HSZ.out]
  clear hown1 hg1
  go_wp2_with fail
  go_loopg [16] cn (fun gg u16 wx => ∃ k : Nat, k + gg = cn ∧ u16 = .int .i64 k ∧ Hid (Below s w wx) ∧ Hid (LstO wx s s cn (List.range k ++ List.replicate (cn - k) 0)))
  case atStart => exact ⟨0, by omega, rfl, HB1, HLO1⟩
  case round =>
  clear HLO1 HB1
  obtain ⟨k, hkg, rfl, HB, HLO⟩ := hrel
  by_cases hk : k < cn
  · have hdk : decide ((k : Int) < cn) = true := by simp; omega
    have hdk' : decide (k < cn) = true := decide_eq_true hk
    have hk0 : (0 : Int) ≤ k := by omega
    have hkn : (k : Int) < cn := by omega
    have hqf := HLO.out.free hk
    have hqc := HLO.out.cell hk
    have HL2 : Hid (LstO (wr.setCell ⟨s, k, none⟩ (.int .i64 (k : Int))) s s cn (List.range (k + 1) ++ List.replicate (cn - (k + 1)) 0)) := Lib.hid (by rw [← set_range hk]; exact HLO.out.set hk k)
    have HB3 : Hid (Below s w (wr.setCell ⟨s, k, none⟩ (.int .i64 (k : Int)))) := Lib.hid (HB.out.setCell (by simp) _)
    clear HLO HB
    go_wp2_with fail
    go_roundg (gk - 1)
    case measure => omega
    case rel => exact ⟨k + 1, by omega, by go_num, HB3, HL2⟩
  obtain rfl : cn = k := by omega
  have hdk : decide ((cn : Int) < cn) = false := by simp
  have hdk' : decide (cn < cn) = false := decide_eq_false (by omega)
  rw [Nat.sub_self, List.replicate_zero, List.append_nil] at HLO
  obtain ⟨R, hR⟩ : ∃ R, leastL (connB cs) cn = R := ⟨_, rfl⟩
  have HR0 : Hid (passesL (connB cs) cn cn (List.range cn) = R) := Lib.hid hR
  have HRR := Lib.hid hR
  clear hk hkg hR
  go_wp2_with fail
  go_loopg [26] cn (fun gg u26 wx => ∃ (p : Nat) (ms : List Nat), p + gg = cn ∧ u26 = .int .i64 p ∧ Hid (Below s w wx) ∧ Hid (LstO wx s s cn ms) ∧ Hid (passesL (connB cs) cn gg ms = R))
  case atStart => exact ⟨0, _, by omega, rfl, HB, HLO, HR0⟩
  case round =>
  clear HLO HB HR0
  obtain ⟨p, ms, hpg, rfl, HB, HLO, HR⟩ := hrel
  by_cases hp : p < cn
  · have hdp : decide ((p : Int) < cn) = true := by simp; omega
    have hdp' : decide (p < cn) = true := decide_eq_true hp
    obtain ⟨GP, hGP⟩ : ∃ G, G = gk := ⟨_, rfl⟩
    subst hGP
    obtain ⟨q, hq⟩ : ∃ q, GP = q + 1 := ⟨GP - 1, by omega⟩
    subst hq
    obtain ⟨R3, hR3⟩ : ∃ R, passL (connB cs) cn (List.range cn) ms = R := ⟨_, rfl⟩
    have HR3 : Hid (passL (connB cs) cn ((List.range cn).drop 0) ms = R3) := Lib.hid hR3
    have HRP : Hid (passesL (connB cs) cn q R3 = R) := Lib.hid (by rw [← hR3]; exact HR.out)
    clear hR3 HR
    go_wp2_with fail
    go_loopg [30] cn (fun gg u30 wx => ∃ (i : Nat) (ms : List Nat), i + gg = cn ∧ u30 = .int .i64 i ∧ Hid (Below s w wx) ∧ Hid (LstO wx s s cn ms) ∧ Hid (passL (connB cs) cn ((List.range cn).drop i) ms = R3))
    case atStart => exact ⟨0, _, by omega, rfl, HB, HLO, HR3⟩
    case round =>
    clear HLO HB HR3 ms
    obtain ⟨i, ms, hig, rfl, HB, HLO, HR⟩ := hrel
    by_cases hi : i < cn
    · have hdi : decide ((i : Int) < cn) = true := by simp; omega
      have hdi' : decide (i < cn) = true := decide_eq_true hi
      obtain ⟨GI, hGI⟩ : ∃ G, G = gk := ⟨_, rfl⟩
      subst hGI
      obtain ⟨R4, hR4⟩ : ∃ R, inL (connB cs) i (List.range cn) ms = R := ⟨_, rfl⟩
      have HR4 : Hid (inL (connB cs) i ((List.range cn).drop 0) ms = R4) := Lib.hid hR4
      have HRI : Hid (passL (connB cs) cn ((List.range cn).drop (i + 1)) R4 = R3) := Lib.hid (by
        have h := HR.out
        rw [range_drop hi, passL, hR4] at h
        exact h)
      clear hR4 HR
      go_wp2_with fail
      go_loopg [35] cn (fun gg u35 wx => ∃ (k : Nat) (ms : List Nat), k + gg = cn ∧ u35 = .int .i64 k ∧ Hid (Below s w wx) ∧ Hid (LstO wx s s cn ms) ∧ Hid (inL (connB cs) i ((List.range cn).drop k) ms = R4))
      case atStart => exact ⟨0, _, by omega, rfl, HB, HLO, HR4⟩
      case round =>
      clear HLO HB HR4 ms
      obtain ⟨k, ms, hkg, rfl, HB, HLO, HR⟩ := hrel
      by_cases hk : k < cn
      · have hdk : decide ((k : Int) < cn) = true := by simp; omega
        have hdk' : decide (k < cn) = true := decide_eq_true hk
        have hxi := HLO.out.cell hi
        have hxk := HLO.out.cell hk
        have hxf := HLO.out.free hi
        have hgb := HLO.out.lt
        obtain ⟨a, ha⟩ : ∃ a, ms.getD k 0 = a := ⟨_, rfl⟩
        obtain ⟨b, hb⟩ : ∃ b, ms.getD i 0 = b := ⟨_, rfl⟩
        have hr := HR.out
        rw [range_drop hk, inL] at hr
        unfold stepL at hr
        rw [ha, hb] at hr
        rw [ha] at hxk
        rw [hb] at hxi
        have hcw : Clss (fun b => b < s) wr (.slice ca cn cc) cs := Rows1.move (fun _ _ _ _ _ h hm => h.move hm) (Rows1.mono (fun _ _ _ _ _ h hg => h.mono hg) HC.out fun b hb => by rw [← HSZ.out]; exact hb) fun b hb _ => HB.out.block b hb
        obtain ⟨x1, hx1⟩ : ∃ x, cs[i]? = some x := ⟨_, List.getElem?_eq_getElem (by rw [← HCN.out]; exact hi)⟩
        obtain ⟨x2, hx2⟩ : ∃ x, cs[k]? = some x := ⟨_, List.getElem?_eq_getElem (by rw [← HCN.out]; exact hk)⟩
        obtain ⟨zb, zo, u1, rfl, _, hzb, hc1, hi1⟩ := hcw.at hx1
        obtain ⟨_, _, u2, hae, _, _, hc2, hi2⟩ := hcw.at hx2
        injection hae with hae
        injection hae with hae1 hae2
        subst hae1 hae2
        obtain ⟨a1, n1, q1, rfl, _, _⟩ := hi1.form'
        obtain ⟨a2, n2, q2, rfl, _, _⟩ := hi2.form'
        have hS : connB cs i k = x1.any fun x => x2.any fun y => varM x == varM y := by
          unfold connB
          rw [List.getD_eq_getElem?_getD, List.getD_eq_getElem?_getD, hx1, hx2]
          rfl
        rw [hS] at hr
        have HI1 := Lib.hid hi1
        have HI2 := Lib.hid hi2
        have hi0 : (0 : Int) ≤ i := by omega
        have hin : (i : Int) < cn := by omega
        have hk0 : (0 : Int) ≤ k := by omega
        have hkn : (k : Int) < cn := by omega
        clear hcw hx1 hx2 hi1 hi2 ha hb hS
        by_cases hab : a < b
        · have hda : decide ((a : Int) < b) = true := decide_eq_true (by omega)
          have hda' : decide (a < b) = true := decide_eq_true hab
          rw [hda', Bool.true_and] at hr
          obtain ⟨E, hE⟩ : ∃ E, (x1.any fun x => x2.any fun y => varM x == varM y) = E := ⟨_, rfl⟩
          rw [hE] at hr
          have HCN1 : Hid (∀ W, Below wr.heap.size wr W → Calls Tryz.prog 44 #[.slice a1 n1 q1, .slice a2 n2 q2] W (BoolPost W E)) := Lib.hid fun W hW => by
            have h := connected_any _ _ _ _ x1 x2 W (HI1.out.below hW) (HI2.out.below hW)
            rw [hE] at h
            exact h
          have HDR : Hid (Below wr.heap.size wr wr.drew) := Lib.hid (Below.refl _ _).drew
          have HRH := Lib.hid hr
          clear hE hr hab
          go_upto_region 15 with fail
          go_region_held3 (fun w' => w'.cell? ⟨s, k, none⟩ = some (.int .i64 (a : Int)) ∧ w'.cell? ⟨s, i, none⟩ = some (.int .i64 (b : Int)) ∧ w'.cell? ⟨zb, zo + i, none⟩ = some (.slice a1 n1 q1) ∧ w'.cell? ⟨zb, zo + k, none⟩ = some (.slice a2 n2 q2))
            (first | exact ⟨hxk, hxi, hc1, hc2⟩ | exact ⟨t0, t1, t2, t3⟩ | go_keep)
            (first
              | (go_at_call 44; (with_reducible refine (HCN1.out _ HDR.out).mono ?_); rintro e w5 ⟨rfl, hb5⟩; have HB5 := Lib.hid (HDR.out.trans (hb5.mono HDR.out.size)); have t0 := below_c HB5.out hgb hxk; have t1 := below_c HB5.out hgb hxi; have t2 := below_c HB5.out hzb hc1; have t3 := below_c HB5.out hzb hc2; clear hb5)
              | fail)
          have HLO5 := Lib.hid (HLO.out.below HB5.out)
          have HBW5 : Hid (Below s w w5) := Lib.hid (HB.out.trans (HB5.out.mono (by have := HB.out.size; have := HSZ.out; omega)))
          have tf := HLO5.out.free hi
          clear hxi hxk hxf hc1 hc2 t2 t3
          rcases bool2 E with rfl | rfl
          · have HRN : Hid (inL (connB cs) i ((List.range cn).drop (k + 1)) (ms.set i a) = R4) := Lib.hid (by have h := HRH.out; rw [if_pos rfl] at h; exact h)
            have HLN : Hid (LstO (w5.setCell ⟨s, i, none⟩ (.int .i64 (a : Int))) s s cn (ms.set i a)) := Lib.hid (HLO5.out.set hi a)
            have HBN : Hid (Below s w (w5.setCell ⟨s, i, none⟩ (.int .i64 (a : Int)))) := Lib.hid (HBW5.out.setCell (by simp) _)
            clear HRH HLO5 HBW5 HLO HB HCN1 HDR
            go_wp2_with fail
            go_roundg (gk - 1)
            case measure => omega
            case rel => exact ⟨k + 1, ms.set i a, by omega, by go_num, HBN, HLN, HRN⟩
          · have HRN : Hid (inL (connB cs) i ((List.range cn).drop (k + 1)) ms = R4) := Lib.hid (by have h := HRH.out; rw [if_neg (by simp)] at h; exact h)
            clear HRH HLO HB HCN1 HDR
            go_wp2_with fail
            go_roundg (gk - 1)
            case measure => omega
            case rel => exact ⟨k + 1, ms, by omega, by go_num, HBW5, HLO5, HRN⟩
        · have hda : decide ((a : Int) < b) = false := decide_eq_false (by omega)
          have hda' : decide (a < b) = false := decide_eq_false hab
          rw [hda', Bool.false_and, if_neg (by simp)] at hr
          have HRN := Lib.hid hr
          clear hr hab
          go_upto_region 15 with fail
          go_quiet (fail)
          go_wp2_with fail
          have HBN : Hid (Below s w (wr.drewN nq)) := Lib.hid (below_drewN HB.out _)
          have HLN : Hid (LstO (wr.drewN nq) s s cn ms) := Lib.hid (HLO.out.below (below_drewN (Below.refl _ _) _))
          go_roundg (gk - 1)
          case measure => omega
          case rel => exact ⟨k + 1, ms, by omega, by go_num, HBN, HLN, HRN⟩
      · obtain rfl : cn = k := by omega
        have hdk : decide ((cn : Int) < cn) = false := by simp
        have hdk' : decide (cn < cn) = false := decide_eq_false (by omega)
        have hms : ms = R4 := by have h := HR.out; rw [range_drop_end, inL] at h; exact h
        subst hms
        go_wp2_with fail
        go_roundg (GI - 1)
        case measure => omega
        case rel => exact ⟨i + 1, ms, by omega, by go_num, HB, HLO, HRI⟩
    · obtain rfl : cn = i := by omega
      have hdi : decide ((cn : Int) < cn) = false := by simp
      have hdi' : decide (cn < cn) = false := decide_eq_false (by omega)
      have hms : ms = R3 := by have h := HR.out; rw [range_drop_end, passL] at h; exact h
      subst hms
      go_wp2_with fail
      go_roundg q
      case measure => omega
      case rel => exact ⟨p + 1, ms, by omega, by go_num, HB, HLO, HRP⟩
  obtain rfl : cn = p := by omega
  have hdp : decide ((cn : Int) < cn) = false := by simp
  have hdp' : decide (cn < cn) = false := decide_eq_false (by omega)
  have hg0 : gk = 0 := by omega
  subst hg0
  have hms : ms = R := HR.out
  subst hms
  obtain ⟨f, hf⟩ : ∃ f : Nat → Nat, (fun i => ms.getD i 0) = f := ⟨_, rfl⟩
  have hgrp : grpI f cn = grpI (fun i => (leastL (connB cs) cs.length).getD i 0) cs.length := by
    rw [← hf, ← HRR.out, HCN.out]
  have hroot : Roots cs.length (Rel (connB cs) cs.length) f := by
    rw [← hf, ← HRR.out, HCN.out]
    exact leastL_roots (connB_sym cs)
  have hidem : ∀ k, k < cn → f (f k) = f k := fun k hk => (hroot.const (rel_within _ _) (hroot.conn k (by rw [← HCN.out]; exact hk))).symm
  have HGR := Lib.hid hgrp
  have HID := Lib.hid hidem
  have HF : Hid (∀ k, ms.getD k 0 = f k) := Lib.hid fun k => by rw [← hf]
  obtain ⟨wT, hwT⟩ : ∃ W, W = wr := ⟨_, rfl⟩
  have hz0 : s + 1 ≤ wr.heap.size := HLO.out.lt
  have HOO : Hid (RowsX wr (s + 1) (.slice none 0 0) (prtI f cn 0)) := Lib.hid ⟨[], World.ownsRow_nil _ _ _ _, rfl, by simp⟩
  have HZ0 := Lib.hid hz0
  clear hf hgrp hroot hidem hwT HRR HR hp hpg hz0
  go_wp2_with fail
  go_loopg [7, 70] cn (fun gg u7 u70 wx => ∃ (i : Nat) (oa : Option Addr) (on oc : Nat), i + gg = cn ∧ u70 = .int .i64 i ∧ u7 = .slice oa on oc ∧ Hid (on = (prtI f cn i).length) ∧ Hid (Below s w wx) ∧ Hid (LstO wx s s cn ms) ∧ Hid (RowsX wx (s + 1) (.slice oa on oc) (prtI f cn i)) ∧ Hid (s + 1 ≤ wx.heap.size))
  case atStart => exact ⟨0, none, 0, 0, by omega, rfl, rfl, Lib.hid rfl, HB, HLO, HOO, HZ0⟩
  case round =>
  clear HLO HB HOO HZ0
  obtain ⟨i, oa, on, oc, hig, rfl, rfl, HON, HB, HLO, HOO, HZ⟩ := hrel
  by_cases hi : i < cn
  case neg =>
    obtain rfl : cn = i := by omega
    have hdi : decide ((cn : Int) < cn) = false := by simp
    have hdi' : decide (cn < cn) = false := decide_eq_false (by omega)
    have hcl : Clss (fun _ => True) wr (.slice oa on oc) (prtI f cn cn) := HOO.out.clss (by have := prtI_len f cn cn; omega)
    rw [prtI_all, HGR.out] at hcl
    have HCL := Lib.hid hcl
    clear hcl
    go_wp2_with fail
    go_ret
    exact ⟨_, rfl, HCL.out, by rw [HSZ.out]; exact HB.out⟩
  have hdi : decide ((i : Int) < cn) = true := by simp; omega
  have hdi' : decide (i < cn) = true := decide_eq_true hi
  have hon : on ≤ 4000 := by rw [HON.out]; have := prtI_len f cn i; omega
  obtain ⟨GI, hGI⟩ : ∃ G, G = gk := ⟨_, rfl⟩
  subst hGI
  obtain ⟨wI, hwI⟩ : ∃ W, W = wr := ⟨_, rfl⟩
  have HP0 : Hid (wI.ownsRow wI.heap.size 3 1 (.slice none 0 0) 0 ((prtK f i 0).map (.int .i64))) := Lib.hid (World.ownsRow_nil _ _ _ _)
  have HBI : Hid (Below wI.heap.size wI wI) := Lib.hid (Below.refl _ _)
  rw [← hwI] at HB HLO HOO HZ ⊢
  clear hwI
  go_wp2_with fail
  go_loopg [9, 75] cn (fun gg u9 u75 wx => ∃ (k : Nat) (pa : Option Addr) (pn pc : Nat), k + gg = cn ∧ u75 = .int .i64 k ∧ u9 = .slice pa pn pc ∧ Hid (pn = (prtK f i k).length) ∧ Hid (Below wI.heap.size wI wx) ∧ Hid (wx.ownsRow wI.heap.size 3 1 (.slice pa pn pc) pn ((prtK f i k).map (.int .i64))))
  case atStart => exact ⟨0, none, 0, 0, by omega, rfl, rfl, Lib.hid rfl, HBI, HP0⟩
  case round =>
  clear HP0 HBI
  obtain ⟨k, pa, pn, pc, hkg, rfl, rfl, HPN, HBI, HPO⟩ := hrel
  have hpn : pn ≤ 4000 := by rw [HPN.out]; have := prtK_le f i k; omega
  by_cases hk : k < cn
  · have hdk : decide ((k : Int) < cn) = true := by simp; omega
    have hdk' : decide (k < cn) = true := decide_eq_true hk
    have hk0 : (0 : Int) ≤ k := by omega
    have hkn : (k : Int) < cn := by omega
    have hlo := HLO.out.below HBI.out
    have hxk := hlo.cell hk
    rw [HF.out k] at hxk
    have hz := HBI.out.size
    obtain ⟨a, ha⟩ : ∃ a, f k = a := ⟨_, rfl⟩
    rw [ha] at hxk
    by_cases hai : a = i
    · subst hai
      have hda : ((a : Int) == (a : Int)) = true := by simp
      have HPX : Hid (prtK f a (k + 1) = prtK f a k ++ [(k : Int)]) := Lib.hid (by rw [prtK_succ, if_pos ha])
      have hown := HPO.out
      clear hlo ha HPO
      go_wp2_with (at_builtin; go_loud (refine wpList_push1 rfl _ _ 32 rfl 3 (.int .i64 0) 8 Tryz.underlying32 HI.out rfl wI.heap.size (.slice pa pn pc) pn ((prtK f a k).map (.int .i64)) wr (.int .i64 (k : Int)) rfl rfl hown rfl (by omega) (by omega) hz ?_); intro g7 cap7 w7 hown7 hg7 hs7 hgb hgl hat; have HB7 : Hid (Below wI.heap.size wI w7) := Lib.hid (HBI.out.grown hg7 hz (fun k hk => (hown.lt k hk).1)); have HO7 := Lib.hid hown7; clear hown7 hg7 hat hown)
      go_roundg (gk - 1)
      case measure => omega
      case rel => exact ⟨k + 1, _, _, _, by omega, by go_num, rfl, Lib.hid (by rw [HPX.out, HPN.out]; simp), HB7, Lib.hid (by rw [HPX.out, List.map_append]; exact HO7.out)⟩
    · have hda : ((a : Int) == (i : Int)) = false := by simp; omega
      have HPX : Hid (prtK f i (k + 1) = prtK f i k) := Lib.hid (by rw [prtK_succ, ha, if_neg hai, List.append_nil])
      clear hlo ha
      go_wp2_with fail
      go_roundg (gk - 1)
      case measure => omega
      case rel => exact ⟨k + 1, _, _, _, by omega, by go_num, rfl, Lib.hid (by rw [HPX.out]; exact HPN.out), HBI, Lib.hid (by rw [HPX.out]; exact HPO.out)⟩
  obtain rfl : cn = k := by omega
  have hdk : decide ((cn : Int) < cn) = false := by simp
  have hdk' : decide (cn < cn) = false := decide_eq_false (by omega)
  have hpi : 0 < pn ↔ f i = i := by
    rw [HPN.out]
    unfold prtK
    rw [List.length_map]
    exact part_iff hi HID.out
  have HB6 : Hid (Below s w wr) := Lib.hid (HB.out.trans (HBI.out.mono (by have := HZ.out; omega)))
  have HL6 : Hid (LstO wr s s cn ms) := Lib.hid (HLO.out.below HBI.out)
  have HO6 : Hid (RowsX wr (s + 1) (.slice oa on oc) (prtI f cn i)) := Lib.hid (HOO.out.below HBI.out)
  have HZ6 : Hid (s + 1 ≤ wr.heap.size) := Lib.hid (Nat.le_trans HZ.out HBI.out.size)
  by_cases hp0 : 0 < pn
  · have hdp : decide ((0 : Int) < pn) = true := decide_eq_true (by omega)
    have hdp' : decide (0 < pn) = true := decide_eq_true hp0
    have HPX : Hid (prtI f cn (i + 1) = prtI f cn i ++ [prtK f i cn]) := Lib.hid (by rw [prtI_next, if_pos (hpi.1 hp0)])
    obtain ⟨us, ho1, ho2, ho3⟩ := HO6.out
    have hown6 := ho1
    rw [← HON.out] at hown6
    have HR6 : Hid (Ints (fun b => (Value.slice oa on oc).ownBlock ≠ some b) wr (.slice pa pn pc) (prtK f i cn)) := Lib.hid ⟨(ownsRow_sl1 HPO.out (by omega)).mono fun b hb e => by
      obtain ⟨us, ho1, _⟩ := HOO.out
      have h1 := (ho1.lt b e).2
      have h2 := hb.1
      omega, prtK_i64 (by omega)⟩
    have HO2 := Lib.hid ho2
    have HO3 := Lib.hid ho3
    have hz6 := HZ6.out
    clear HPO HLO HOO HB HBI ho1 ho2 ho3 HO6 hpi
    go_wp2_with (at_builtin; go_loud (refine wpList_push1 rfl _ _ 22 rfl 32 (.slice none 0 0) 24 Tryz.underlying22 HIS.out rfl (s + 1) (.slice oa on oc) on us wr (.slice pa pn pc) rfl rfl hown6 rfl (by omega) (by omega) hz6 ?_); intro g7 cap7 w7 hown7 hg7 hs7 hgb hgl hat; have HB7 : Hid (Below s w w7) := Lib.hid (HB6.out.grown hg7 (by omega) (fun k hk => by have := (hown6.lt k hk).1; omega)); have HL7 : Hid (LstO w7 s s cn ms) := Lib.hid (HL6.out.grown hg7 (fun e => by have := (hown6.lt s e.symm).1; omega)); have HO7 : Hid (RowsX w7 (s + 1) (.slice (some ⟨g7, 0, none⟩) (on + 1) cap7) (prtI f cn (i + 1))) := Lib.hid (by rw [HPX.out]; exact RowsX.push HON.out HO2.out HO3.out HR6.out hown7 hg7 hat); have HZ7 : Hid (s + 1 ≤ w7.heap.size) := Lib.hid (by omega); clear hown7 hg7 hat hown6)
    go_roundg (GI - 1)
    case measure => omega
    case rel => exact ⟨i + 1, _, _, _, by omega, by go_num, rfl, Lib.hid (by rw [HPX.out, HON.out]; simp), HB7, HL7, HO7, HZ7⟩
  · have hdp : decide ((0 : Int) < pn) = false := decide_eq_false (by omega)
    have hdp' : decide (0 < pn) = false := decide_eq_false hp0
    have HPX : Hid (prtI f cn (i + 1) = prtI f cn i) := Lib.hid (by rw [prtI_next, if_neg (fun h => hp0 (hpi.2 h)), List.append_nil])
    clear HPO HLO HOO HB HBI hpi
    go_wp2_with fail
    go_roundg (GI - 1)
    case measure => omega
    case rel => exact ⟨i + 1, _, _, _, by omega, by go_num, rfl, Lib.hid (by rw [HPX.out]; exact HON.out), HB6, HL6, Lib.hid (by rw [HPX.out]; exact HO6.out), HZ6⟩
end Go.Proofs.YthanfjpmcckbhaaGreatDoor
