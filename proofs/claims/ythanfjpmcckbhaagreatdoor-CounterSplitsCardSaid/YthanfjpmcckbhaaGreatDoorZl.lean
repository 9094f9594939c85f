/- (Counter seat) Walks: slices.Clone of clauses; with, of the statements; plain: the count with literals as clauses. No condition but the sizes. -/
import Derived.Test.YthanfjpmcckbhaaGreatDoorZg
namespace Go.Proofs.YthanfjpmcckbhaaGreatDoor
open Go.ChangeShapes Go.WideShapes Go.ChangeAt Go.RowKit
set_option linter.unusedVariables false
set_option linter.unusedSimpArgs false

/-- a slice of clauses that the call owns; the rows themselves lie where F says -/
def RowsO (F : Nat → Prop) (w : World) (base : Nat) (v : Value) (n : Nat) (cs : List (List Int)) : Prop :=
  ∃ us, w.ownsRow base 32 1 v n us ∧ us.length = cs.length ∧ ∀ (j : Nat) u c, us[j]? = some u → cs[j]? = some c → Ints F w u c
def ClonePost (F : Nat → Prop) (W : World) (cs : List (List Int)) (e : Ending) (w' : World) : Prop :=
  ∃ v, e = .returned v ∧ RowsO F w' W.heap.size v cs.length cs ∧ Below W.heap.size W w'

set_option maxRecDepth 100000 in
set_option maxHeartbeats 1000000 in
theorem clones_any (F : Nat → Prop) (v : Value) (cs : List (List Int)) (w : World) (hx : Clss F w v cs) (hl : cs.length ≤ 1048576) :
    Calls Tryz.prog 26 #[v] w (ClonePost F w cs) := by
  obtain ⟨a, n, c, rfl, HN, hn⟩ := hx.form'
  have hu := Tryz.underlying22
  have hinfo : (Tryz.prog.info? 32).map (fun i => (i.zero, i.size, i.bytes)) = some (some (.slice none 0 0), 1, 24) := by kernel_rfl
  have HI := Lib.hid hinfo
  have HX := Lib.hid hx
  have hnil := fun (w : World) => Lib.run_eql_slice_nil w 22 32 a n c 0 0 hu
  have hn2 : n ≤ 1048576 := by rw [HN.out]; exact hl
  clear hinfo hx
  rcases a with _ | ad
  · simp only [Option.isNone_none] at hnil
    go_enter Tryz.func26, Tryz.ntmps26
    go_wp2
    go_ret
    have h0 : cs = [] := by
      rcases cs with _ | ⟨u, r⟩
      · rfl
      · obtain ⟨_, _, _, he, _⟩ := HX.out.at (k := 0) (x := u) rfl
        cases he
    subst h0
    exact ⟨_, rfl, ⟨[], World.ownsRow_nil _ _ _ _, rfl, by simp⟩, Below.refl _ _⟩
  · simp only [Option.isNone_some] at hnil
    have hown : (w.alloc (.cells #[] 32)).ownsRow w.heap.size 32 1 (.slice (some ⟨w.heap.size, 0, none⟩) 0 0) 0 [] := by
      simpa using own_new (base := w.heap.size) (w := w) #[] 32 (Nat.le_refl _) (by simp)
    have hb0 : Below w.heap.size w (w.alloc (.cells #[] 32)) := (Below.refl _ _).alloc (Nat.le_refl _) _
    obtain ⟨us, hS, hus, hrow⟩ := HX.out
    have HS := Lib.hid (hS.below hb0)
    have HUS := Lib.hid hus
    have HROW := Lib.hid hrow
    have hone : ∀ u ∈ us, u.oneCell' = true := fun u hu => by
      obtain ⟨j, hj, he⟩ := List.getElem_of_mem hu
      obtain ⟨a, c, h, _⟩ := (hrow j u _ (by rw [List.getElem?_eq_getElem hj, he]) (List.getElem?_eq_getElem (by omega))).form
      rw [h]; rfl
    have HONE := Lib.hid hone
    have HB0 := Lib.hid hb0
    clear hb0 hS hus hrow hone
    go_enter Tryz.func26, Tryz.ntmps26
    go_wp2_with (at_builtin; go_loud (refine wpList_pushAll rfl _ _ 22 rfl 32 (.slice none 0 0) 24 Tryz.underlying22 HI.out rfl w.heap.size (.slice (some ⟨w.heap.size, 0, none⟩) 0 0) 0 [] _ F (some ad) n c _ rfl rfl hown HS.out HONE.out (by omega) (by omega) (by simp) ?_); intro v' w' hown' hg' _; have HO := Lib.hid hown'; have HG := Lib.hid hg'; clear hown' hg' hown)
    go_ret
    have ho := HO.out
    rw [List.nil_append, Nat.zero_add, HN.out] at ho
    have hbb := HB0.out.grown HG.out (by simp) fun k hk => by simp [Value.ownBlock] at hk; omega
    exact ⟨_, rfl, ⟨us, ho, HUS.out, fun j u c h1 h2 => (HROW.out j u c h1 h2).below hbb⟩, hbb⟩
theorem RowsO.below {F : Nat → Prop} {w w' : World} {base n : Nat} {v : Value} {cs : List (List Int)} (h : RowsO F w base v n cs) (hb : Below w.heap.size w w') : RowsO F w' base v n cs := by
  obtain ⟨us, h1, h2, h3⟩ := h
  exact ⟨us, own_below h1 hb, h2, fun j u c hu hc => (h3 j u c hu hc).below hb⟩
theorem RowsO.clss {F : Nat → Prop} {w : World} {base n : Nat} {v : Value} {cs : List (List Int)} (h : RowsO F w base v n cs) (hn : n ≤ 9223372036854775807) : Clss (fun _ => True) w v cs := by
  obtain ⟨us, h1, h2, h3⟩ := h
  exact ⟨us, (ownsRow_sl1 h1 hn).mono fun _ _ => trivial, h2, fun j u c hu hc => (h3 j u c hu hc).mono fun _ _ => trivial⟩
theorem RowsO.form {F : Nat → Prop} {w : World} {base n : Nat} {v : Value} {cs : List (List Int)} (h : RowsO F w base v n cs) : ∃ a c, v = .slice a n c := by
  obtain ⟨us, h1, _⟩ := h
  rcases h1.2 with ⟨rfl, rfl⟩ | ⟨g, cap, cur, rfl, _⟩
  · exact ⟨_, _, rfl⟩
  · exact ⟨_, _, rfl⟩
theorem RowsO.off {s : Nat} {w : World} {base n : Nat} {v : Value} {cs : List (List Int)} (h : RowsO (fun b => b < s) w base v n cs) (hs : s ≤ base) : RowsO (fun b => v.ownBlock ≠ some b) w base v n cs := by
  obtain ⟨us, h1, h2, h3⟩ := h
  refine ⟨us, h1, h2, fun j u c hu hc => (h3 j u c hu hc).mono fun b hb e => ?_⟩
  have := (h1.lt b e).1
  omega
/-- a clause is appended -/
theorem RowsO.push {w w' : World} {base g cap n : Nat} {v rv : Value} {cs : List (List Int)} {c : List Int} {us : List Value}
    (hn : n = cs.length) (h2 : us.length = cs.length) (h3 : ∀ (j : Nat) u c, us[j]? = some u → cs[j]? = some c → Ints (fun b => v.ownBlock ≠ some b) w u c) (hr : Ints (fun b => v.ownBlock ≠ some b) w rv c)
    (hown : w'.ownsRow base 32 1 (.slice (some ⟨g, 0, none⟩) (n + 1) cap) (n + 1) (us ++ [rv])) (hg : w.grownBy w' v.ownBlock) (hat : v.ownBlock = some g ∨ w.heap.size ≤ g) :
    RowsO (fun b => (Value.slice (some ⟨g, 0, none⟩) (n + 1) cap).ownBlock ≠ some b) w' base (.slice (some ⟨g, 0, none⟩) (n + 1) cap) (n + 1) (cs ++ [c]) := by
  subst hn
  have mv : ∀ u m, Ints (fun b => v.ownBlock ≠ some b) w u m → Ints (fun b => (Value.slice (some ⟨g, 0, none⟩) (cs.length + 1) cap).ownBlock ≠ some b) w' u m := by
    intro u m hu
    refine (hu.lt.move (w' := w') fun b hb hlt => hg.block b hlt (fun e => hb.1 e.symm)).mono fun b hb => ?_
    simp only [Value.ownBlock]
    intro e
    injection e with e
    subst e
    rcases hat with h | h
    · exact hb.1 h
    · omega
  refine ⟨_, hown, by simp [h2], fun j u x hu hx => ?_⟩
  rcases Nat.lt_or_ge j us.length with hj | hj
  · rw [List.getElem?_append_left hj] at hu
    rw [List.getElem?_append_left (by omega)] at hx
    exact mv u x (h3 j u x hu hx)
  · rw [List.getElem?_append_right hj] at hu
    rw [List.getElem?_append_right (by omega)] at hx
    rw [h2] at hu
    rcases hk : j - cs.length with _ | k
    · rw [hk] at hu hx
      simp at hu hx
      subst hu hx
      exact mv rv c hr
    · rw [hk] at hu
      simp at hu
/-! ### plain -/
def withC (cs : List (List Int)) (ls : List Int) : List (List Int) := cs ++ ls.map fun x => [x]
theorem cw_with (keep : Int) (cs : List (List Int)) (ls : List Int) : cwN keep (canM (withC cs ls)) [] = cwN keep cs ls := by
  unfold cwN
  congr 1
  exact cnt_iff fun f => ⟨fun h => (ev_with f).1 h.1, fun h => ⟨(ev_with f).2 h, fun x hx => by simp at hx⟩⟩
theorem canM_eas {cs : List (List Int)} {d : List Int} {m : Nat} (hm : ∀ c ∈ cs, c.length ≤ m) (h : d ∈ canM cs) : d.length ≤ m := by
  obtain ⟨_, _, c, hc, rfl⟩ := canM_mem h
  exact Nat.le_trans (claM_len _) (hm c hc)
theorem claM_sub {c : List Int} {x : Int} (h : x ∈ claM c) : x ∈ c := claM_mem h
theorem cn_can {cs : List (List Int)} (h : ∀ c ∈ cs, ∀ x ∈ c, x ≠ 0 ∧ -20000 ≤ x ∧ x ≤ 20000) : Cn' (canM cs) := by
  refine ⟨canM_idem cs, fun c hc x hx => ?_⟩
  obtain ⟨_, _, d, hd, rfl⟩ := canM_mem hc
  exact h d hd x (claM_sub hx)
theorem cn_with {cs : List (List Int)} {ls : List Int} (h : Cn' cs) (hs : SmL ls) : Cn' (canM (withC cs ls)) := cn_can fun c hc x hx => by
  rcases List.mem_append.1 hc with h1 | h1
  · exact h.2 c h1 x hx
  · obtain ⟨y, hy, rfl⟩ := List.mem_map.1 h1
    simp at hx
    subst hx
    exact hs x hy
theorem sz_with {cs : List (List Int)} {ls : List Int} (h : cs.length ≤ 40 ∧ ∀ c ∈ cs, c.length ≤ 14) (hl : ls.length ≤ 100) : SzL (canM (withC cs ls)) ∧ (withC cs ls).length ≤ 200 ∧ ∀ c ∈ withC cs ls, c.length ≤ 14 := by
  have h1 : (withC cs ls).length ≤ 200 := by
    unfold withC
    rw [List.length_append, List.length_map]
    have := h.1
    omega
  have h2 : ∀ c ∈ withC cs ls, c.length ≤ 14 := fun c hc => by
    rcases List.mem_append.1 hc with h1 | h1
    · exact h.2 c h1
    · obtain ⟨y, _, rfl⟩ := List.mem_map.1 h1
      simp
  exact ⟨⟨Nat.le_trans (canM_ln _) (by omega), fun c hc => Nat.le_trans (canM_eas h2 hc) (by omega)⟩, h1, h2⟩
/-! ### with -/
def WithPost (W : World) (vars keep : Int) (cs : List (List Int)) (ls : List Int) (e : Ending) (w' : World) : Prop :=
  ∃ v, e = .returned (.agg #[.int .i64 vars, .int .i64 keep, v]) ∧ Clss (fun _ => True) w' v (canM (withC cs ls)) ∧ Below W.heap.size W w'
theorem withC_snoc {cs : List (List Int)} {ls : List Int} {k : Nat} {x : Int} (h : ls[k]? = some x) : withC cs (ls.take (k + 1)) = withC cs (ls.take k) ++ [[x]] := by
  unfold withC
  rw [take_snoc h, List.map_append, List.append_assoc]
  rfl
set_option maxRecDepth 100000 in
set_option maxHeartbeats 16000000 in
theorem with_any (F G : Nat → Prop) (vars keep : Int) (cv lv : Value) (cs : List (List Int)) (ls : List Int) (w : World) (hc : Clss F w cv cs) (hl : Ints G w lv ls) (hs : cs.length ≤ 40 ∧ ∀ c ∈ cs, c.length ≤ 14) (hll : ls.length ≤ 100) :
    Calls Tryz.prog 17 #[.agg #[.int .i64 vars, .int .i64 keep, cv], lv] w (WithPost w vars keep cs ls) := by
  obtain ⟨ca, cn, cc, rfl, HCN, _⟩ := hc.form'
  obtain ⟨la, ln, lc, rfl, HLN, _⟩ := hl.form'
  obtain ⟨bb, hbb⟩ : ∃ b, w.heap.size = b := ⟨_, rfl⟩
  obtain ⟨W1, hW1⟩ : ∃ W, (w.alloc (.cells #[.int .i64 vars, .int .i64 keep, .slice ca cn cc] 24)).alloc (.cells #[.int .i64 0, .int .i64 0, .slice none 0 0] 24) = W := ⟨_, rfl⟩
  have hb1 : Below w.heap.size w W1 := by rw [← hW1]; exact ((Below.refl _ _).alloc (Nat.le_refl _) _).alloc (by simp) _
  have hr0 : W1.heap[bb]? = some (.cells #[.int .i64 vars, .int .i64 keep, .slice ca cn cc] 24) := by rw [← hW1]; exact old_at _ _ _ (new_at' _ _ hbb.symm)
  have hr1 : W1.heap[bb + 1]? = some (.cells #[.int .i64 0, .int .i64 0, .slice none 0 0] 24) := by rw [← hW1]; exact new_at' _ _ (by simp; omega)
  have c0 : W1.cell? ⟨bb, 0, none⟩ = some (.int .i64 vars) := by rw [cell_of_row _ _ _ _ _ _ hr0]; rfl
  have c1 : W1.cell? ⟨bb, 1, none⟩ = some (.int .i64 keep) := by rw [cell_of_row _ _ _ _ _ _ hr0]; rfl
  have c2 : W1.cell? ⟨bb, 2, none⟩ = some (.slice ca cn cc) := by rw [cell_of_row _ _ _ _ _ _ hr0]; rfl
  have cf : ∀ o, W1.frozen? ⟨bb, o, none⟩ = false := fun o => by simp only [World.frozen?, hr0]; simp
  have d0 : W1.cell? ⟨bb + 1, 0, none⟩ = some (.int .i64 0) := by rw [cell_of_row _ _ _ _ _ _ hr1]; rfl
  have d1 : W1.cell? ⟨bb + 1, 1, none⟩ = some (.int .i64 0) := by rw [cell_of_row _ _ _ _ _ _ hr1]; rfl
  have d2 : W1.cell? ⟨bb + 1, 2, none⟩ = some (.slice none 0 0) := by rw [cell_of_row _ _ _ _ _ _ hr1]; rfl
  have df : ∀ o, W1.frozen? ⟨bb + 1, o, none⟩ = false := fun o => by simp only [World.frozen?, hr1]; simp
  have hs1 : W1.heap.size = bb + 2 := by rw [← hW1]; simp; omega
  have HCLO := Lib.hid (clones_any F _ cs W1 (hc.below hb1) (by have := hs.1; omega))
  have HL := Lib.hid (hl.below hb1)
  have HB1 := Lib.hid hb1
  have HS := Lib.hid hs
  have HLL := Lib.hid hll
  have HBB := Lib.hid hbb
  have HCF := Lib.hid cf
  have HDF := Lib.hid df
  have HLW : Hid (Ints (fun b => b < w.heap.size) w (.slice la ln lc) ls) := Lib.hid (hl.lt.mono fun b hb => hb.2)
  have HCW : Hid (Clss (fun b => b < w.heap.size) w (.slice ca cn cc) cs) := Lib.hid (clss_lt hc)
  have HCLO2 := Lib.hid (clones_any _ _ cs W1 (HCW.out.below hb1) (by have := hs.1; omega))
  have HIN := Lib.hid (show (Tryz.prog.info? 32).map (fun i => (i.zero, i.size, i.bytes)) = some (some (.slice none 0 0), 1, 24) by kernel_rfl)
  clear hc hl hs hll hb1 hr0 hr1 cf df
  go_enter Tryz.func17, Tryz.ntmps17
  go_wp2_with fail
  try rw [hW1]
  try rw [hbb]
  refine HCLO2.out.mono ?_
  rintro e w2 ⟨v, rfl, hro, hb2⟩
  obtain ⟨oa, oc, rfl⟩ := hro.form
  have HRO : Hid (RowsO (fun b => (Value.slice oa cs.length oc).ownBlock ≠ some b) w2 W1.heap.size (.slice oa cs.length oc) cs.length cs) := Lib.hid (hro.off HB1.out.size)
  rw [← HCN.out] at HRO
  rw [← HCN.out]
  have HB2 := Lib.hid hb2
  have HP0 : Hid (cs = withC cs (ls.take 0)) := Lib.hid (by unfold withC; simp)
  clear hro hb2 HCLO HCLO2 HCW
  go_wp2_with fail
  go_loopg [5, 13] ln (fun gg u5 u13 wx => ∃ (k : Nat) (ps : List (List Int)) (oa : Option Addr) (pn oc : Nat), k + gg = ln ∧ u13 = .int .i64 k ∧ u5 = .slice oa pn oc ∧ Hid (pn = ps.length) ∧ Hid (ps = withC cs (ls.take k)) ∧ Hid (Below W1.heap.size W1 wx) ∧ Hid (RowsO (fun b => (Value.slice oa pn oc).ownBlock ≠ some b) wx W1.heap.size (.slice oa pn oc) pn ps))
  case atStart => exact ⟨0, cs, oa, cn, oc, by omega, rfl, rfl, HCN, HP0, HB2, HRO⟩
  case round =>
  clear HRO HB2 HP0
  obtain ⟨k, ps, oa, pn, oc, hkg, rfl, rfl, HPN, HP, HB, HRO⟩ := hrel
  have hpn : pn ≤ 200 := by
    rw [HPN.out, HP.out]
    unfold withC
    have := HS.out.1
    have := HLL.out
    simp
    omega
  by_cases hk : k < ln
  · have hdk : decide ((k : Int) < ln) = true := by simp; omega
    have hdk' : decide (k < ln) = true := decide_eq_true hk
    have hk0 : (0 : Int) ≤ k := by omega
    have hkn : (k : Int) < ln := by omega
    have hlwr : Ints (fun b => b < w.heap.size) wr (.slice la ln lc) ls := (HLW.out.below HB1.out).move fun b hb _ => HB.out.block b (Nat.lt_of_lt_of_le hb HB1.out.size)
    obtain ⟨x, hx⟩ : ∃ x, ls[k]? = some x := ⟨_, List.getElem?_eq_getElem (by rw [← HLN.out]; exact hk)⟩
    obtain ⟨xb, xo, rfl, _, hxb, hxc, hx6⟩ := hlwr.at hx
    obtain ⟨us, ho1, ho2, ho3⟩ := HRO.out
    obtain ⟨W5, hW5⟩ : ∃ W, wr.alloc (.cells #[.int .i64 x] 3) = W := ⟨_, rfl⟩
    have hb5 : Below wr.heap.size wr W5 := by rw [← hW5]; exact (Below.refl _ _).alloc (Nat.le_refl _) _
    have r5 : W5.heap[wr.heap.size]? = some (.cells #[.int .i64 x] 3) := by rw [← hW5]; exact new_at' _ _ rfl
    have hown5 : W5.ownsRow W1.heap.size 32 1 (.slice oa pn oc) pn us := own_below ho1 hb5
    have hr5 : Ints (fun b => (Value.slice oa pn oc).ownBlock ≠ some b) W5 (.slice (some ⟨wr.heap.size, 0, none⟩) 1 1) [x] := (ints_block [x] 1 r5 (by simp) rfl fun y hy => by simp at hy; subst hy; exact hx6).mono fun b hb => by
      subst hb
      intro e
      have := (ho1.lt _ e).2
      omega
    have HR5 := Lib.hid hr5
    have HO3 : Hid (∀ (j : Nat) u c, us[j]? = some u → ps[j]? = some c → Ints (fun b => (Value.slice oa pn oc).ownBlock ≠ some b) W5 u c) := Lib.hid fun j u c h1 h2 => (ho3 j u c h1 h2).below hb5
    have HO2 := Lib.hid ho2
    have HB5 : Hid (Below W1.heap.size W1 W5) := Lib.hid (HB.out.trans (hb5.mono HB.out.size))
    have HPX : Hid (ps ++ [[x]] = withC cs (ls.take (k + 1))) := Lib.hid (by rw [withC_snoc hx, ← HP.out])
    have hz5 : W1.heap.size ≤ W5.heap.size := HB5.out.size
    clear hlwr hx ho1 ho2 ho3 hb5 r5 hr5 HRO HB HP hx6
    go_wp2_with (at_builtin; go_loud (refine wpList_push1 rfl _ _ 22 rfl 32 (.slice none 0 0) 24 Tryz.underlying22 HIN.out rfl W1.heap.size (.slice oa pn oc) pn us W5 (.slice (some ⟨wr.heap.size, 0, none⟩) 1 1) rfl rfl hown5 rfl (by omega) (by omega) hz5 ?_); intro g7 cap7 w7 hown7 hg7 hs7 hgb hgl hat; have HB7 : Hid (Below W1.heap.size W1 w7) := Lib.hid (HB5.out.grown hg7 hz5 (fun k hk => (hown5.lt k hk).1)); have HO7 : Hid (RowsO (fun b => (Value.slice (some ⟨g7, 0, none⟩) (pn + 1) cap7).ownBlock ≠ some b) w7 W1.heap.size (.slice (some ⟨g7, 0, none⟩) (pn + 1) cap7) (pn + 1) (ps ++ [[x]])) := Lib.hid (RowsO.push HPN.out HO2.out HO3.out HR5.out hown7 hg7 hat); clear hown7 hg7 hat hown5 hW5)
    go_roundg (gk - 1)
    case measure => omega
    case rel => exact ⟨k + 1, ps ++ [[x]], _, _, _, by omega, by go_num, rfl, Lib.hid (by rw [HPN.out]; simp), HPX, HB7, HO7⟩
  obtain rfl : ln = k := by omega
  have hdk : decide ((ln : Int) < ln) = false := by simp
  have hdk' : decide (ln < ln) = false := decide_eq_false (by omega)
  have hps : ps = withC cs ls := by
    rw [HP.out, HLN.out, List.take_length]
  obtain ⟨_, h200, h14⟩ := sz_with HS.out HLL.out
  have hcl : Clss (fun _ => True) wr (.slice oa pn oc) ps := HRO.out.clss (by omega)
  have hca := lcanonical_any _ _ ps wr hcl (by have := HPN.out; omega) (fun c hc => by rw [hps] at hc; have := h14 c hc; omega)
  rw [hps] at hca
  have HCA := Lib.hid hca
  have hl0 := block_lt c0
  have hl1 := block_lt d0
  clear hca hcl hps h200 h14 HRO HP HPN
  go_wp2_with fail
  refine HCA.out.mono ?_
  rintro e w5 ⟨v3, rfl, hv3, hb5⟩
  obtain ⟨ra, rn, rc, rfl, _, _⟩ := hv3.form'
  have HB5 : Hid (Below W1.heap.size W1 w5) := Lib.hid (HB.out.trans (hb5.mono HB.out.size))
  have e0 := below_c HB5.out hl0 c0
  have e1 := below_c HB5.out hl0 c1
  have f0 := below_c HB5.out hl1 d0
  have f1 := below_c HB5.out hl1 d1
  have f2 := below_c HB5.out hl1 d2
  have e2 := below_c HB5.out hl0 c2
  have z2 : w5.frozen? ⟨bb, 2, none⟩ = false := (World.frozen?_of_block (a := ⟨bb, 2, none⟩) (HB5.out.block bb hl0)).trans (HCF.out 2)
  have y0 : w5.frozen? ⟨bb + 1, 0, none⟩ = false := (World.frozen?_of_block (a := ⟨bb + 1, 0, none⟩) (HB5.out.block (bb + 1) hl1)).trans (HDF.out 0)
  have y1 : w5.frozen? ⟨bb + 1, 1, none⟩ = false := (World.frozen?_of_block (a := ⟨bb + 1, 1, none⟩) (HB5.out.block (bb + 1) hl1)).trans (HDF.out 1)
  have y2 : w5.frozen? ⟨bb + 1, 2, none⟩ = false := (World.frozen?_of_block (a := ⟨bb + 1, 2, none⟩) (HB5.out.block (bb + 1) hl1)).trans (HDF.out 2)
  have HV3 := Lib.hid hv3
  clear hb5 hv3 HCA c0 c1 c2 d0 d1 d2
  go_wp2_with fail
  obtain ⟨W6, hW6⟩ : ∃ W, w5.setCell ⟨bb, 2, none⟩ (.slice ra rn rc) = W := ⟨_, rfl⟩
  have g0 : W6.cell? ⟨bb + 1, 0, none⟩ = some (.int .i64 0) := by rw [← hW6]; exact set_ne (by omega) f0
  have g1 : W6.cell? ⟨bb + 1, 1, none⟩ = some (.int .i64 0) := by rw [← hW6]; exact set_ne (by omega) f1
  have g2 : W6.cell? ⟨bb + 1, 2, none⟩ = some (.slice none 0 0) := by rw [← hW6]; exact set_ne (by omega) f2
  have hm6 : ∀ k, k ≠ bb → W6.heap[k]? = w5.heap[k]? := fun k hk => by rw [← hW6]; exact Below.heap_setCell _ _ _ _ hk
  have HB6 : Hid (Below w.heap.size w W6) := Lib.hid (by rw [← hW6]; exact (HB1.out.trans (HB5.out.mono HB1.out.size)).setCell (by rw [HBB.out]; exact Nat.le_refl _) _)
  rw [hW6]
  obtain ⟨v0, v1, v2⟩ := set3_at (x := .int .i64 vars) (y := .int .i64 keep) (z := .slice ra rn rc) g0 g1 g2
  refine bodyPost_ret (v := .agg #[.int .i64 vars, .int .i64 keep, .slice ra rn rc]) (by simp [results, Tryz.results17, go_sem, v0, v1, v2]) rfl ?_
  refine ⟨_, rfl, ?_, ((HB6.out.setCell (by rw [HBB.out]; exact Nat.le_succ _) _).setCell (by rw [HBB.out]; exact Nat.le_succ _) _).setCell (by rw [HBB.out]; exact Nat.le_succ _) _⟩
  refine Rows1.mono (fun _ _ _ _ _ h hg => h.mono hg) (Rows1.move (fun _ _ _ _ _ h hm => h.move hm) HV3.out fun b hb hlt => ?_) fun b hb => trivial
  have h1 : wr.heap.size ≤ b := hb
  have h2 : W1.heap.size ≤ wr.heap.size := HB.out.size
  rw [set3_block _ _ _ (by omega), hm6 _ (by omega)]
end Go.Proofs.YthanfjpmcckbhaaGreatDoor
