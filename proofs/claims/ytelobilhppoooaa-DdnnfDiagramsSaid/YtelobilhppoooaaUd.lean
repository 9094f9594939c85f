/- Walks: the statement's diagram of a truth table. No condition but the sizes. -/
import Derived.Test.YtelobilhppoooaaUa
import Derived.Test.YtelobilhppoooaaQv
import Derived.Test.YtelobilhppoooaaUc
import Derived.Deep.DeepCutAuto
import Derived.Deep.LoopGhost
import Derived.BigQuiet
import Derived.Deep.QuietTactic
namespace Go.Proofs.Ytelobilhppoooaa
open Go.ChangeShapes Go.WideShapes Go.ChangeAt Go.RowKit
set_option linter.unusedVariables false

def b2i (b : Bool) : Int := if b = true then 1 else 0
theorem idxK_ge (x : Fork) : ∀ (ys : List Fork) (i : Nat), x ∉ ys → idxK x ys i = -1
  | [], i, _ => rfl
  | y :: r, i, h => by
    rw [idxK, if_neg (fun e => h (by rw [e]; exact List.mem_cons_self ..))]
    exact idxK_ge x r (i + 1) fun e => h (List.mem_cons_of_mem _ e)
theorem idxK_at (x : Fork) : ∀ (ys : List Fork) (i : Nat), x ∈ ys → idxK x ys i = i + (ys.idxOf x : Int)
  | [], i, h => by simp at h
  | y :: r, i, h => by
    rw [idxK]
    by_cases e : x = y
    · subst e; rw [if_pos rfl, List.idxOf_cons_self]; omega
    · have hc : List.idxOf x (y :: r) = List.idxOf x r + 1 := by
        rw [List.idxOf_cons]
        have : (y == x) = false := by rw [beq_eq_false_iff_ne]; exact fun h => e h.symm
        rw [this]
        rfl
      rw [if_neg e, idxK_at x r (i + 1) (by rcases List.mem_cons.1 h with h | h; exact absurd h e; exact h), hc]
      omega
theorem node_bd : ∀ (d : Nat) (t : List Bool) (ns : List Fork) (v : Int), 0 ≤ v → v + d ≤ 1000 → ns.length + 2 ^ d ≤ 5000 → (∀ f ∈ ns, ForkOk f) →
    (nodeM d t ns v).2.length + 1 ≤ ns.length + 2 ^ d ∧ (0 ≤ (nodeM d t ns v).1 ∧ (nodeM d t ns v).1 ≤ 1 + (nodeM d t ns v).2.length) ∧ ∀ f ∈ (nodeM d t ns v).2, ForkOk f
  | 0, t, ns, v, h0, h1, h2, hok => by
    rw [nodeM]
    exact ⟨by simp, by simp only; split <;> omega, hok⟩
  | d + 1, t, ns, v, h0, h1, h2, hok => by
    have hp : 2 ^ (d + 1) = 2 ^ d + 2 ^ d := by rw [Nat.pow_succ]; omega
    have hpos := Nat.two_pow_pos d
    obtain ⟨a1, a2, a3⟩ := node_bd d (t.take (2 ^ d)) ns (v + 1) (by omega) (by omega) (by omega) hok
    rw [nodeM]
    generalize nodeM d (t.take (2 ^ d)) ns (v + 1) = a at *
    obtain ⟨b1, b2, b3⟩ := node_bd d (t.drop (2 ^ d)) a.2 (v + 1) (by omega) (by omega) (by omega) a3
    generalize nodeM d (t.drop (2 ^ d)) a.2 (v + 1) = b at *
    show (if a.1 = b.1 then (a.1, b.2) else if (v, a.1, b.1) ∈ b.2 then (2 + (b.2.idxOf (v, a.1, b.1) : Int), b.2) else (2 + (b.2.length : Int), b.2 ++ [(v, a.1, b.1)])).2.length + 1 ≤ ns.length + 2 ^ (d + 1) ∧ (0 ≤ (if a.1 = b.1 then (a.1, b.2) else if (v, a.1, b.1) ∈ b.2 then (2 + (b.2.idxOf (v, a.1, b.1) : Int), b.2) else (2 + (b.2.length : Int), b.2 ++ [(v, a.1, b.1)])).1 ∧ (if a.1 = b.1 then (a.1, b.2) else if (v, a.1, b.1) ∈ b.2 then (2 + (b.2.idxOf (v, a.1, b.1) : Int), b.2) else (2 + (b.2.length : Int), b.2 ++ [(v, a.1, b.1)])).1 ≤ 1 + ((if a.1 = b.1 then (a.1, b.2) else if (v, a.1, b.1) ∈ b.2 then (2 + (b.2.idxOf (v, a.1, b.1) : Int), b.2) else (2 + (b.2.length : Int), b.2 ++ [(v, a.1, b.1)])).2.length : Int)) ∧ ∀ f ∈ (if a.1 = b.1 then (a.1, b.2) else if (v, a.1, b.1) ∈ b.2 then (2 + (b.2.idxOf (v, a.1, b.1) : Int), b.2) else (2 + (b.2.length : Int), b.2 ++ [(v, a.1, b.1)])).2, ForkOk f
    split
    · rename_i e
      exact ⟨by simp only; omega, ⟨a2.1, by simp only; omega⟩, b3⟩
    split
    · rename_i hm
      have := List.idxOf_lt_length_of_mem hm
      exact ⟨by simp only; omega, ⟨by simp only; omega, by simp only; omega⟩, b3⟩
    · refine ⟨by simp; omega, ⟨by simp only; omega, by simp; omega⟩, fun f hf => ?_⟩
      rcases List.mem_append.1 hf with h | h
      · exact b3 f h
      · simp at h
        subst h
        have hI : ∀ x : Int, 0 ≤ x → x ≤ 5001 → I64 x := fun x _ _ => ⟨by omega, by omega⟩
        have hv : v ≤ 5001 := by omega
        have hra : a.1 ≤ 5001 := by omega
        have hrb : b.1 ≤ 5001 := by omega
        exact ⟨hI _ h0 hv, hI _ a2.1 hra, hI _ b2.1 hrb⟩
theorem Ints.part {F : Nat → Prop} {w : World} {b o n c : Nat} {xs : List Int} (h : Ints F w (.slice (some ⟨b, o, none⟩) n c) xs) (k m c' : Nat) (hk : k + m ≤ n) : Ints F w (.slice (some ⟨b, o + k, none⟩) m c') ((xs.drop k).take m) := by
  obtain ⟨⟨a, cap, h1, h2, h3⟩, h4⟩ := h
  rw [List.length_map] at h1 h2
  injection h1 with e1 e2 e3
  subst e1 e2 e3
  refine ⟨⟨some ⟨b, o + k, none⟩, c', by simp; omega, by simp; omega, fun j u hu => ?_⟩, fun x hx => h4 x (List.mem_of_mem_drop (List.mem_of_mem_take hx))⟩
  rw [List.getElem?_map, List.getElem?_take] at hu
  split at hu
  · rw [List.getElem?_drop] at hu
    obtain ⟨b', off, ha, hF, hc⟩ := h3 (k + j) u (by rw [List.getElem?_map]; exact hu)
    injection ha with ha
    injection ha with ha1 ha2
    subst ha1 ha2
    exact ⟨b, o + k, rfl, hF, by rw [show o + k + j = o + (k + j) by omega]; exact hc⟩
  · simp at hu
def NodePost (B : Nat) (W : World) (r : Int) (nl : List Fork) (e : Ending) (w' : World) : Prop :=
  ∃ rv, e = .returned (.tuple #[.int .i64 r, rv]) ∧ w'.ownsRow B 48 3 rv nl.length (nl.flatMap forkV) ∧ Below B W w'
set_option maxRecDepth 100000 in
set_option maxHeartbeats 4000000 in
theorem node_any (B : Nat) : ∀ (d : Nat) (t : List Bool) (v : Int) (ns : List Fork) (b o n c : Nat) (ea : Option Addr) (ec : Nat) (nv : Value) (w : World), t.length = 2 ^ d → n = 2 ^ d → 0 ≤ v → v + d ≤ 1000 → ns.length + 2 ^ d ≤ 5000 → (∀ f ∈ ns, ForkOk f) → n ≤ c → c ≤ 9223372036854775807 →
    Ints (fun k => k < B) w (.slice (some ⟨b, o, none⟩) n c) (t.map b2i) → Ints (fun k => k < B) w (.slice ea 2 ec) [0, 1] → w.ownsRow B 48 3 nv ns.length (ns.flatMap forkV) → B ≤ w.heap.size →
    Calls Try.prog 33 #[.slice (some ⟨b, o, none⟩) n c, .slice ea 2 ec, nv, .int .i64 v] w (NodePost B w (nodeM d t ns v).1 (nodeM d t ns v).2) := by
  intro d
  induction d with
  | zero =>
    intro t v ns b o n c ea ec nv w ht hn h0 h1 h2 hok hnc hc hx hy hown hB
    obtain ⟨x, rfl⟩ : ∃ x, t = [x] := by
      match t, ht with
      | [x], _ => exact ⟨x, rfl⟩
    obtain rfl : n = 1 := hn
    obtain ⟨b', off, he, hF, hlt, hcell, _⟩ := hx.at (k := 0) (x := b2i x) rfl
    injection he with he
    injection he with he1 he2
    subst he1 he2
    rw [Nat.add_zero] at hcell
    have hi := index_any _ _ [0, 1] (b2i x) w hy (by unfold b2i; split <;> exact ⟨by omega, by omega⟩)
    have hr : idxGo (b2i x) [0, 1] 0 = b2i x := by cases x <;> rfl
    rw [hr] at hi
    have hM : nodeM 0 [x] ns v = (b2i x, ns) := rfl
    rw [hM]
    obtain ⟨X, hX⟩ : ∃ X, b2i x = X := ⟨_, rfl⟩
    rw [hX] at hcell hi ⊢
    have HIX := Lib.hid hi
    have HO := Lib.hid hown
    clear hr hM hX hi hy hx hok h1 h2 ht hF hlt hown
    go_enter Try.func33, Try.ntmps33
    go_wp2_with fail
    refine HIX.out.mono ?_
    rintro e w1 ⟨rfl, rfl⟩
    go_wp2_with fail
    go_ret2
    exact ⟨_, rfl, HO.out, Below.refl _ _⟩
  | succ d ih =>
    intro t v ns b o n c ea ec nv w ht hn h0 h1 h2 hok hnc hc hx hy hown hB
    obtain ⟨m, hm⟩ : ∃ m, 2 ^ d = m := ⟨_, rfl⟩
    have hp : 2 ^ (d + 1) = 2 ^ d + 2 ^ d := by rw [Nat.pow_succ]; omega
    have hm1 : 1 ≤ m := by rw [← hm]; exact Nat.one_le_two_pow
    obtain rfl : n = m + m := by omega
    have hcm : ¬ c = m := by omega
    have hx1 := hx.part 0 m c (by omega)
    have hx2 := hx.part m m (c - m) (by omega)
    rw [← List.map_drop, ← List.map_take] at hx1 hx2
    rw [List.drop_zero, Nat.add_zero] at hx1
    rw [List.take_of_length_le (by rw [List.length_drop]; omega)] at hx2
    have b1 := node_bd d (t.take m) ns (v + 1) (by omega) (by omega) (by omega) hok
    have ih1 := ih (t.take m) (v + 1) ns b o m c ea ec nv w (by rw [List.length_take]; omega) hm.symm (by omega) (by omega) (by omega) hok (by omega) hc hx1 hy hown hB
    have hM : nodeM (d + 1) t ns v = if (nodeM d (t.take m) ns (v + 1)).1 = (nodeM d (t.drop m) (nodeM d (t.take m) ns (v + 1)).2 (v + 1)).1 then ((nodeM d (t.take m) ns (v + 1)).1, (nodeM d (t.drop m) (nodeM d (t.take m) ns (v + 1)).2 (v + 1)).2)
      else if (v, (nodeM d (t.take m) ns (v + 1)).1, (nodeM d (t.drop m) (nodeM d (t.take m) ns (v + 1)).2 (v + 1)).1) ∈ (nodeM d (t.drop m) (nodeM d (t.take m) ns (v + 1)).2 (v + 1)).2 then (2 + ((nodeM d (t.drop m) (nodeM d (t.take m) ns (v + 1)).2 (v + 1)).2.idxOf (v, (nodeM d (t.take m) ns (v + 1)).1, (nodeM d (t.drop m) (nodeM d (t.take m) ns (v + 1)).2 (v + 1)).1) : Int), (nodeM d (t.drop m) (nodeM d (t.take m) ns (v + 1)).2 (v + 1)).2)
      else (2 + ((nodeM d (t.drop m) (nodeM d (t.take m) ns (v + 1)).2 (v + 1)).2.length : Int), (nodeM d (t.drop m) (nodeM d (t.take m) ns (v + 1)).2 (v + 1)).2 ++ [(v, (nodeM d (t.take m) ns (v + 1)).1, (nodeM d (t.drop m) (nodeM d (t.take m) ns (v + 1)).2 (v + 1)).1)]) := by
      rw [nodeM, hm]
    rw [hM]
    clear hM
    generalize hA : nodeM d (t.take m) ns (v + 1) = A at *
    obtain ⟨ra, na⟩ := A
    have b2 := node_bd d (t.drop m) na (v + 1) (by omega) (by omega) (by have := b1.1; simp only at this; omega) b1.2.2
    have ih2 := fun (av : Value) (W : World) (h1 : Ints (fun k => k < B) W (.slice (some ⟨b, o + m, none⟩) m (c - m)) ((t.drop m).map b2i)) (h2 : Ints (fun k => k < B) W (.slice ea 2 ec) [0, 1]) (h3 : W.ownsRow B 48 3 av na.length (na.flatMap forkV)) (h4 : B ≤ W.heap.size) =>
      ih (t.drop m) (v + 1) na b (o + m) m (c - m) ea ec av W (by rw [List.length_drop]; omega) hm.symm (by omega) (by omega) (by have := b1.1; simp only at this; omega) b1.2.2 (by omega) (by omega) h1 h2 h3 h4
    generalize hA2 : nodeM d (t.drop m) na (v + 1) = A2 at *
    obtain ⟨rb, nb⟩ := A2
    simp only at b1 b2 ih1 ih2 ⊢
    obtain ⟨b11, ⟨b12, b13⟩, b14⟩ := b1
    obtain ⟨b21, ⟨b22, b23⟩, b24⟩ := b2
    have hnl : nb.length ≤ 5000 := by omega
    have hrx : ra ≤ 5001 ∧ rb ≤ 5001 := ⟨by omega, by omega⟩
    obtain ⟨hra, hrb⟩ := hrx
    have hI : ∀ x : Int, 0 ≤ x → x ≤ 5001 → I64 x := fun x _ _ => ⟨by omega, by omega⟩
    have hkf : ForkOk (v, ra, rb) := ⟨hI _ h0 (by omega), hI _ b12 hra, hI _ b22 hrb⟩
    clear hI
    have HKF := Lib.hid hkf
    obtain ⟨M, hMd⟩ : ∃ M, (if ra = rb then (ra, nb) else if (v, ra, rb) ∈ nb then (2 + (nb.idxOf (v, ra, rb) : Int), nb) else (2 + (nb.length : Int), nb ++ [(v, ra, rb)])) = M := ⟨_, rfl⟩
    rw [hMd]
    have HMD := Lib.hid hMd
    clear hMd
    have HX2 := Lib.hid hx2
    have HY := Lib.hid hy
    have HOK := Lib.hid b24
    have IH1 := Lib.hid ih1
    have IH2 := Lib.hid ih2
    have HIF := Lib.hid (show (Try.prog.info? 48).map (fun i => (i.zero, i.size, i.bytes)) = some (some (.agg #[.int .i64 0, .int .i64 0, .int .i64 0]), 3, 24) by kernel_rfl)
    have hd1 : (((m : Int) + m) == 1) = false := by simp; omega
    have hq : (m + m) / 2 = m := by omega
    have hqi : ((m : Int) + m) / 2 = m := by omega
    have hqs : m + m - m = m := by omega
    have h1000 : v ≤ 1000 := by omega
    clear hx hy hx1 hx2 hm hp ht hn hok hown ih ih1 ih2 hA hA2 b11 b13 b14 b21 b23 b24 hkf h2 h1
    go_enter Try.func33, Try.ntmps33
    go_wp2_with fail
    refine IH1.out.mono ?_
    rintro e w1 ⟨av, rfl, hown1, hbe1⟩
    have HX21 := Lib.hid (HX2.out.move (fun k hk _ => hbe1.block k hk))
    have HY1 := Lib.hid (HY.out.move (fun k hk _ => hbe1.block k hk))
    have HB1 := Lib.hid hbe1
    have hB1 : B ≤ w1.heap.size := Nat.le_trans hB hbe1.size
    have HO1 := Lib.hid hown1
    clear hbe1 hown1 IH1
    go_wp2_with fail
    refine (IH2.out av w1 HX21.out HY1.out HO1.out hB1).mono ?_
    rintro e w2 ⟨bv, rfl, hown2, hbe2⟩
    have HY2 := Lib.hid (HY1.out.move (fun k hk _ => hbe2.block k hk))
    have HB2 := Lib.hid (HB1.out.trans hbe2)
    have hB2 : B ≤ w2.heap.size := Nat.le_trans hB1 hbe2.size
    clear hbe2 IH2 HO1 HX21 HB1 HX2 HY
    by_cases heq : ra = rb
    · subst heq
      have hMd := HMD.out
      rw [if_pos rfl] at hMd
      have HM1 := Lib.hid hMd
      clear hMd
      have HO2 := Lib.hid hown2
      clear hown2
      go_wp2_with fail
      go_ret2
      rw [← HM1.out]
      exact ⟨_, rfl, HO2.out, HB2.out⟩
    have hMd := HMD.out
    rw [if_neg heq] at hMd
    have HM1 := Lib.hid hMd
    clear hMd
    have heqb : (ra == rb) = false := by simp; exact heq
    have hfk := own_forks hown2 (by omega) HOK.out
    have hol := hown2.lt
    obtain ⟨fa, fn, fc, rfl, HFN, hfn⟩ := hfk.form
    have hal : Below w2.heap.size w2 (w2.alloc (.cells #[.int .i64 v, .int .i64 ra, .int .i64 rb] 48)) := (Below.refl _ _).alloc (Nat.le_refl _) _
    have HFA := Lib.hid (hfk.below hal)
    have HO2 := Lib.hid hown2
    have HOL := Lib.hid hol
    have HIX := Lib.hid (indexk_any _ _ nb (v, ra, rb) _ HFA.out)
    clear hown2 hfk hol hal heq
    by_cases hin : (v, ra, rb) ∈ nb
    · have hMd := HM1.out
      rw [if_pos hin] at hMd
      have hix := HIX.out
      rw [idxK_at _ _ _ hin] at hix
      have hil := List.idxOf_lt_length_of_mem hin
      generalize nb.idxOf (v, ra, rb) = ix at *
      have HIX2 := Lib.hid hix
      have hge : decide (0 ≤ (ix : Int)) = true := decide_eq_true (by omega)
      have HIN := Lib.hid hin
      have HM2 := Lib.hid hMd
      clear hix HIX hin hMd
      go_wp2_with fail
      refine HIX2.out.mono ?_
      rintro e w3 ⟨rfl, hb3⟩
      have HO3 := Lib.hid (own_below (HO2.out.alloc _) hb3)
      have HB3 := Lib.hid ((HB2.out.alloc (by omega) _).trans (hb3.mono (by simp; omega)))
      rw [show ((0 : Nat) : Int) + (ix : Int) = ix by omega]
      have hixl : ix ≤ 5000 := by omega
      clear hb3 HIX2
      go_wp2_with fail
      go_ret2
      rw [← HM2.out]
      exact ⟨_, rfl, HO3.out, HB3.out⟩
    · have hMd := HM1.out
      rw [if_neg hin] at hMd
      have hix := HIX.out
      rw [idxK_ge _ _ _ hin] at hix
      have HIX2 := Lib.hid hix
      have HIN := Lib.hid hin
      have HM2 := Lib.hid hMd
      have hcc : ∀ o v', #[Value.int .i64 v, .int .i64 ra, .int .i64 rb][o]? = some v' → (w2.alloc (.cells #[.int .i64 v, .int .i64 ra, .int .i64 rb] 48)).cell? ⟨w2.heap.size, o, none⟩ = some v' := fun o v' h => by
        rw [cell_of_row _ _ _ _ _ _ (new_at w2 _)]; exact h
      have z0 := hcc 0 _ rfl
      have z1 := hcc 1 _ rfl
      have z2 := hcc 2 _ rfl
      have hlt2 : w2.heap.size < (w2.alloc (.cells #[.int .i64 v, .int .i64 ra, .int .i64 rb] 48)).heap.size := by simp
      have hfn5 : fn ≤ 5000 := by have := HFN.out; omega
      clear hix HIX hin hMd hcc
      go_wp2_with fail
      refine HIX2.out.mono ?_
      rintro e w3 ⟨rfl, hb3⟩
      have HO3 := Lib.hid (own_below (HO2.out.alloc _) hb3)
      have HB3 := Lib.hid ((HB2.out.alloc (by omega) _).trans (hb3.mono (by simp; omega)))
      have y0 := below_c hb3 hlt2 z0
      have y1 := below_c hb3 hlt2 z1
      have y2 := below_c hb3 hlt2 z2
      have hB3 : B ≤ w3.heap.size := by have := hb3.size; omega
      clear hb3 HIX2 z0 z1 z2 hlt2
      have ho3 := HO3.out
      rw [← HFN.out] at ho3
      go_wp2_with (at_builtin; go_loud (refine wpList_push3 rfl _ _ 22 rfl 48 (.agg #[.int .i64 0, .int .i64 0, .int .i64 0]) 24 Try.underlying22 HIF.out rfl B (.slice fa fn fc) fn _ w3 _ _ _ rfl rfl ho3 rfl rfl rfl (by have := HFN.out; omega) (by omega) (by omega) ?_); intro g4 cap4 w4 hown4 hg4 hs4 hgb hgl hat; have HB4 := Lib.hid (HB3.out.trans (Below.grown (Below.refl _ _) hg4 (by omega) (fun k hk => (ho3.lt k hk).1))); have HO4 := Lib.hid hown4; clear hown4 hg4 hat ho3)
      go_ret2
      rw [← HM2.out]
      refine ⟨_, by rw [show (2 : Int) + (nb.length : Int) = 2 + (fn : Int) by rw [HFN.out]]; rfl, ?_, HB4.out⟩
      have h := HO4.out
      rw [HFN.out] at h
      rw [HFN.out]
      simpa [forkV] using h
end Go.Proofs.Ytelobilhppoooaa
