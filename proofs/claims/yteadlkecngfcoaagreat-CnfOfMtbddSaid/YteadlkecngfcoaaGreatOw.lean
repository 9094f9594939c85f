/- Walk: the inner function of the statement's diagram, references from any base. No condition but that references lead back, and sizes. -/
import Derived.Test.YteadlkecngfcoaaGreatQv
import Derived.Test.YteadlkecngfcoaaGreatO1
import Derived.Test.YteadlkecngfcoaaGreatKx
import Derived.Deep.RegionHeld3
namespace Go.Proofs.YteadlkecngfcoaaGreat
open Go.ChangeShapes Go.WideShapes Go.ChangeAt Go.RowKit
set_option linter.unusedVariables false

theorem visN_len {L : Nat} {ns : List Fork} : ∀ (k : Nat) (o : List Int) (r : Int), o.length ≤ (visN L ns k o r).length
  | 0, o, r => Nat.le_refl _
  | k + 1, o, r => by
    rw [visN]
    split
    · exact Nat.le_refl _
    split
    · exact Nat.le_refl _
    · rename_i f _
      have a := visN_len (L := L) (ns := ns) k o f.2.1
      have b := visN_len (L := L) (ns := ns) k (visN L ns k o f.2.1) f.2.2
      rw [List.length_append]
      omega
/-- the captured variables of walk -/
def OrdL (L : Nat) (bb nb oc wc eb : Nat) (nv : Value) (w : World) (o : List Int) (lv : Value) : Prop :=
  w.cell? ⟨bb, 0, none⟩ = some (.int .i64 L) ∧ w.cell? ⟨nb, 0, none⟩ = some nv ∧ w.cell? ⟨oc, 0, none⟩ = some lv ∧ w.frozen? ⟨oc, 0, none⟩ = false ∧
  w.cell? ⟨wc, 0, none⟩ = some (.func (.func 41) #[] #[.pointer (some ⟨bb, 0, none⟩), .pointer (some ⟨oc, 0, none⟩), .pointer (some ⟨wc, 0, none⟩), .pointer (some ⟨nb, 0, none⟩)]) ∧
  w.ownsRow eb 3 1 lv o.length (o.map (.int .i64)) ∧ (∀ b, lv.ownBlock = some b → b = eb ∨ wc < b) ∧ wc < w.heap.size ∧ ∀ x ∈ o, I64 x
def OrdLPost (L : Nat) (bb nb oc wc eb : Nat) (nv : Value) (W : World) (o' : List Int) (e : Ending) (w' : World) : Prop :=
  e = .returned (.tuple #[]) ∧ Below eb W w' ∧ ∃ lv', OrdL L bb nb oc wc eb nv w' o' lv'
set_option maxRecDepth 100000 in
set_option maxHeartbeats 8000000 in
theorem walkL_any (L : Nat) (bb nb oc wc eb : Nat) (nv : Value) (ns : List Fork) (hL : L ≤ 4096) (hb : BackB L ns) (h1 : bb < eb) (h2 : nb < eb) (h3 : eb < oc) (h4 : oc < wc) (hl : ns.length ≤ 4096) : ∀ (k : Nat) (r : Int) (o : List Int) (lv : Value) (w : World),
    0 ≤ r → r < L + ns.length → r < k → (visN L ns k o r).length ≤ 100000 → Forks (fun b => b < eb) w nv ns → OrdL L bb nb oc wc eb nv w o lv →
    Calls Tryz.prog 41 #[.int .i64 r, .pointer (some ⟨bb, 0, none⟩), .pointer (some ⟨oc, 0, none⟩), .pointer (some ⟨wc, 0, none⟩), .pointer (some ⟨nb, 0, none⟩)] w (OrdLPost L bb nb oc wc eb nv w (visN L ns k o r))
  | 0, r, o, lv, w, h0, _, hk, _, _, _ => by omega
  | k + 1, r, o, lv, w, hr0, hrL, hrk, hs', hf, hS => by
    have ih := walkL_any L bb nb oc wc eb nv ns hL hb h1 h2 h3 h4 hl k
    have hmono := visN_len (L := L) (ns := ns) (k + 1) o r
    have hr : I64 r := ⟨by omega, by omega⟩
    have HS := Lib.hid hS
    obtain ⟨k1, k2, k3, k4, k5, hO, hAt, hwc, ho64⟩ := hS
    have hol : o.length ≤ 100000 := by omega
    rw [visN] at hs' ⊢
    have HB0 : Hid (Below eb w w) := Lib.hid (Below.refl _ _)
    obtain ⟨la, lc, hlv⟩ := own_form hO
    by_cases hlt2 : r < L
    · rw [if_pos (.inl hlt2)]
      have hd : decide (r < (L : Int)) = true := decide_eq_true hlt2
      clear ih hf hmono hlt2 hO hAt ho64 hs' hr0 hrL hrk
      go_enter Tryz.func41, Tryz.ntmps41
      go_wp2
      first
      | go_ret
      | go_end0
      exact ⟨rfl, HB0.out, lv, HS.out⟩
    have hd : decide (r < (L : Int)) = false := decide_eq_false hlt2
    have hio : Ints (fun _ => True) w lv o := by
      exact ⟨(ownsRow_sl1 hO (by omega)).mono fun _ _ => trivial, ho64⟩
    have hct := contains_any _ lv o r w hio hr
    by_cases hin : r ∈ o
    · have hcr : o.contains r = true := List.contains_iff_mem.2 hin
      rw [if_pos (.inr hin)]
      rw [hcr] at hct
      have HCT := Lib.hid hct
      subst hlv
      clear hin ih hf hmono hlt2 hO hAt ho64 hct hio hcr hs' hr0 hrL hrk
      go_enter Tryz.func41, Tryz.ntmps41
      go_wp2_with fail
      refine HCT.out.mono ?_
      rintro e w1 ⟨rfl, rfl⟩
      go_wp2_with fail
      first
      | go_ret
      | go_end0
      exact ⟨rfl, HB0.out, _, HS.out⟩
    have hcr : o.contains r = false := by
      rcases bool2 (o.contains r) with h | h
      · exact absurd (List.contains_iff_mem.1 h) hin
      · exact h
    rw [hcr] at hct
    rw [if_neg (by rintro (h | h); exact hlt2 h; exact hin h)] at hs' ⊢
    obtain ⟨j, hj⟩ : ∃ j : Nat, (r - L).toNat = j := ⟨_, rfl⟩
    rw [hj] at hs' ⊢
    obtain ⟨f, hfj⟩ : ∃ f, ns[j]? = some f := ⟨_, List.getElem?_eq_getElem (by omega)⟩
    rw [hfj] at hs' ⊢
    simp only at hs' ⊢
    obtain ⟨⟨b1, b2⟩, b3, b4⟩ := hb j f hfj
    obtain ⟨fv, flo, fhi⟩ := f
    simp only at hs' b1 b2 b3 b4 ⊢
    have l1 := visN_len (L := L) (ns := ns) k o flo
    have l2 := visN_len (L := L) (ns := ns) k (visN L ns k o flo) fhi
    obtain ⟨s1, hs1e⟩ : ∃ s, visN L ns k o flo = s := ⟨_, rfl⟩
    rw [hs1e] at hs' l1 l2 ⊢
    obtain ⟨s2, hs2e⟩ : ∃ s, visN L ns k s1 fhi = s := ⟨_, rfl⟩
    rw [hs2e] at hs' l2 ⊢
    simp only [List.length_append, List.length_singleton] at hs'
    have hs1 : s1.length ≤ 100000 := by omega
    have hs2 : s2.length + 1 ≤ 100000 := by omega
    have hrj : r = (j : Int) + L := by omega
    obtain ⟨a, n, cp, rfl, HN, hn⟩ := hf.form
    have hjn : j < n := by have := (List.getElem?_eq_some_iff.1 hfj).1; have := HN.out; omega
    obtain ⟨fb, fo, rfl, hfb, hfs, e0, e1, e2, hfo⟩ := hf.at hfj
    simp only at e0 e1 e2
    obtain ⟨hfv, hflo, hfhi⟩ := hfo
    simp only at hfv hflo hfhi
    have HC1 : Hid (OrdL L bb nb oc wc eb (.slice (some ⟨fb, fo, none⟩) n cp) w.drew o lv → Calls Tryz.prog 41 #[.int .i64 flo, .pointer (some ⟨bb, 0, none⟩), .pointer (some ⟨oc, 0, none⟩), .pointer (some ⟨wc, 0, none⟩), .pointer (some ⟨nb, 0, none⟩)] w.drew (OrdLPost L bb nb oc wc eb (.slice (some ⟨fb, fo, none⟩) n cp) w.drew s1)) :=
      Lib.hid fun h => by have := ih flo o lv w.drew b1 (by omega) (by omega) (by rw [hs1e]; exact hs1) (hf.move fun _ _ _ => rfl) h; rw [hs1e] at this; exact this
    have HIH : Hid (∀ (w : World) (lv : Value), Forks (fun b => b < eb) w (.slice (some ⟨fb, fo, none⟩) n cp) ns → OrdL L bb nb oc wc eb (.slice (some ⟨fb, fo, none⟩) n cp) w s1 lv → Calls Tryz.prog 41 #[.int .i64 fhi, .pointer (some ⟨bb, 0, none⟩), .pointer (some ⟨oc, 0, none⟩), .pointer (some ⟨wc, 0, none⟩), .pointer (some ⟨nb, 0, none⟩)] w (OrdLPost L bb nb oc wc eb (.slice (some ⟨fb, fo, none⟩) n cp) w s2)) := Lib.hid fun w lv h h' => by have := ih fhi s1 lv w b3 (by omega) (by omega) (by rw [hs2e]; omega) h h'; rw [hs2e] at this; exact this
    have HF := Lib.hid hf
    have HCT := Lib.hid hct
    have HSD : Hid (OrdL L bb nb oc wc eb (.slice (some ⟨fb, fo, none⟩) n cp) w.drew o lv) := Lib.hid HS.out
    have hw1 : IntKind.i64.wrap (r - L) = (j : Int) := by rw [IntWalk.i64_in _ ⟨by have := hr.1; omega, by have := hr.2; omega⟩]; omega
    have hj0 : (0 : Int) ≤ j := by omega
    have hj1 : (j : Int) < n := by omega
    have HR64 := Lib.hid hr
    have hinfo1 : (Tryz.prog.info? 3).map (fun i => (i.zero, i.size, i.bytes)) = some (some (.int .i64 0), 1, 8) := by kernel_rfl
    have HI1 := Lib.hid hinfo1
    have hfbw : fb < eb := hfb
    subst hlv
    clear ih hf l1 l2 hs1e hs2e b1 b2 b3 b4 hr0 hrL hrk hct hr hin hlt2 hj hfj hio hcr hmono hO hAt ho64 hs' hinfo1 hrj
    go_enter Tryz.func41, Tryz.ntmps41
    go_wp2_with fail
    refine HCT.out.mono ?_
    rintro e w1 ⟨rfl, rfl⟩
    go_wp2_with fail
    go_upto_region 1 with fail
    go_region_held3 (fun w' => w'.cell? ⟨bb, 0, none⟩ = some (.int .i64 L) ∧ w'.cell? ⟨nb, 0, none⟩ = some (.slice (some ⟨fb, fo, none⟩) n cp) ∧
        w'.cell? ⟨wc, 0, none⟩ = some (.func (.func 41) #[] #[.pointer (some ⟨bb, 0, none⟩), .pointer (some ⟨oc, 0, none⟩), .pointer (some ⟨wc, 0, none⟩), .pointer (some ⟨nb, 0, none⟩)]) ∧ w'.cell? ⟨fb, fo + j * 3 + 1, none⟩ = some (.int .i64 flo))
      (first | exact ⟨k1, k2, k5, e1⟩ | exact ⟨p1, p2, p5, q1⟩ | go_keep)
      (first | (go_at_call 41; refine (HC1.out HSD.out).mono ?_; rintro e w5 ⟨rfl, hb5, lv5, hS5⟩; have HS5 := Lib.hid hS5; have HB5 : Hid (Below eb w1 w5) := Lib.hid ⟨hb5.os, hb5.tape, hb5.output, hb5.size, hb5.block⟩; have p1 := hS5.1; have p2 := hS5.2.1; have p5 := hS5.2.2.2.2.1; have q1 := below_c HB5.out hfbw e1; have q2 := below_c HB5.out hfbw e2; clear hS5 hb5))
    have HF5 : Hid (Forks (fun b => b < eb) w5.drew (.slice (some ⟨fb, fo, none⟩) n cp) ns) := Lib.hid (HF.out.move fun b hb _ => HB5.out.block b hb)
    have HSD5 : Hid (OrdL L bb nb oc wc eb (.slice (some ⟨fb, fo, none⟩) n cp) w5.drew s1 lv5) := Lib.hid HS5.out
    clear HC1 HSD HCT HS HF k1 k2 k3 k4 k5 e0 e1 e2 q1 HB0 hwc hfs
    go_wp2_with fail
    go_region_held3 (fun w' => w'.cell? ⟨bb, 0, none⟩ = some (.int .i64 L) ∧ w'.cell? ⟨nb, 0, none⟩ = some (.slice (some ⟨fb, fo, none⟩) n cp) ∧
        w'.cell? ⟨wc, 0, none⟩ = some (.func (.func 41) #[] #[.pointer (some ⟨bb, 0, none⟩), .pointer (some ⟨oc, 0, none⟩), .pointer (some ⟨wc, 0, none⟩), .pointer (some ⟨nb, 0, none⟩)]) ∧ w'.cell? ⟨fb, fo + j * 3 + 2, none⟩ = some (.int .i64 fhi))
      (first | exact ⟨p1, p2, p5, q2⟩ | exact ⟨u1, u2, u5, v2⟩ | go_keep)
      (first | (go_at_call 41; refine (HIH.out w5.drew lv5 HF5.out HSD5.out).mono ?_; rintro e w7 ⟨rfl, hb7, lv7, hS7⟩; have HS7 := Lib.hid hS7; have HB7 : Hid (Below eb w5 w7) := Lib.hid ⟨hb7.os, hb7.tape, hb7.output, hb7.size, hb7.block⟩; have u1 := hS7.1; have u2 := hS7.2.1; have u5 := hS7.2.2.2.2.1; have v2 := below_c HB7.out hfbw q2; clear hS7 hb7))
    obtain ⟨m1, m2, m3, m4, m5, mO, mAt, mwc, m64⟩ := HS7.out
    obtain ⟨N, hN⟩ : ∃ N, s2.length = N := ⟨_, rfl⟩
    rw [hN] at mO
    obtain ⟨ga, gc, rfl⟩ := own_form mO
    have HNE := Lib.hid hN
    have hN5 : N + 1 ≤ 100000 := by omega
    have HAT := Lib.hid mAt
    have H64 := Lib.hid m64
    have HBF : Hid (Below eb w1 w7) := Lib.hid (HB5.out.trans HB7.out)
    have hsz7 := HB7.out.size
    have hebw : eb ≤ w7.heap.size := by omega
    have HLO := Lib.hid mO.lt
    clear HIH HF5 HSD5 HS5 HB5 p1 p2 p5 q2 u1 u2 u5 v2 HS7 HB7 mAt m64 hN
    go_wp2_with (at_builtin; go_loud (refine wpList_push1 rfl _ _ 22 rfl 3 (.int .i64 0) 8 Tryz.underlying22 HI1.out rfl eb (.slice ga N gc) N (s2.map (.int .i64)) w7 (.int .i64 r) rfl rfl mO rfl (by omega) (by omega) (by omega) ?_); intro g9 cap9 w9 hown9 hg9 hs9 hgb hgl hat; have y1 := grown_cell hg9 (fun e => by rcases HAT.out _ e.symm with h | h <;> omega) m1; have y2 := grown_cell hg9 (fun e => by rcases HAT.out _ e.symm with h | h <;> omega) m2; have y3 := grown_cell hg9 (fun e => by rcases HAT.out _ e.symm with h | h <;> omega) m3; have y5 := grown_cell hg9 (fun e => by rcases HAT.out _ e.symm with h | h <;> omega) m5; have yf := grown_froz hg9 (fun e => by rcases HAT.out _ e.symm with h | h <;> omega) (block_lt m3) m4; have HG9 := Lib.hid hg9; have HO9 := Lib.hid hown9; have HT9 := Lib.hid hat; clear hown9 hg9 hat mO m1 m2 m3 m4 m5)
    have hsc : w9.grownBy (w9.setCell ⟨oc, 0, none⟩ (.slice (some ⟨g9, 0, none⟩) (N + 1) cap9)) (some oc) := ⟨rfl, rfl, rfl, by simp, fun k _ hk => Below.heap_setCell _ _ _ _ (fun e => hk (by rw [e]))⟩
    have hg9eb : g9 = eb ∨ wc < g9 := by
      rcases HT9.out with h | h
      · exact HAT.out g9 h
      · right; omega
    have hown : (w9.setCell ⟨oc, 0, none⟩ (.slice (some ⟨g9, 0, none⟩) (N + 1) cap9)).ownsRow eb 3 1 (.slice (some ⟨g9, 0, none⟩) (N + 1) cap9) (s2 ++ [r]).length ((s2 ++ [r]).map (.int .i64)) := by
      have := HO9.out.kept hsc (.inr fun e => by simp [Value.ownBlock] at e; omega)
      simpa [HNE.out] using this
    have hbf : Below eb w1 (w9.setCell ⟨oc, 0, none⟩ (.slice (some ⟨g9, 0, none⟩) (N + 1) cap9)) :=
      ((HBF.out.grown HG9.out (by have := HBF.out.size; omega) (fun b hb => (HLO.out b hb).1)).setCell (by show eb ≤ oc; omega) _)
    have HFIN : Hid (OrdLPost L bb nb oc wc eb (.slice (some ⟨fb, fo, none⟩) n cp) w1 (s2 ++ [r]) (.returned (.tuple #[])) (w9.setCell ⟨oc, 0, none⟩ (.slice (some ⟨g9, 0, none⟩) (N + 1) cap9))) :=
      Lib.hid ⟨rfl, hbf, _, set_ne (by omega) y1, set_ne (by omega) y2, set_eq y3, by rw [World.frozen?_setCell]; exact yf, set_ne (by omega) y5, hown, fun b hb => by simp [Value.ownBlock] at hb; omega, by simp; omega, fun x hx => by
        rcases List.mem_append.1 hx with hx | hx
        · exact H64.out x hx
        · rw [List.mem_singleton] at hx; rw [hx]; exact HR64.out⟩
    clear hsc hown hbf
    go_end0
    exact HFIN.out
end Go.Proofs.YteadlkecngfcoaaGreat
