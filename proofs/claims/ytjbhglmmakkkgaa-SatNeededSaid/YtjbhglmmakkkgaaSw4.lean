/- Walk of layer 31's propagate. -/
import Derived.Test.YtjbhglmmakkkgaaSp
namespace Go.Proofs.Ytjbhglmmakkkgaa
open Go.ChangeShapes Go.WideShapes Go.ChangeAt Go.RowKit
set_option linter.unusedVariables false

def PropPost (W : World) (base g V : Nat) (R : Bool × List Bool) (e : Ending) (w' : World) : Prop := e = .returned (.bool R.1) ∧ Marks w' base g V R.2 ∧ Below g W w'

set_option maxHeartbeats 8000000 in
theorem propagate_any {F : Nat → Prop} {base g V : Nat} {cv : Value} {cs : List (List Int)} {ms : List Bool} {w : World} (hc : Clss F w cv cs) (hm : Marks w base g V ms) (hF : ∀ b, F b → b < g) (hV : V ≤ 1000000) (hlit : ∀ c ∈ cs, ∀ l ∈ c, LitOk V l) :
    Calls Try.prog 36 #[cv, .slice (some ⟨g, 0, none⟩) (V + 1) (V + 1)] w (PropPost w base g V (propM cs ms)) := by
  obtain ⟨a, n, c, rfl, HN, hn⟩ := hc.form'
  obtain ⟨R, hR⟩ : ∃ R, propM cs ms = R := ⟨_, rfl⟩
  have HR : Hid (R = propGo (ms.count false + 1) cs ms) := Lib.hid hR.symm
  rw [hR]
  have HC := Lib.hid fun wx (h : Below g w wx) => hc.move (w' := wx) (fun _ _ _ _ _ h hm => h.move hm) fun b hb _ => h.block b (hF b hb)
  have HLI := Lib.hid hlit
  clear hc hR hlit hF
  go_enter Try.func36, Try.ntmps36
  go_wp2
  go_loopg [5] (ms.count false + 1) (fun gg u5 wx => ∃ (ch : Bool) (m : List Bool), u5 = .bool ch ∧ Marks wx base g V m ∧ Hid (Below g w wx) ∧ Hid (ch = true → R = propGo gg cs m ∧ m.count false + 1 ≤ gg) ∧ Hid (ch = false → R = (true, m)))
  case atStart => exact ⟨true, ms, rfl, hm, Lib.hid (Below.refl _ _), Lib.hid (fun _ => ⟨HR.out, Nat.le_refl _⟩), Lib.hid (fun h => by cases h)⟩
  case round =>
  clear hm HR
  obtain ⟨ch, m0, rfl, hm, HB, H1, H2⟩ := hrel
  rcases bool2 ch with rfl | rfl
  case inr =>
    have HF : Hid (R = (true, m0)) := Lib.hid (H2.out rfl)
    clear H1 H2
    go_wp2
    go_ret
    exact ⟨by rw [HF.out]; rfl, by rw [HF.out]; exact hm, HB.out⟩
  obtain ⟨GK, hGK⟩ : ∃ G, G = gk := ⟨_, rfl⟩
  subst hGK
  obtain ⟨hp, hge⟩ := H1.out rfl
  obtain ⟨f, rfl⟩ : ∃ f, GK = f + 1 := ⟨GK - 1, by omega⟩
  obtain ⟨Y, hY⟩ : ∃ Y, passGo cs m0 false = Y := ⟨_, rfl⟩
  have HP : Hid (R = if Y.1 = false then (false, Y.2.1) else if Y.2.2 = true then propGo f cs Y.2.1 else (true, Y.2.1)) := Lib.hid (by
    rw [hp, propGo, hY]
    obtain ⟨y1, y2, y3⟩ := Y
    cases y1 <;> cases y3 <;> rfl)
  have HY : Hid (Y = passGo (cs.drop 0) m0 false) := Lib.hid hY.symm
  clear H1 H2 hp hY
  go_wp2
  try (go_step3; go_wp2)
  try (go_step3; go_wp2)
  go_loopg [5, 14] n (fun g2 u5 u14 wx => ∃ (k : Nat) (m : List Bool) (ch : Bool), k + g2 = n ∧ u14 = .int .i64 k ∧ u5 = .bool ch ∧ Marks wx base g V m ∧ Hid (Below g w wx) ∧ Hid (Y = passGo (cs.drop k) m ch) ∧ m.count false ≤ m0.count false ∧ (ch = true → m.count false < m0.count false))
  case atStart => exact ⟨0, m0, false, by omega, rfl, rfl, hm, HB, HY, Nat.le_refl _, fun h => by cases h⟩
  case round =>
  clear hm HB HY
  obtain ⟨k, m, ch, hkg, rfl, rfl, hm, HB, HY, hcn, hcl⟩ := hrel
  obtain ⟨GM, hGM⟩ : ∃ G, G = gk := ⟨_, rfl⟩
  subst hGM
  by_cases hk : k < n
  case neg =>
    have hYY : Y = (true, m, ch) := by rw [HY.out, List.drop_eq_nil_of_le (by have := HN.out; omega)]; rfl
    have hk2 : n ≤ k := by omega
    have HF1 : Hid (ch = true → R = propGo f cs m ∧ m.count false + 1 ≤ f) := Lib.hid (fun h => ⟨by rw [HP.out, hYY, h]; rfl, by have := hcl h; omega⟩)
    have HF2 : Hid (ch = false → R = (true, m)) := Lib.hid (fun h => by rw [HP.out, hYY, h]; rfl)
    clear HY HP hYY hcl hk
    go_wp2
    rw [Exit.noGoto_normal]
    go_wp2
    go_roundg f
    case measure => omega
    case rel => exact ⟨ch, m, rfl, hm, HB, HF1, HF2⟩
  obtain ⟨cl, hcl1, e⟩ := drop_at (xs := cs) (k := k) (by have := HN.out; omega)
  have hrow := HC.out _ HB.out
  obtain ⟨b, o, u, rfl, _, hb, hcc, hu⟩ := hrow.at hcl1
  obtain ⟨ua, un, uc, rfl, HUN, hun⟩ := hu.form'
  have HLC : Hid (∀ l ∈ cl, LitOk V l) := Lib.hid (HLI.out cl (List.mem_of_getElem? hcl1))
  obtain ⟨U, hU⟩ : ∃ U, unitGo m cl 0 = U := ⟨_, rfl⟩
  have HYN : Hid (U = none → Y = passGo (cs.drop (k + 1)) m ch) := Lib.hid (fun h => by rw [HY.out, e, passGo, hU, h])
  have HYS : Hid (∀ u, U = some u → Y = if u = 0 then (false, m, ch) else if hasM m u = true then passGo (cs.drop (k + 1)) m ch else if setOk m u = false then (false, setM m u, ch) else passGo (cs.drop (k + 1)) (setM m u) true) := Lib.hid (fun u h => by rw [HY.out, e, passGo, hU, h])
  have HU : Hid (U = unitGo m (cl.drop 0) 0) := Lib.hid hU.symm
  have HUL : Hid (∀ x, U = some x → x = 0 ∨ LitOk V x) := Lib.hid (fun x h => unitGo_lit cl 0 x HLC.out (.inl rfl) (by rw [hU, h]))
  have HUB : Hid (Ints F wr (.slice ua un uc) cl) := Lib.hid hu
  clear HY e hU hrow hu hcl1
  go_wp2
  go_loopg [8, 20] un (fun g3 u8 u20 wx => ∃ (j : Nat) (u : Int), j + g3 = un ∧ u20 = .int .i64 j ∧ u8 = .int .i64 u ∧ wr = wx ∧ Hid (U = unitGo m (cl.drop j) u))
  case atStart => exact ⟨0, 0, by omega, rfl, rfl, rfl, HU⟩
  case round =>
  clear HU
  obtain ⟨j, u, hjg, rfl, rfl, rfl, HU⟩ := hrel
  by_cases hj : j < un
  case pos =>
    obtain ⟨x, hx, ex⟩ := drop_at (xs := cl) (k := j) (by have := HUN.out; omega)
    have hub := HUB.out
    obtain ⟨xb, xo, rfl, _, hxb, hxc, _⟩ := hub.at hx
    have HXL : Hid (LitOk V x) := Lib.hid (HLC.out x (List.mem_of_getElem? hx))
    have hx0 : -1000000 ≤ x ∧ x ≤ 1000000 := by obtain ⟨_, h2, h3⟩ := HXL.out; omega
    have HXE : Hid (U = if hasM m (-x) = true then unitGo m (cl.drop (j + 1)) u else if u ≠ 0 then none else unitGo m (cl.drop (j + 1)) x) := Lib.hid (by rw [HU.out, ex, unitGo])
    clear HU hx ex hub
    go_wp2_with fail
    refine (mhas_own hm hV HXL.out.neg).mono ?_
    rintro e w2 ⟨rfl, rfl⟩
    rcases hh : hasM m (-x) with _ | _
    · rw [hh] at HXE
      by_cases hu0 : u = 0
      · have HX2 : Hid (U = unitGo m (cl.drop (j + 1)) x) := Lib.hid (by rw [HXE.out, if_neg (by simp), if_neg (by omega)])
        have hd : (u != 0) = false := by simp [hu0]
        clear HXE hu0
        go_wp2_with fail
        go_roundg (gk - 1)
        case measure => omega
        case rel => exact ⟨j + 1, x, by omega, by go_num, rfl, rfl, HX2⟩
      · have hUn : U = none := by rw [HXE.out, if_neg (by simp), if_pos hu0]
        have HYE := Lib.hid (HYN.out hUn)
        have hd : (u != 0) = true := by simp [hu0]
        clear HXE hu0
        go_wp2_with fail
        go_roundg (GM - 1)
        case measure => omega
        case rel => exact ⟨k + 1, m, ch, by omega, by go_num, rfl, hm, HB, HYE, hcn, hcl⟩
    · rw [hh] at HXE
      have HX2 : Hid (U = unitGo m (cl.drop (j + 1)) u) := Lib.hid (by rw [HXE.out, if_pos rfl])
      clear HXE
      go_wp2_with fail
      go_roundg (gk - 1)
      case measure => omega
      case rel => exact ⟨j + 1, u, by omega, by go_num, rfl, rfl, HX2⟩
  have hj2 : un ≤ j := by omega
  have hUs : U = some u := by rw [HU.out, List.drop_eq_nil_of_le (by have := HUN.out; omega)]; rfl
  have HYE := Lib.hid (HYS.out u hUs)
  have HUL2 := Lib.hid (HUL.out u hUs)
  clear HYS HYN HUL HU hUs hj
  by_cases hu0 : u = 0
  · have hYY : Y = (false, m, ch) := by rw [HYE.out, if_pos hu0]
    have HF : Hid (R = (false, m)) := Lib.hid (by rw [HP.out, hYY]; rfl)
    have hd : (u == 0) = true := by simp [hu0]
    clear HYE HP hYY hu0
    go_wp2_with fail
    try rw [Exit.noGoto_ret]
    go_ret
    exact ⟨by rw [HF.out]; rfl, by rw [HF.out]; exact hm, HB.out⟩
  have hd : (u == 0) = false := by simp [hu0]
  have HUK : Hid (LitOk V u) := Lib.hid (HUL2.out.resolve_left hu0)
  have hux : -1000000 ≤ u ∧ u ≤ 1000000 := by obtain ⟨_, h2, h3⟩ := HUK.out; omega
  have HYF : Hid (Y = if hasM m u = true then passGo (cs.drop (k + 1)) m ch else if setOk m u = false then (false, setM m u, ch) else passGo (cs.drop (k + 1)) (setM m u) true) := Lib.hid (by rw [HYE.out, if_neg hu0])
  clear HYE hu0 HUL2
  go_wp2_with fail
  refine (mhas_own hm hV HUK.out).mono ?_
  rintro e w2 ⟨rfl, rfl⟩
  rcases hh : hasM m u with _ | _
  case true =>
    rw [hh] at HYF
    have HYG : Hid (Y = passGo (cs.drop (k + 1)) m ch) := Lib.hid (by rw [HYF.out, if_pos rfl])
    clear HYF
    go_wp2_with fail
    go_roundg (GM - 1)
    case measure => omega
    case rel => exact ⟨k + 1, m, ch, by omega, by go_num, rfl, hm, HB, HYG, hcn, hcl⟩
  rw [hh] at HYF
  have HYG : Hid (Y = if setOk m u = false then (false, setM m u, ch) else passGo (cs.drop (k + 1)) (setM m u) true) := Lib.hid (by rw [HYF.out, if_neg (by simp)])
  have hcnt := setM_count hh (by
    have h1 : m.length = (V + 1) * 2 := by simpa using hm.1
    obtain ⟨v, _, hv2, h2⟩ := HUK.out.cases
    rcases h2 with ⟨_, h2, _⟩ | ⟨_, h2, _⟩ <;> omega)
  clear HYF
  go_wp2_with fail
  refine (mset_own hm hV HUK.out).mono ?_
  rintro e w3 ⟨rfl, rfl⟩
  have hm2 := hm.set (idx u) true
  have HB2 := Lib.hid (HB.out.setCell (p := ⟨g, idx u, none⟩) (Nat.le_refl _) (.bool true))
  rcases hs : setOk m u with _ | _
  · rw [hs] at HYG
    have hYY : Y = (false, setM m u, ch) := by rw [HYG.out, if_pos rfl]
    have HF : Hid (R = (false, setM m u)) := Lib.hid (by rw [HP.out, hYY]; rfl)
    clear HYG HP hYY
    go_wp2_with fail
    try rw [Exit.noGoto_ret]
    go_ret
    exact ⟨by rw [HF.out]; rfl, by rw [HF.out]; exact hm2, HB2.out⟩
  · rw [hs] at HYG
    have HYH : Hid (Y = passGo (cs.drop (k + 1)) (setM m u) true) := Lib.hid (by rw [HYG.out, if_neg (by simp)])
    clear HYG
    go_wp2_with fail
    go_roundg (GM - 1)
    case measure => omega
    case rel => exact ⟨k + 1, setM m u, true, by omega, by go_num, rfl, hm2, HB2, HYH, by omega, fun _ => by omega⟩
end Go.Proofs.Ytjbhglmmakkkgaa
