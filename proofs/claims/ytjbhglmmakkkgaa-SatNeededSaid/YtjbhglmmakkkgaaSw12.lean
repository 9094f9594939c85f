/- Walks: run at every depth; solve. -/
import Derived.Test.YtjbhglmmakkkgaaSw11
import Derived.Test.YtjbhglmmakkkgaaSt
namespace Go.Proofs.Ytjbhglmmakkkgaa
open Go.ChangeShapes Go.WideShapes Go.ChangeAt Go.RowKit
set_option linter.unusedVariables false

theorem run_any {F : Nat → Prop} {p V : Nat} {cs : List (List Int)} (hV : V ≤ 24) (hlit : LitsOk V cs) (hF : ∀ k, F k → k < p) : ∀ (n : Nat) (ds : List Int), Dec V cs n ds →
    ∀ (w : World) (cv lv mv dv : Value) (L : Int) (ls : List (List Int)), RunPre F p V cs w cv lv mv dv L ls ds (bud n) →
      Calls Try.prog 49 #[.pointer (some ⟨p, 0, none⟩), dv] w (RunPost p V w cv lv mv L ls (bud n) (runM V cs n ds))
  | 0, ds, hd => fun w cv lv mv dv L ls h => run_step (b := 0) hV hlit hF (fun _ => (none, [])) ds hd.lits (by have := hd.len; omega) (fun v hv hok => by rw [hd.closed hlit hok] at hv; cases hv) w cv lv mv dv L ls h
  | n + 1, ds, hd => fun w cv lv mv dv L ls h => run_step (b := bud n) hV hlit hF (runM V cs n) ds hd.lits (by have := hd.len; omega)
      (fun v hv hok lit hl w cv lv mv dv L ls h => run_any hV hlit hF n (ds ++ [lit]) (hd.step hlit hok hv hl) w cv lv mv dv L ls h) w cv lv mv dv L ls h

/-- a slice of clauses that the call owns; its rows lie elsewhere -/
def RowsX (w : World) (base : Nat) (v : Value) (cs : List (List Int)) : Prop :=
  ∃ us, w.ownsRow base 25 1 v cs.length us ∧ us.length = cs.length ∧ ∀ (j : Nat) u c, us[j]? = some u → cs[j]? = some c → Ints (fun b => v.ownBlock ≠ some b) w u c
theorem RowsX.form {w : World} {p : Nat} {v : Value} {ls : List (List Int)} (h : RowsX w p v ls) : ∃ a c, v = .slice a ls.length c := by
  obtain ⟨us, h1, _⟩ := h
  exact own_form h1
theorem RowsX.below {w w' : World} {p : Nat} {v : Value} {ls : List (List Int)} (h : RowsX w p v ls) (hb : Below w.heap.size w w') : RowsX w' p v ls := by
  obtain ⟨us, h1, h2, h3⟩ := h
  exact ⟨us, own_below h1 hb, h2, fun j u c hu hc => (h3 j u c hu hc).below hb⟩
theorem RowsX.clss {w : World} {p : Nat} {v : Value} {ls : List (List Int)} (h : RowsX w p v ls) (hn : ls.length ≤ 9223372036854775807) : Clss (fun b => b < w.heap.size) w v ls := by
  obtain ⟨us, h1, h2, h3⟩ := h
  have hs := (ownsRow_sl1 h1 hn).lt
  exact ⟨us, hs.mono fun b hb => hb.2, h2, fun j u c hu hc => (h3 j u c hu hc).lt.mono fun b hb => hb.2⟩
theorem RowsX.push {w w' : World} {base g cap : Nat} {v rv : Value} {ls : List (List Int)} {c : List Int} {us : List Value}
    (h2 : us.length = ls.length) (h3 : ∀ (j : Nat) u c, us[j]? = some u → ls[j]? = some c → Ints (fun b => v.ownBlock ≠ some b) w u c) (hr : Ints (fun b => v.ownBlock ≠ some b) w rv c)
    (hown : w'.ownsRow base 25 1 (.slice (some ⟨g, 0, none⟩) (ls.length + 1) cap) (ls.length + 1) (us ++ [rv])) (hg : w.grownBy w' v.ownBlock) (hat : v.ownBlock = some g ∨ w.heap.size ≤ g) :
    RowsX w' base (.slice (some ⟨g, 0, none⟩) (ls.length + 1) cap) (ls ++ [c]) := by
  have mv : ∀ u m, Ints (fun b => v.ownBlock ≠ some b) w u m → Ints (fun b => (Value.slice (some ⟨g, 0, none⟩) (ls.length + 1) cap).ownBlock ≠ some b) w' u m := by
    intro u m hu
    refine (hu.lt.move (w' := w') fun b hb hlt => hg.block b hlt (fun e => hb.1 e.symm)).mono fun b hb => ?_
    simp only [Value.ownBlock]
    intro e
    injection e with e
    subst e
    rcases hat with h | h
    · exact hb.1 h
    · omega
  refine ⟨_, by rw [List.length_append]; exact hown, by simp [h2], fun j u x hu hx => ?_⟩
  rcases Nat.lt_or_ge j us.length with hj | hj
  · rw [List.getElem?_append_left hj] at hu
    rw [List.getElem?_append_left (by omega)] at hx
    exact mv u x (h3 j u x hu hx)
  · rw [List.getElem?_append_right hj] at hu
    rw [List.getElem?_append_right (by omega)] at hx
    rw [h2] at hu
    rcases hk : j - ls.length with _ | k
    · rw [hk] at hu hx
      simp at hu hx
      subst hu hx
      exact mv rv c hr
    · rw [hk] at hu
      simp at hu
theorem Clss.lt {F : Nat → Prop} {w : World} {v : Value} {cs : List (List Int)} (h : Clss F w v cs) : Clss (fun b => b < w.heap.size) w v cs := by
  obtain ⟨us, h1, h2, h3⟩ := h
  exact ⟨us, h1.lt.mono fun b hb => hb.2, h2, fun j u c hu hc => (h3 j u c hu hc).lt.mono fun b hb => hb.2⟩
section push
variable {P : Program} {ops : Array Oper} {rest : List Oper} {o : Oper} {a : Act} {Q : Exit → Act → World → Prop}
/-- append of one element of one cell, its block's number typed otherwise -/
theorem wpList_push1B (B : Nat) (hgd : o.guard = none) (s x : Operand) (t : TypeId)
    (ho : o.op = .call { callee := .builtin .append, args := #[s, x], argTypes := #[t, t] })
    (E : TypeId) (z : Value) (bytes : Nat) (ht : P.underlying t = some (.slice E)) (hinfo : (P.info? E).map (fun i => (i.zero, i.size, i.bytes)) = some (some z, 1, bytes)) (hz1 : z.cells.size = 1)
    (base : Nat) (v : Value) (n : Nat) (xs : List Value) (w0 : World) (u : Value)
    (hs : a.eval s = v) (hx : a.eval x = .slice (some ⟨B, 0, none⟩) 1 1) (hB : B = w0.heap.size) (hown : w0.ownsRow base E 1 v n xs) (hu : u.oneCell' = true)
    (hn : (n + 1) * bytes ≤ 140737488355328) (hby : 1 ≤ bytes) (hbase : base ≤ w0.heap.size)
    (h : ∀ (g cap' : Nat) w', w'.ownsRow base E 1 (.slice (some ⟨g, 0, none⟩) (n + 1) cap') (n + 1) (xs ++ [u]) → w0.grownBy w' v.ownBlock → w0.heap.size < w'.heap.size → base ≤ g → g < w'.heap.size → (v.ownBlock = some g ∨ w0.heap.size ≤ g) → wpList P ops Q rest (a.put o.dst (.slice (some ⟨g, 0, none⟩) (n + 1) cap')) w') :
    wpList P ops Q (o :: rest) a (w0.alloc (.cells #[u] E)) := by
  subst hB
  exact wpList_push1 hgd s x t ho E z bytes ht hinfo hz1 base v n xs w0 u hs hx hown hu hn hby hbase h
end push
theorem new_srch (w : World) (cv : Value) (V : Nat) : Srch (w.alloc (.cells #[cv, .int .i64 V, .int .i64 (-1), .slice none 0 0, .slice none 0 0] 73)) w.heap.size V cv (.slice none 0 0) (.slice none 0 0) (-1) :=
  ⟨by simp, by simp, by simp, by simp, by simp, fun i => by simp⟩

/-- what solve leaves -/
def SolvePost (W : World) (V : Nat) (r : Rrun) (e : Ending) (w' : World) : Prop :=
  ∃ (p : Nat) (o L : Int) (cv lv mv : Value), e = .returned (.tuple #[.pointer (some ⟨p, 0, none⟩), .int .i64 o]) ∧ o = (if r.1.isSome = true then 1 else 0) ∧ Srch w' p V cv lv mv L ∧ LemO w' p lv r.2 ∧
    (∀ x, r.1 = some x → Bools (fun _ => True) w' mv x) ∧ (r.1 = none → mv = .slice none 0 0) ∧ Below W.heap.size W w'
def solveM (V : Nat) (cs : List (List Int)) (lits : List Int) : Rrun := runM V (cs ++ lits.map fun l => [l]) V []

set_option maxHeartbeats 4000000 in
theorem solve_any {F G : Nat → Prop} (V : Nat) (cv lv : Value) (cs : List (List Int)) (lits : List Int) (w : World) (hc : Clss F w cv cs) (hl : Ints G w lv lits) (hV : V ≤ 24) (hcs : LitsOk V cs) (hlits : ∀ l ∈ lits, LitOk V l) (hn : cs.length ≤ 1000000) (hnl : lits.length ≤ 1000) :
    Calls Try.prog 41 #[.int .i64 (V : Int), cv, lv] w (SolvePost w V (solveM V cs lits)) := by
  obtain ⟨ca, cn, cc, rfl, HCN, hcn⟩ := hc.form'
  obtain ⟨la, ln, lc, rfl, HLN, hln⟩ := hl.form'
  obtain ⟨R, hR⟩ : ∃ R, solveM V cs lits = R := ⟨_, rfl⟩
  rw [hR]
  have HRS := Lib.hid hR
  clear hR
  have hinfo : (Try.prog.info? 3).map (fun i => (i.zero, i.size, i.bytes)) = some (some (.int .i64 0), 1, 8) := by kernel_rfl
  have hinfo2 : (Try.prog.info? 25).map (fun i => (i.zero, i.size, i.bytes)) = some (some (.slice none 0 0), 1, 24) := by kernel_rfl
  have HI := Lib.hid hinfo
  have HI2 := Lib.hid hinfo2
  have hcl := clones_any (fun b => b < w.heap.size) (.slice ca cn cc) cs w hc.lt (by omega)
  have HCLN := Lib.hid hcl
  have HL := Lib.hid hl
  have HCS := Lib.hid hcs
  have HLS := Lib.hid hlits
  have hlb : ∀ l ∈ lits, -1000000 ≤ l ∧ l ≤ 1000000 := fun l h => by obtain ⟨_, h2, h3⟩ := hlits l h; omega
  have HLBB := Lib.hid hlb
  clear hinfo hinfo2 hcl hc hl hcs hlits hlb
  go_enter Try.func41, Try.ntmps41
  go_wp2_with fail
  refine HCLN.out.mono ?_
  rintro e w1 ⟨v1, rfl, hr1, hb1⟩
  have HR1 : Hid (RowsX w1 w.heap.size v1 (cs ++ (lits.take 0).map fun l => [l])) := Lib.hid (by
    obtain ⟨us, h1, h2, h3⟩ := hr1
    have hb := h1.lt
    rw [List.take_zero, List.map_nil, List.append_nil]
    exact ⟨us, h1, h2, fun j u c hu hc => (h3 j u c hu hc).mono fun b hb' e => by have := hb b e; omega⟩)
  have HB1 := Lib.hid hb1
  clear hr1 hb1 HCLN
  go_wp2
  go_loopg [8, 16] ln (fun gg u8 u16 wx => ∃ k : Nat, k + gg = ln ∧ u16 = .int .i64 k ∧ Hid (Below w.heap.size w wx) ∧ Hid (RowsX wx w.heap.size u8 (cs ++ (lits.take k).map fun l => [l])))
  case atStart => exact ⟨0, by omega, rfl, HB1, HR1⟩
  case round =>
  clear HB1 HR1
  obtain ⟨k, hkg, rfl, HB, HRX⟩ := hrel
  have hwr := HB.out.size
  by_cases hk : k < ln
  case pos =>
    obtain ⟨x, hx, e⟩ := drop_at (xs := lits) (k := k) (by have := HLN.out; omega)
    have hll := HL.out.below HB.out
    obtain ⟨xb, xo, rfl, _, hxb, hxc, hx64⟩ := hll.at hx
    obtain ⟨CK, hCK⟩ : ∃ x, (cs ++ (lits.take k).map fun l => [l]) = x := ⟨_, rfl⟩
    have hckl : CK.length ≤ 1001000 := by rw [← hCK]; simp; have := HLN.out; have := HCN.out; omega
    have HNX : Hid (cs ++ (lits.take (k + 1)).map (fun l => [l]) = CK ++ [[x]]) := Lib.hid (by
      rw [← hCK, List.take_succ_eq_append_getElem (by have := HLN.out; omega)]
      have : lits[k]'(by have := HLN.out; omega) = x := by rw [List.getElem?_eq_getElem (by have := HLN.out; omega)] at hx; injection hx
      simp [this])
    rw [hCK] at HRX
    obtain ⟨ua, uc, rfl⟩ := HRX.out.form
    have hba : Below wr.heap.size wr (wr.alloc (.cells #[.int .i64 x] 3)) := (Below.refl _ _).alloc (Nat.le_refl _) _
    have hcur : Ints (fun b => (Value.slice ua CK.length uc).ownBlock ≠ some b) (wr.alloc (.cells #[.int .i64 x] 3)) (.slice (some ⟨wr.heap.size, 0, none⟩) 1 1) [x] := by
      obtain ⟨us, h1, _⟩ := HRX.out
      have hb := h1.lt
      exact (ints_block [x] 1 (new_at wr _) (by simp) (by simp) (by simpa using hx64)).mono fun b hb' e => by have := hb b e; omega
    obtain ⟨us, hown, hus, hrow⟩ := HRX.out.below hba
    have HCUR := Lib.hid hcur
    have HUS := Lib.hid hus
    have HROW := Lib.hid hrow
    have HBA := Lib.hid (HB.out.trans (hba.mono hwr))
    have hbz : w.heap.size ≤ (wr.alloc (.cells #[.int .i64 x] 3)).heap.size := by simp; omega
    clear hCK hll e hx hba hcur hus hrow
    go_wp2_with (at_builtin; go_loud (refine wpList_push1B (wr.heap.size + 1) rfl _ _ 22 rfl 25 (.slice none 0 0) 24 Try.underlying22 HI2.out rfl w.heap.size (.slice ua CK.length uc) CK.length us (wr.alloc (.cells #[.int .i64 x] 3)) (.slice (some ⟨wr.heap.size, 0, none⟩) 1 1) rfl rfl (by simp) hown rfl (by omega) (by omega) hbz ?_); intro g3 cap3 w3 hown3 hg3 hs3 hgb hgl hat; have HX3 := Lib.hid (RowsX.push HUS.out HROW.out HCUR.out hown3 hg3 hat); have HB3 := Lib.hid (HBA.out.grown hg3 hbz (fun k hk => (hown.lt k hk).1)); clear hown3 hg3 hat hown)
    go_roundg (gk - 1)
    case measure => omega
    case rel => exact ⟨k + 1, by omega, by go_num, HB3, by rw [HNX.out]; exact HX3⟩
  have hk2 : ln ≤ k := by omega
  obtain ⟨CK, hCK⟩ : ∃ x, (cs ++ lits.map fun l => [l]) = x := ⟨_, rfl⟩
  have HRY : Hid (RowsX wr w.heap.size u8 CK) := Lib.hid (by
    have := HRX.out
    rw [List.take_of_length_le (by have := HLN.out; omega), hCK] at this
    exact this)
  have hckl : CK.length ≤ 1001000 := by rw [← hCK]; simp; have := HLN.out; have := HCN.out; omega
  have hcko : LitsOk V CK := by
    rw [← hCK]
    intro c hc l hl
    rcases List.mem_append.1 hc with h | h
    · exact HCS.out c h l hl
    · obtain ⟨y, hy, rfl⟩ := List.mem_map.1 h
      simp at hl
      subst hl
      exact HLS.out l hy
  have HR : Hid (R = runM V CK V []) := Lib.hid (by rw [← HRS.out, solveM, hCK])
  have HCKO := Lib.hid hcko
  obtain ⟨ua, uc, rfl⟩ := HRY.out.form
  clear hk HRX hCK hcko
  go_wp2_with fail
  refine (newSearch_any V _ _ _ _ wr rfl hV).mono ?_
  rintro e w4 ⟨rfl, rfl⟩
  have hpre := run_any (F := fun b => b < wr.heap.size) (p := wr.heap.size) hV HCKO.out (fun k h => h) V [] (Dec.nil V CK) _ (.slice ua CK.length uc) (.slice none 0 0) (.slice none 0 0) (.slice none 0 0) (-1) []
    ⟨new_srch wr (.slice ua CK.length uc) V, (HRY.out.clss (by omega)).below ((Below.refl _ _).alloc (Nat.le_refl _) _), LemO.nil _ _, Ints.nil _ _, by omega, by have := bud_le hV; omega, by have := bud_le hV; simp; omega⟩
  rw [← HR.out] at hpre
  have HPRE := Lib.hid hpre
  clear hpre
  go_wp2_with fail
  refine HPRE.out.mono ?_
  rintro e w5 ⟨o, L5, lv5, mv5, rfl, ho, hs5, _, _, hl5, _, hm5, hmn5, hk5, _⟩
  have HS5 := Lib.hid hs5
  have HL5 := Lib.hid hl5
  have HM5 := Lib.hid hm5
  have HMN5 := Lib.hid hmn5
  have HO := Lib.hid ho
  have HB5 : Hid (Below w.heap.size w w5) := Lib.hid ((HB.out.alloc hwr _).trans (hk5.below (by simp; omega) (fun i h => by
    rcases h with h | h
    · omega
    · cases h)))
  clear hs5 hl5 hm5 hmn5 hk5 ho
  go_wp2_with fail
  go_ret2
  exact ⟨wr.heap.size, o, L5, _, lv5, mv5, rfl, HO.out, HS5.out, by simpa using HL5.out, fun x hx => (HM5.out x hx).mono fun _ _ => trivial, HMN5.out, HB5.out⟩
end Go.Proofs.Ytjbhglmmakkkgaa
