/- Walk: mtbdd's order. No condition but sizes. -/
import Derived.Test.YteadlkecngfcoaaGreatO5
import Derived.BigQuiet
import Derived.Deep.QuietTactic
namespace Go.Proofs.YteadlkecngfcoaaGreat
open Go.ChangeShapes Go.WideShapes Go.ChangeAt Go.RowKit
set_option linter.unusedVariables false
set_option linter.unusedSimpArgs false

theorem vis_sub {L : Nat} {ns : List Fork} {O : List Int} (hO : VisI L ns O) : ∀ (k : Nat) (p : List Int) (r : Int), (∀ x ∈ p, x ∈ O) → r ∈ O → ∀ x ∈ vis L ns k p r, x ∈ O
  | 0, p, r, hp, _, x, hx => hp x hx
  | k + 1, p, r, hp, hr, x, hx => by
    rw [vis] at hx
    split at hx
    · exact hp x hx
    split at hx
    · rcases List.mem_append.1 hx with h | h
      · exact hp x h
      · simp at h; exact h ▸ hr
    rename_i hl
    split at hx
    · exact hp x hx
    rename_i f hf
    obtain ⟨⟨c1, _⟩, c3, _⟩ := hO.2.2 r hr (by omega)
    rw [frk_some hf] at c1 c3
    rcases List.mem_append.1 hx with h | h
    · exact vis_sub hO k _ _ (vis_sub hO k p f.2.1 hp c1) c3 x h
    · simp at h; exact h ▸ hr
theorem ndO_at {L : Nat} {ns : List Fork} {O : List Int} {r : Int} (hr : r ∈ O) (hL : (L : Int) ≤ r) : (ndO L ns O)[(nds L O).idxOf r]? = some ((frk L ns r).1, bref L O (frk L ns r).2.1, bref L O (frk L ns r).2.2) := by
  have h := List.idxOf_lt_length_of_mem (mem_nds.2 ⟨hr, hL⟩)
  unfold ndO
  rw [List.getElem?_map, List.getElem?_eq_getElem h]
  simp only [Option.map_some]
  rw [List.getElem_idxOf h]
theorem not_map {L : Nat} {O l : List Int} {r : Int} (hl : ∀ x ∈ l, x ∈ O) (hr : r ∈ O) (h : r ∉ l) : bref L O r ∉ l.map (bref L O) := fun hm => by
  obtain ⟨x, hx, e⟩ := List.mem_map.1 hm
  exact h (bref_inj (hl x hx) hr e ▸ hx)
theorem or_any (c : OrB) (ok : c.ok) (L : Nat) (ns : List Fork) (O : List Int) (kvB : Value) (hO : VisI L ns O) (hb : BackB L ns) (hL : L ≤ 400000) (hn : ns.length ≤ 400000) :
    ∀ (k : Nat) (p A : List Int) (r : Int) (lv kv : Value) (w : World), VisI L ns p → (∀ x ∈ p, x ∈ O) → (∀ x ∈ A, x ∈ O ∧ r < x) → r ∈ O → r < k → A.length + r ≤ L + ns.length → OrS c L O kvB (ndO L ns O) w p A lv kv →
    Calls Tryz.prog 113 #[.int .i64 (bref L O r), .pointer (some ⟨c.sv, 0, none⟩), .pointer (some ⟨c.lb, 0, none⟩), .pointer (some ⟨c.tb, 0, none⟩), .pointer (some ⟨c.wv, 0, none⟩), .pointer (some ⟨c.nb, 0, none⟩)] w (OrPost c L O kvB (ndO L ns O) lv kv w (vis L ns k p r) A)
  | 0, p, A, r, lv, kv, w, _, _, _, hr, hk, _, _ => by have := hO.2.1 r hr; omega
  | k + 1, p, A, r, lv, kv, w, hI, hp, hA, hr, hk, hAl, hS => by
    have ih := or_any c ok L ns O kvB hO hb hL hn k
    obtain ⟨r0, r1⟩ := hO.2.1 r hr
    have hbd := bref_bound (L := L) (o := O) r
    have hOl := hO.len
    have hpl := hI.len
    rw [vis]
    split
    · rename_i hm
      exact or_hit c L O p A kvB lv kv _ _ w ⟨by omega, by omega⟩ (List.mem_map.2 ⟨r, hm, rfl⟩) hS
    rename_i hno
    have hnA : r ∉ A := fun h => by have := (hA r h).2; omega
    have n1 := not_map (L := L) hp hr hno
    have n2 := not_map (L := L) (fun x hx => (hA x hx).1) hr hnA
    split
    · rename_i hl
      have hsp := hO.split.1
      have hix : (lfs L O).idxOf r ≤ (lfs L O).length := List.idxOf_le_length
      have e : bref L O r = 2 * ((lfs L O).idxOf r : Int) := by rw [bref, if_pos hl]
      rw [e] at n1 n2 ⊢
      exact or_leaf c ok L O p A kvB lv kv _ r _ w rfl (by omega) hl (by omega) ⟨n1, n2⟩ hS
    rename_i hl
    obtain ⟨f, hf⟩ : ∃ f, ns[(r - L).toNat]? = some f := ⟨_, List.getElem?_eq_getElem (by omega)⟩
    rw [hf]
    simp only
    obtain ⟨⟨b1, b2⟩, b3, b4⟩ := hb _ f hf
    have e1 : (((r - L).toNat : Nat) : Int) = r - L := by omega
    rw [e1] at b2 b4
    obtain ⟨⟨c1, _⟩, c3, _⟩ := hO.2.2 r hr (by omega)
    have hfk := frk_some hf
    rw [hfk] at c1 c3
    obtain ⟨i1, x1, m1, l1⟩ := vis_I hb k p f.2.1 hI b1 (by omega) (by omega)
    obtain ⟨i2, x2, m2, l2⟩ := vis_I hb k _ f.2.2 i1 b3 (by omega) (by omega)
    have s1 := vis_sub hO k p f.2.1 hp c1
    have hat := ndO_at (ns := ns) hr (by omega : (L : Int) ≤ r)
    rw [hfk] at hat
    have hsp := hO.split.2
    have hix : (nds L O).idxOf r ≤ (nds L O).length := List.idxOf_le_length
    have e : bref L O r = 2 * ((nds L O).idxOf r : Int) + 1 := by rw [bref, if_neg hl]
    rw [e] at n1 n2 ⊢
    have hA2 : ∀ q, q < r → ∀ x ∈ r :: A, x ∈ O ∧ q < x := fun q hq x hx => by
      rcases List.mem_cons.1 hx with h | h
      · subst h; exact ⟨hr, hq⟩
      · have := hA x h; exact ⟨this.1, by omega⟩
    have := i2.len
    exact or_node c ok L O p (vis L ns k p f.2.1) (vis L ns k (vis L ns k p f.2.1) f.2.2) A kvB lv kv _ r _ _ w rfl (by omega) (by omega) (by omega) (by omega) hat ⟨n1, n2⟩ hS
      (fun W lv' kv' h => ih p (r :: A) f.2.1 lv' kv' W hI hp (hA2 _ (by omega)) c1 (by omega) (by simp; omega) h)
      (fun W lv' kv' h => ih _ (r :: A) f.2.2 lv' kv' W i1 s1 (hA2 _ (by omega)) c3 (by omega) (by simp; omega) h)

/-- sorting by a function of indices -/
theorem sort_cap {α : Type} [Inhabited α] {P : Program} {ρ : Shelf.Ren} (L : SlLaysF.n6 P ρ) (enc : α → Value) (h1 : OneCell enc) (cf : α → α → Int) (hO : Sort.SWO (ltOf cf)) (g : Nat) (cb : Array Value)
    (eg : ∀ args w, (callFunc g args).run P w = .ok (.enter g args) w) (w : World) (base : Nat) (e : TypeId) (v : Value) (ds : List α)
    (hown : w.ownsRow base e 1 v ds.length (ds.map enc)) (hsz : ds.length < 4611686018427387904)
    (hcmp : ∀ (x y : α) (w' : World), (∀ k, k < w.heap.size → v.ownBlock ≠ some k → w'.heap[k]? = w.heap[k]?) → Calls P g (#[enc x, enc y] ++ cb) w' fun r w'' => r = .returned (.int .i64 (cf x y)) ∧ ∃ q, w'' = w'.drewN q) :
    Calls P (ρ.f 6) #[v, .func (.func g) #[] cb] w (SortPost w base e v enc cf ds) := by
  rcases hown.2 with ⟨rfl, h0⟩ | ⟨b, cap, cur, rfl, hbase, hb, hn, hcap, hcs, ht⟩
  · obtain rfl : ds = [] := List.eq_nil_of_length_eq_zero h0
    refine (AnyF.slices_SortFunc_none { L with } none 0 _ w).mono ?_
    rintro r w' ⟨rfl, rfl⟩
    exact ⟨rfl, [], List.Perm.refl _, List.Pairwise.nil, hown, ⟨rfl, rfl, rfl, Nat.le_refl _, fun _ _ _ => rfl⟩⟩
  · have hg : b < w.heap.size := (Array.getElem?_eq_some_iff.1 hb).1
    rw [Nat.mul_one] at ht
    have hH := holds_own enc hb ht
    have hc : CmpLays1 P g cb enc cf b 0 ds.toArray.size w := fun m os dk hs x y => by
      refine (hcmp x y _ fun k hk hne => ?_).mono ?_
      · exact (sorted_grown (os := os) (n := m) enc dk).block k hk fun h => hne h.symm
      · rintro r w'' ⟨rfl, q, rfl⟩
        exact ⟨rfl, q, #[], by rw [Sort.grow_empty]⟩
    have hcon := Any.slices_SortFunc L enc h1 cf hO g cb b 0 cap ds.toArray w eg hc hH hg (by simpa using hsz)
    rw [List.size_toArray] at hcon
    refine hcon.mono ?_
    rintro r w' ⟨rfl, d', n, os, hp, hs, rfl⟩
    have hl : d'.size = ds.length := by simpa using hp.1
    have hperm : d'.toList.Perm ds := by
      have h := hp.2.2
      rwa [Array.extract_eq_self_of_le (by omega), Array.extract_eq_self_of_le (by simp)] at h
    refine ⟨rfl, d'.toList, hperm, ?_, ?_, sorted_grown enc d'⟩
    · rw [List.pairwise_iff_getElem]
      intro i j hi hj hij
      have h := hs i j (Nat.zero_le _) hij (by simp at hj; omega)
      simp at hi hj
      rw [getElem!_pos d' j hj, getElem!_pos d' i hi] at h
      simpa [ltOf] using h
    · have hd : d'.toList.length = ds.length := by simpa using hl
      refine ⟨by simp [hl], .inr ⟨b, cap, _, rfl, hbase, sorted_block enc d' hb, hn, hcap, by simp [Sort.putCells, hcs], ?_⟩⟩
      rw [Nat.mul_one, ← hd]
      exact sorted_take enc cur d'.toList (by omega)

set_option maxRecDepth 100000 in
theorem order2_any (tb bb : Nat) (F : Nat → Prop) (lvB : Value) (vals : List Int) (i j : Nat) (vi vj : Int) (w : World) (h1 : w.cell? ⟨tb, 0, none⟩ = some (.pointer (some ⟨bb, 0, none⟩))) (h2 : w.cell? ⟨bb, 0, none⟩ = some lvB) (hx : Ints F w lvB vals) (hi : vals[i]? = some vi) (hj : vals[j]? = some vj) (ri : rngM vi = true) (rj : rngM vj = true) :
    Calls Tryz.prog 114 #[.int .i64 i, .int .i64 j, .pointer (some ⟨tb, 0, none⟩)] w fun e w' => e = .returned (.int .i64 (vi - vj)) ∧ ∃ q, w' = w.drewN q := by
  obtain ⟨la, ln, lc, rfl, HN, hn⟩ := hx.form'
  obtain ⟨eb, eo, rfl, heb, hebl, e0, _⟩ := hx.at hi
  obtain ⟨eb', eo', he, _, _, e1, _⟩ := hx.at hj
  injection he with he
  injection he with he1 he2
  subst he1 he2
  have b1 := (List.getElem?_eq_some_iff.1 hi).1
  have b2 := (List.getElem?_eq_some_iff.1 hj).1
  have hln := HN.out
  have k1 : (i : Int) < ln := by omega
  have k2 : (j : Int) < ln := by omega
  have k3 : (0 : Int) ≤ i := by omega
  have k4 : (0 : Int) ≤ j := by omega
  have k5 : i < ln := by omega
  have k6 : j < ln := by omega
  have hw : IntKind.i64.wrap (vi - vj) = vi - vj := by
    unfold rngM at ri rj
    simp only [Bool.and_eq_true, decide_eq_true_eq] at ri rj
    exact IntWalk.i64_in _ ⟨by omega, by omega⟩
  have hw0 : wrap64 (vi - vj) = vi - vj := IntWalk.wrap64_in _ ⟨by rw [show vi - vj = vi - vj from rfl]; unfold rngM at ri rj; simp only [Bool.and_eq_true, decide_eq_true_eq] at ri rj; omega, by unfold rngM at ri rj; simp only [Bool.and_eq_true, decide_eq_true_eq] at ri rj; omega⟩
  clear hx hi hj ri rj b1 b2 hln HN hn
  go_enter Tryz.func114, Tryz.ntmps114
  go_upto_region 1 with fail
  go_quiet (fail)
  go_wp2
  go_ret
  exact ⟨rfl, _, rfl⟩

theorem idx_self {l : List Int} (h : l.Nodup) : (l.map fun r => ((l.idxOf r : Nat) : Int)) = (List.range l.length).map Int.ofNat := by
  apply List.ext_getElem?
  intro i
  by_cases hi : i < l.length
  · rw [List.getElem?_map, List.getElem?_eq_getElem hi, List.getElem?_map, List.getElem?_range hi]
    simp only [Option.map_some]
    rw [h.idxOf_getElem i hi]
    rfl
  · rw [List.getElem?_eq_none (by simp; omega), List.getElem?_eq_none (by simp; omega)]
theorem ixL_self {L : Nat} {ns : List Fork} {O : List Int} (h : VisI L ns O) : ixL L O O = (List.range (lfs L O).length).map Int.ofNat := idx_self (h.1.filter _)
theorem ixN_self {L : Nat} {ns : List Fork} {O : List Int} (h : VisI L ns O) : ixN L O O = (List.range (nds L O).length).map Int.ofNat := idx_self (h.1.filter _)
theorem swo_sub {α : Type} (f : α → Int) : Sort.SWO (ltOf fun x y : α => f x - f y) where
  irrefl x := by simp [ltOf]
  trans x y z h1 h2 := by simp [ltOf] at h1 h2 ⊢; omega
  ntrans x y z h1 h2 := by simp [ltOf] at h1 h2 ⊢; omega
/-- what is visited holds a leaf -/
theorem has_leaf {L : Nat} {ns : List Fork} {O : List Int} (hO : VisI L ns O) (hb : BackB L ns) : ∀ (k : Nat) (r : Int), r < k → r ∈ O → ∃ x ∈ O, x < L
  | 0, r, h, hr => by have := hO.2.1 r hr; omega
  | k + 1, r, h, hr => by
    by_cases hl : r < L
    · exact ⟨r, hr, hl⟩
    obtain ⟨r0, r1⟩ := hO.2.1 r hr
    obtain ⟨f, hf⟩ : ∃ f, ns[(r - L).toNat]? = some f := ⟨_, List.getElem?_eq_getElem (by omega)⟩
    obtain ⟨⟨b1, b2⟩, _⟩ := hb _ f hf
    obtain ⟨⟨c1, _⟩, _⟩ := hO.2.2 r hr (by omega)
    rw [frk_some hf] at c1
    exact has_leaf hO hb k f.2.1 (by omega) c1
/-- what order hands back: the nodes' numbers and the leaves' numbers by their values -/
def OrdPost (W : World) (n m : Nat) (vals : List Int) (e : Ending) (w' : World) : Prop :=
  ∃ (nv lv : Value) (ls : List Nat), e = .returned (.tuple #[nv, lv]) ∧ Ints (fun b => W.heap.size ≤ b) w' nv ((List.range n).map Int.ofNat) ∧ Ints (fun b => W.heap.size ≤ b) w' lv (ls.map Int.ofNat) ∧ ls.Perm (List.range m) ∧ (ls.map fun i => vals.getD i 0).Pairwise (· ≤ ·) ∧ Below W.heap.size W w'
instance nat_lt_inh {m : Nat} : Inhabited {i : Nat // i < m + 1} := ⟨⟨0, by omega⟩⟩
set_option maxRecDepth 100000 in
set_option maxHeartbeats 4000000 in
theorem order_any (bb L : Nat) (lvs : List Int) (ns : List Fork) (O : List Int) (root : Int) (lvB kvB : Value) (w : World) (hk : O = vis L ns (L + ns.length + 1) [] root) (h0 : 0 ≤ root) (hr : root < L + ns.length) (hb : BackB L ns) (hL : L ≤ 400000) (hn : ns.length ≤ 400000)
    (hlen : lvs.length = L) (hrng : ∀ v ∈ lvs, rngM v = true) (hb0 : w.cell? ⟨bb, 0, none⟩ = some lvB) (hb1 : w.cell? ⟨bb, 1, none⟩ = some kvB) (hlv : Ints (fun _ => True) w lvB (lvO L lvs O)) (hkv : Forks (fun _ => True) w kvB (ndO L ns O)) :
    Calls Tryz.prog 100 #[.pointer (some ⟨bb, 0, none⟩), .int .i64 (bref L O root)] w (OrdPost w (nds L O).length (lfs L O).length (lvO L lvs O)) := by
  obtain ⟨hI, _, hm, _⟩ := vis_I hb (L + ns.length + 1) [] root (VisI.nil L ns) h0 hr (by omega)
  rw [← hk] at hI hm
  obtain ⟨s, hs⟩ : ∃ b, w.heap.size = b := ⟨_, rfl⟩
  have hmm := @run_makeMap Tryz.prog
  have HI := Lib.hid hI
  have HM := Lib.hid hm
  have HK := Lib.hid hk
  have HLV := Lib.hid hlv
  have HKV := Lib.hid hkv
  have HS := Lib.hid hs
  have HRN := Lib.hid hrng
  have HB := Lib.hid hb
  clear hI hm hk hlv hkv hrng hb
  go_enter Tryz.func100, Tryz.ntmps100
  go_upto_region 4 with fail
  obtain ⟨fnv, hfnv⟩ : ∃ x, Value.func (.func 113) #[] #[.pointer (some ⟨s + 1 + 1 + 1 + 1, 0, none⟩), .pointer (some ⟨s + 1 + 1, 0, none⟩), .pointer (some ⟨s, 0, none⟩), .pointer (some ⟨s + 1 + 1 + 1 + 1 + 1, 0, none⟩), .pointer (some ⟨s + 1, 0, none⟩)] = x := ⟨_, rfl⟩
  obtain ⟨W1, hW1⟩ : ∃ W, (((((w.alloc (.cells #[.pointer (some ⟨bb, 0, none⟩)] 105)).alloc (.cells #[.slice none 0 0] 22)).alloc (.cells #[.slice none 0 0] 22)).alloc (.map #[] 0)).alloc (.cells #[.map (some (s + 1 + 1 + 1))] 142)).alloc (.cells #[fnv] 73) = W := ⟨_, rfl⟩
  have z1 : (w.alloc (.cells #[.pointer (some ⟨bb, 0, none⟩)] 105)).heap.size = s + 1 := by rw [World.size_alloc, hs]
  have z2 : ((w.alloc (.cells #[.pointer (some ⟨bb, 0, none⟩)] 105)).alloc (.cells #[.slice none 0 0] 22)).heap.size = s + 1 + 1 := by rw [World.size_alloc, z1]
  have z3 : (((w.alloc (.cells #[.pointer (some ⟨bb, 0, none⟩)] 105)).alloc (.cells #[.slice none 0 0] 22)).alloc (.cells #[.slice none 0 0] 22)).heap.size = s + 1 + 1 + 1 := by rw [World.size_alloc, z2]
  have z4 : ((((w.alloc (.cells #[.pointer (some ⟨bb, 0, none⟩)] 105)).alloc (.cells #[.slice none 0 0] 22)).alloc (.cells #[.slice none 0 0] 22)).alloc (.map #[] 0)).heap.size = s + 1 + 1 + 1 + 1 := by rw [World.size_alloc, z3]
  have z5 : (((((w.alloc (.cells #[.pointer (some ⟨bb, 0, none⟩)] 105)).alloc (.cells #[.slice none 0 0] 22)).alloc (.cells #[.slice none 0 0] 22)).alloc (.map #[] 0)).alloc (.cells #[.map (some (s + 1 + 1 + 1))] 142)).heap.size = s + 1 + 1 + 1 + 1 + 1 := by rw [World.size_alloc, z4]
  have hbW : Below w.heap.size w W1 := by
    rw [← hW1]
    exact ((((((Below.refl _ _).alloc (Nat.le_refl _) _).alloc (by rw [z1]; omega) _).alloc (by rw [z2]; omega) _).alloc (by rw [z3]; omega) _).alloc (by rw [z4]; omega) _).alloc (by rw [z5]; omega) _
  have g0 : W1.heap[s]? = some (.cells #[.pointer (some ⟨bb, 0, none⟩)] 105) := by rw [← hW1]; exact old_at _ _ _ (old_at _ _ _ (old_at _ _ _ (old_at _ _ _ (old_at _ _ _ (new_at' _ _ hs.symm)))))
  have g1 : W1.heap[s + 1]? = some (.cells #[.slice none 0 0] 22) := by rw [← hW1]; exact old_at _ _ _ (old_at _ _ _ (old_at _ _ _ (old_at _ _ _ (new_at' _ _ z1.symm))))
  have g2 : W1.heap[s + 1 + 1]? = some (.cells #[.slice none 0 0] 22) := by rw [← hW1]; exact old_at _ _ _ (old_at _ _ _ (old_at _ _ _ (new_at' _ _ z2.symm)))
  have g3 : W1.heap[s + 1 + 1 + 1]? = some (.map #[] 0) := by rw [← hW1]; exact old_at _ _ _ (old_at _ _ _ (new_at' _ _ z3.symm))
  have g4 : W1.heap[s + 1 + 1 + 1 + 1]? = some (.cells #[.map (some (s + 1 + 1 + 1))] 142) := by rw [← hW1]; exact old_at _ _ _ (new_at' _ _ z4.symm)
  have g5 : W1.heap[s + 1 + 1 + 1 + 1 + 1]? = some (.cells #[fnv] 73) := by rw [← hW1]; exact new_at' _ _ z5.symm
  have hbs : bb < s := by have := block_lt hb0; omega
  obtain ⟨c, hc⟩ : ∃ c, OrB.mk bb s (s + 1) (s + 1 + 1) (s + 1 + 1 + 1) (s + 1 + 1 + 1 + 1) (s + 1 + 1 + 1 + 1 + 1) = c := ⟨_, rfl⟩
  have ok : c.ok := by rw [← hc]; exact ⟨by simp; omega, by simp, by simp, by simp, by simp, by simp⟩
  have hS1 : OrS c L O kvB (ndO L ns O) W1 [] [] (.slice none 0 0) (.slice none 0 0) := by
    rw [← hc]
    refine ⟨cell_of g4 rfl, cell_of g0 rfl, by rw [hfnv]; exact cell_of g5 rfl, below_c hbW (block_lt hb1) hb1, ?_, g2, g1, ?_, World.ownsRow_nil _ _ _ _, World.ownsRow_nil _ _ _ _, fun b e => by cases e⟩
    · exact (HKV.out.lt.below hbW).mono fun b hb => by have := hb.2; rw [hs] at this; exact this
    · have h := SMap.made (((w.alloc (.cells #[.pointer (some ⟨bb, 0, none⟩)] 105)).alloc (.cells #[.slice none 0 0] 22)).alloc (.cells #[.slice none 0 0] 22))
      rw [z3] at h
      exact (h.same (w' := W1) (g3.trans (new_at' _ _ z3.symm).symm)).congr rfl fun x _ => by simp
  have HC1 : Hid (Calls Tryz.prog 113 #[.int .i64 (bref L O root), .pointer (some ⟨s + 1 + 1 + 1 + 1, 0, none⟩), .pointer (some ⟨s + 1 + 1, 0, none⟩), .pointer (some ⟨s, 0, none⟩), .pointer (some ⟨s + 1 + 1 + 1 + 1 + 1, 0, none⟩), .pointer (some ⟨s + 1, 0, none⟩)] W1 (OrPost c L O kvB (ndO L ns O) (.slice none 0 0) (.slice none 0 0) W1 O [])) := Lib.hid (by
    have h := or_any c ok L ns O kvB HI.out HB.out hL hn (L + ns.length + 1) [] [] root (.slice none 0 0) (.slice none 0 0) W1 (VisI.nil L ns) (by simp) (by simp) HM.out (by omega) (by simp; omega) hS1
    rw [← HK.out] at h
    rw [← hc] at h ⊢
    exact h)
  have HW := Lib.hid hW1
  have HBW := Lib.hid hbW
  have HFN := Lib.hid hfnv
  have HC := Lib.hid hc
  have HOK := Lib.hid ok
  have HNX : Hid (∀ k, k < s → ¬ OrX c (.slice none 0 0) (.slice none 0 0) k) := Lib.hid fun k hk hx => by
    rw [← hc] at hx
    rcases hx with h | h | h | h | h
    · simp at h; omega
    · simp at h; omega
    · simp at h; omega
    · cases h
    · cases h
  have HNT : Hid (∀ k, OrX c (.slice none 0 0) (.slice none 0 0) k → k ≠ s) := Lib.hid fun k hx => by
    rw [← hc] at hx
    rcases hx with h | h | h | h | h
    · simp at h; omega
    · simp at h; omega
    · simp at h; omega
    · cases h
    · cases h
  have fc : W1.cell? ⟨s + 1 + 1 + 1 + 1 + 1, 0, none⟩ = some fnv := cell_of g5 rfl
  have hb0' := below_c hbW (block_lt hb0) hb0
  have hsW : s + 6 ≤ W1.heap.size := by have := block_lt fc; omega
  rw [hfnv]
  rw [HW.out]
  rw [← hfnv] at fc
  clear hW1 hbW hfnv hc ok g0 g1 g2 g3 g4 g5 z1 z2 z3 z4 z5 hS1 hmm
  go_wp2_with fail
  refine HC1.out.mono ?_
  rintro e w2 ⟨rfl, hfr, lv, kv, hS2, hat⟩
  have e1 : c.tb = s := by rw [← HC.out]
  have e2 : c.nb = s + 1 := by rw [← HC.out]
  have e3 : c.lb = s + 1 + 1 := by rw [← HC.out]
  have e4 : c.wv = s + 1 + 1 + 1 + 1 + 1 := by rw [← HC.out]
  have e5 : c.bb = bb := by rw [← HC.out]
  have e6 : c.sm = s + 1 + 1 + 1 := by rw [← HC.out]
  have hs2 : W1.heap.size ≤ w2.heap.size := hfr.size
  have HB2 : Hid (Below w.heap.size w w2) := Lib.hid (HBW.out.trans (hfr.below (by have := HBW.out.size; omega) fun k hk => HNX.out k (by omega)))
  have t0 := hS2.tc
  have l0 := cell_of (o := 0) hS2.lc rfl
  have n0 := cell_of (o := 0) hS2.nc rfl
  have nf := froz_of hS2.nc
  have lf := froz_of hS2.lc
  have hlo := hS2.lo
  have hko := hS2.ko
  have b0 := hfr.cell (HNX.out bb (by have := block_lt hb0; omega)) hb0'
  rw [e1, e5] at t0
  rw [e3] at l0 lf
  rw [e2] at n0 nf
  rw [e4] at hlo hko
  rw [ixL_self HI.out] at hlo
  rw [ixN_self HI.out] at hko
  have hne := hS2.ne
  obtain ⟨m, hm⟩ : ∃ m, (lfs L O).length = m + 1 := by
    obtain ⟨x, hx, hxl⟩ := has_leaf HI.out HB.out (L + ns.length + 1) root (by omega) HM.out
    have := List.length_pos_of_mem (mem_lfs.2 ⟨hx, hxl⟩)
    exact ⟨(lfs L O).length - 1, by omega⟩
  obtain ⟨n, hnn⟩ : ∃ n, (nds L O).length = n := ⟨_, rfl⟩
  rw [hm] at hlo
  rw [hnn] at hko
  obtain ⟨vals, hvals⟩ : ∃ v, lvO L lvs O = v := ⟨_, rfl⟩
  have hvl : vals.length = m + 1 := by rw [← hvals, lvO_len, hm]
  have hm5 : m + 1 ≤ 400000 := by have := HI.out.split.1; omega
  have hn5 : n ≤ 400000 := by have := HI.out.split.2; omega
  have hvr : ∀ v ∈ vals, rngM v = true := fun v hv => by
    rw [← hvals] at hv
    obtain ⟨x, hx, rfl⟩ := List.mem_map.1 hv
    obtain ⟨hx, hxl⟩ := mem_lfs.1 hx
    have h0 := (HI.out.2.1 x hx).1
    obtain ⟨u, hu⟩ : ∃ u, lvs[x.toNat]? = some u := ⟨_, List.getElem?_eq_getElem (by omega)⟩
    rw [getD_some hu]
    exact HRN.out u (List.mem_of_getElem? hu)
  obtain ⟨la, lcp, hlvs⟩ := own_form hlo
  obtain ⟨ka, kcp, hkvs⟩ := own_form hko
  subst hlvs hkvs
  obtain ⟨ds, hds⟩ : ∃ ds : List {i : Nat // i < m + 1}, ds.map Subtype.val = List.range (m + 1) := ⟨(List.range (m + 1)).pmap Subtype.mk (fun x hx => by simpa using hx), by rw [List.map_pmap]; simp⟩
  have hdl : ds.length = m + 1 := by have := congrArg List.length hds; simpa using this
  have hde : ds.map (fun x => Value.int .i64 (x.1 : Int)) = ((List.range (m + 1)).map Int.ofNat).map (.int .i64) := by rw [← hds, List.map_map, List.map_map]; rfl
  have HSORT : Hid (Calls Tryz.prog 43 #[.slice la (m + 1) lcp, .func (.func 114) #[] #[.pointer (some ⟨s, 0, none⟩)]] w2 (SortPost w2 (s + 1 + 1 + 1 + 1 + 1 + 1) 3 (.slice la (m + 1) lcp) (fun x : {i : Nat // i < m + 1} => Value.int .i64 (x.1 : Int)) (fun x y => vals.getD x.1 0 - vals.getD y.1 0) ds)) := Lib.hid (by
    refine sort_cap sortI (fun x : {i : Nat // i < m + 1} => Value.int .i64 (x.1 : Int)) (fun _ => rfl) (fun x y => vals.getD x.1 0 - vals.getD y.1 0) (swo_sub fun x : {i : Nat // i < m + 1} => vals.getD x.1 0) 114 #[.pointer (some ⟨s, 0, none⟩)]
      (enters_of Tryz.func114 (by kernel_rfl) rfl) w2 _ _ _ ds (by rw [hdl, hde]; exact hlo) (by omega) (fun x y w' hw' => ?_)
    have hno : ∀ k, k < s + 1 → (Value.slice la (m + 1) lcp).ownBlock ≠ some k := fun k hk e => by have := (hlo.lt _ e).1; omega
    have hbl := block_lt hb0
    have hsz := HB2.out.size
    obtain ⟨vi, hvi⟩ : ∃ v, vals[x.1]? = some v := ⟨_, List.getElem?_eq_getElem (by have := x.2; omega)⟩
    obtain ⟨vj, hvj⟩ : ∃ v, vals[y.1]? = some v := ⟨_, List.getElem?_eq_getElem (by have := y.2; omega)⟩
    have h := order2_any s bb (fun b => b < w.heap.size) lvB vals x.1 y.1 vi vj w' ((World.cell?_of_block (hw' s (by omega) (hno s (by omega)))).trans t0) ((World.cell?_of_block (hw' bb (by omega) (hno bb (by omega)))).trans b0)
      ((((hvals ▸ HLV.out).lt.below HB2.out).mono (fun b hb => hb.2)).move fun b hb hb2 => hw' b hb2 (hno b (by omega))) hvi hvj (hvr _ (List.mem_of_getElem? hvi)) (hvr _ (List.mem_of_getElem? hvj))
    rw [getD_some hvi, getD_some hvj]
    exact h)
  have HKO := Lib.hid hko
  have HLB : Hid (∀ b, (Value.slice la (m + 1) lcp).ownBlock = some b → s + 1 + 1 + 1 + 1 + 1 + 1 ≤ b ∧ b < w2.heap.size) := Lib.hid hlo.lt
  have HNE := Lib.hid hne
  have HM1 := Lib.hid hm
  have HN1 := Lib.hid hnn
  have HDS := Lib.hid hds
  have HDL := Lib.hid hdl
  have HVA := Lib.hid hvals
  clear hfr hS2 hat hko hlo hne hm hnn hds hdl hde hvals hvr hvl b0 HC1 fc hb0'
  simp only [List.getElem_toArray, List.getElem_cons_zero] at l0 n0
  go_wp2_with fail
  refine HSORT.out.mono ?_
  rintro e w3 ⟨rfl, ts, hp, hpw, hown, hg⟩
  have l1 := grown_cell hg (fun e => by have := (HLB.out _ e.symm).1; omega) l0
  have n1 := grown_cell hg (fun e => by have := (HLB.out _ e.symm).1; omega) n0
  have lf1 : ∀ o, w3.frozen? ⟨s + 1 + 1, o, none⟩ = false := fun o => grown_froz hg (fun e => by have := (HLB.out _ e.symm).1; omega) (block_lt l0) (lf o)
  have nf1 : ∀ o, w3.frozen? ⟨s + 1, o, none⟩ = false := fun o => grown_froz hg (fun e => by have := (HLB.out _ e.symm).1; omega) (block_lt n0) (nf o)
  have HG := Lib.hid hg
  have HOW := Lib.hid hown
  have HP := Lib.hid hp
  have HPW := Lib.hid hpw
  clear hp hpw hown hg l0 n0 lf nf HSORT
  go_upto_region 6 with fail
  go_region_held3 (fun w' => w'.cell? ⟨s + 1, 0, none⟩ = some (.slice ka n kcp) ∧ w'.cell? ⟨s + 1 + 1, 0, none⟩ = some (.slice la (m + 1) lcp))
    (first | exact ⟨n1, l1⟩ | exact ⟨set_eq n1, set_ne (by omega) l1⟩ | exact ⟨set_ne (by omega) n1, set_eq l1⟩ | exact ⟨set_ne (by omega) (set_eq n1), set_eq (set_ne (by omega) l1)⟩ | exact ⟨set_eq (set_ne (by omega) n1), set_ne (by omega) (set_eq l1)⟩)
    (fail)
  obtain ⟨w4, hw4⟩ : ∃ W, ((w3.setCell ⟨s + 1, 0, none⟩ (.slice ka n kcp)).setCell ⟨s + 1 + 1, 0, none⟩ (.slice la (m + 1) lcp)).drew = W := ⟨_, rfl⟩
  have n2 : w4.cell? ⟨s + 1, 0, none⟩ = some (.slice ka n kcp) := by rw [← hw4]; exact set_ne (by omega) (set_eq n1)
  have l2 : w4.cell? ⟨s + 1 + 1, 0, none⟩ = some (.slice la (m + 1) lcp) := by rw [← hw4]; exact set_eq (set_ne (by omega) l1)
  have keep : ∀ k, k ≠ s + 1 → k ≠ s + 1 + 1 → w4.heap[k]? = w3.heap[k]? := fun k h1 h2 => by
    rw [← hw4]
    show ((w3.setCell ⟨s + 1, 0, none⟩ (.slice ka n kcp)).setCell ⟨s + 1 + 1, 0, none⟩ (.slice la (m + 1) lcp)).heap[k]? = _
    rw [Below.heap_setCell _ _ _ _ (by simpa using h2), Below.heap_setCell _ _ _ _ (by simpa using h1)]
  have HB4 : Hid (Below w.heap.size w w4) := Lib.hid (by
    rw [← hw4]
    have h := HB2.out.grown HG.out (by omega) (fun b e => by have := (HLB.out b e).1; omega)
    exact ((h.setCell (by show w.heap.size ≤ s + 1; omega) _).setCell (by show w.heap.size ≤ s + 1 + 1; omega) _).drew)
  have HK4 := Lib.hid keep
  have HW4 := Lib.hid hw4
  clear hw4 keep
  rw [HW4.out]
  have hres : Tryz.f100.results = #[.cell 4 22, .cell 5 22] := rfl
  go_wp2_with fail
  refine bodyPost_ret (v := .tuple #[.slice ka n kcp, .slice la (m + 1) lcp]) (by simp only [results, hres]; go_simp) rfl ?_
  have hts : (ts.map Subtype.val).map Int.ofNat = ts.map (fun x : {i : Nat // i < m + 1} => Int.ofNat x.1) := by rw [List.map_map]; rfl
  have hko4 : w4.ownsRow (s + 1 + 1 + 1 + 1 + 1 + 1) 3 1 (.slice ka n kcp) n (((List.range n).map Int.ofNat).map (.int .i64)) :=
    row_same (HKO.out.kept HG.out (by
      by_cases hx : ∃ b, (Value.slice la (m + 1) lcp).ownBlock = some b
      · obtain ⟨b, hx⟩ := hx
        rw [hx]
        exact .inr (HNE.out b hx)
      · rcases hy : (Value.slice ka n kcp).ownBlock with _ | b
        · exact .inl rfl
        · exact .inr fun e => hx ⟨b, e.symm⟩)) fun b e => HK4.out b (by have := (HKO.out.lt b e).1; omega) (by have := (HKO.out.lt b e).1; omega)
  have hlo4 : w4.ownsRow (s + 1 + 1 + 1 + 1 + 1 + 1) 3 1 (.slice la (m + 1) lcp) (m + 1) (((ts.map Subtype.val).map Int.ofNat).map (.int .i64)) := by
    have h := HOW.out
    rw [HDL.out] at h
    rw [hts, List.map_map]
    exact row_same h fun b e => HK4.out b (by have := (HOW.out.lt b e).1; omega) (by have := (HOW.out.lt b e).1; omega)
  refine ⟨_, _, ts.map Subtype.val, rfl, ?_, ?_, ?_, ?_, HB4.out⟩
  · rw [HN1.out]
    exact ⟨(ownsRow_sl1 hko4 (by omega)).mono fun b hb => by have := hb.1; omega, fun x hx => by obtain ⟨y, hy, rfl⟩ := List.mem_map.1 hx; have := List.mem_range.1 hy; exact ⟨by show _ ≤ (y : Int); omega, by show (y : Int) ≤ _; omega⟩⟩
  · exact ⟨(ownsRow_sl1 hlo4 (by omega)).mono fun b hb => by have := hb.1; omega, fun x hx => by obtain ⟨y, hy, rfl⟩ := List.mem_map.1 hx; obtain ⟨z, hz, rfl⟩ := List.mem_map.1 hy; have := z.2; exact ⟨by show _ ≤ (z.1 : Int); omega, by show (z.1 : Int) ≤ _; omega⟩⟩
  · rw [HM1.out, ← HDS.out]
    exact HP.out.map _
  · rw [HVA.out, List.map_map, List.pairwise_map]
    exact HPW.out.imp fun {a b} h => by simp only [Function.comp]; omega

end Go.Proofs.YteadlkecngfcoaaGreat
