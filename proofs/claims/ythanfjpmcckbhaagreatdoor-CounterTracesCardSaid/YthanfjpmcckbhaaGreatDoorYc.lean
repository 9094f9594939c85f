/- (Counter seat) Plain: only equal lists of clauses have one key. No program in sight. -/
import Derived.Test.YthanfjpmcckbhaaGreatDoorBase
import Derived.Lib.ItoaMem
import Derived.Test.YthanfjpmcckbhaaGreatDoorTa
import Derived.Test.YthanfjpmcckbhaaGreatDoorVz
import Derived.Shelf.Strconv.AppendIntPublic10
import Derived.Laws.IdiomStrings
import Derived.Laws.BytesArg
import Derived.Lib.ItoaLen
namespace Go.Proofs.YthanfjpmcckbhaaGreatDoor
set_option linter.unusedVariables false

def keyC (c : List Int) : List UInt8 := c.flatMap fun x => Lib.itoa x ++ [32]
/-- the bytes of a key -/
def keyB (l : List (List Int)) : List UInt8 := l.flatMap fun c => keyC c ++ [59]
theorem dig_val {d : Nat} (h : d < 10) : (UInt8.ofNat (48 + d)).toNat = 48 + d := by
  rw [UInt8.toNat_ofNat']
  omega
theorem dec_bytes (u : Nat) : ∀ b ∈ Lib.decDigits u, 48 ≤ b.toNat ∧ b.toNat ≤ 57 := by
  induction u using Nat.strongRecOn with
  | ind u ih =>
    rw [Lib.decDigits]
    split
    · rename_i h
      intro b hb
      have hb := List.mem_singleton.1 hb
      subst hb
      rw [dig_val h]
      omega
    · rename_i h
      intro b hb
      rcases List.mem_append.1 hb with h1 | h1
      · exact ih (u / 10) (by omega) b h1
      · have h1 := List.mem_singleton.1 h1
        subst h1
        rw [dig_val (by omega)]
        omega
theorem itoa_bytes (x : Int) : ∀ b ∈ Lib.itoa x, b ≠ 32 ∧ b ≠ 59 := by
  have key : ∀ u : Nat, ∀ b ∈ Lib.decDigits u, b ≠ 32 ∧ b ≠ 59 := fun u b hb => by
    have := dec_bytes u b hb
    constructor <;> (rintro rfl; simp at this)
  intro b hb
  unfold Lib.itoa at hb
  split at hb
  · rcases List.mem_cons.1 hb with rfl | h
    · decide
    · exact key _ b h
  · exact key _ b hb
def numV (l : List UInt8) : Nat := l.foldl (fun a b => a * 10 + (b.toNat - 48)) 0
theorem num_dec (u : Nat) : numV (Lib.decDigits u) = u := by
  induction u using Nat.strongRecOn with
  | ind u ih =>
    rw [Lib.decDigits]
    split
    · rename_i h
      show 0 * 10 + ((UInt8.ofNat (48 + u)).toNat - 48) = u
      rw [dig_val h]
      omega
    · rename_i h
      unfold numV
      rw [List.foldl_append]
      show numV (Lib.decDigits (u / 10)) * 10 + ((UInt8.ofNat (48 + u % 10)).toNat - 48) = u
      rw [ih (u / 10) (by omega), dig_val (by omega)]
      omega
theorem dec_ne_neg (u : Nat) (r : List UInt8) : Lib.decDigits u ≠ 45 :: r := fun e => by
  have := dec_bytes u 45 (by rw [e]; exact List.mem_cons_self ..)
  simp at this
theorem itoa_inj {x y : Int} (h : Lib.itoa x = Lib.itoa y) : x = y := by
  unfold Lib.itoa at h
  split at h <;> split at h
  · injection h with _ h
    have := congrArg numV h
    rw [num_dec, num_dec] at this
    omega
  · exact absurd h.symm (dec_ne_neg _ _)
  · exact absurd h (dec_ne_neg _ _)
  · have := congrArg numV h
    rw [num_dec, num_dec] at this
    omega
theorem cut_at {s : UInt8} : ∀ {a b r t : List UInt8}, s ∉ a → s ∉ b → a ++ s :: r = b ++ s :: t → a = b ∧ r = t
  | [], [], r, t, _, _, h => by simpa using h
  | [], y :: b, r, t, _, hb, h => by
    simp at h
    exact absurd (by rw [h.1]; exact List.mem_cons_self ..) hb
  | x :: a, [], r, t, ha, _, h => by
    simp at h
    exact absurd (by rw [h.1]; exact List.mem_cons_self ..) ha
  | x :: a, y :: b, r, t, ha, hb, h => by
    simp at h
    obtain ⟨h1, h2⟩ := cut_at (a := a) (b := b) (fun e => ha (List.mem_cons_of_mem _ e)) (fun e => hb (List.mem_cons_of_mem _ e)) h.2
    exact ⟨by rw [h.1, h1], h2⟩
theorem keyC_no (c : List Int) : (59 : UInt8) ∉ keyC c := fun h => by
  unfold keyC at h
  obtain ⟨x, hx, h⟩ := List.mem_flatMap.1 h
  rcases List.mem_append.1 h with h | h
  · exact (itoa_bytes x _ h).2 rfl
  · simp at h
theorem keyC_inj : ∀ {c d : List Int}, keyC c = keyC d → c = d
  | [], [], _ => rfl
  | [], y :: d, h => by
    unfold keyC at h
    rw [List.flatMap_cons] at h
    have := congrArg List.length h
    simp at this
  | x :: c, [], h => by
    unfold keyC at h
    rw [List.flatMap_cons] at h
    have := congrArg List.length h
    simp at this
  | x :: c, y :: d, h => by
    unfold keyC at h
    rw [List.flatMap_cons, List.flatMap_cons, List.append_assoc, List.append_assoc] at h
    obtain ⟨h1, h2⟩ := cut_at (fun e => (itoa_bytes x _ e).1 rfl) (fun e => (itoa_bytes y _ e).1 rfl) h
    rw [itoa_inj h1, keyC_inj h2]
theorem keyB_inj : ∀ {l m : List (List Int)}, keyB l = keyB m → l = m
  | [], [], _ => rfl
  | [], d :: m, h => by
    unfold keyB at h
    rw [List.flatMap_cons] at h
    have := congrArg List.length h
    simp at this
  | c :: l, [], h => by
    unfold keyB at h
    rw [List.flatMap_cons] at h
    have := congrArg List.length h
    simp at this
  | c :: l, d :: m, h => by
    unfold keyB at h
    rw [List.flatMap_cons, List.flatMap_cons, List.append_assoc, List.append_assoc] at h
    obtain ⟨h1, h2⟩ := cut_at (keyC_no c) (keyC_no d) h
    rw [keyC_inj h1, keyB_inj h2]

/- (Counter seat) Walk: key. No condition but the sizes and that the table of powers lies as laid. -/
open Go.ChangeShapes Go.WideShapes Go.ChangeAt Go.RowKit
set_option linter.unusedVariables false

/-- the table of powers, for every world in which only blocks from B on were turned -/
abbrev TabB (B : Nat) (w : World) : Prop := Lib.TabBelow Tryz.prog B w "internal/strconv.uint64pow10" .u64 Lib.pow10Tab
theorem TabB.below {B B' : Nat} {w w' : World} (h : TabB B w) (hb : Below B' w w') (hle : B ≤ B') : TabB B w' := h.on (hb.mono hle)
theorem TabB.up {B B' : Nat} {w : World} (h : TabB B w) (hle : B ≤ B') : TabB B' w := fun w' hb => h w' (hb.mono hle)
theorem cells_app (a b : List UInt8) : Lib.byteCells (a ++ b) = Lib.byteCells a ++ Lib.byteCells b := by unfold Lib.byteCells; rw [List.map_append]
def BytesOwn (B : Nat) (W : World) (xs : List UInt8) (e : Ending) (w' : World) : Prop := ∃ v, e = .returned v ∧ w'.ownsRow B 5 1 v xs.length (Lib.byteCells xs) ∧ Below B W w'
theorem appendint_own (B : Nat) (x : Int) (bv : Value) (xs : List UInt8) (w : World) (hown : w.ownsRow B 5 1 bv xs.length (Lib.byteCells xs)) (hBw : B ≤ w.heap.size) (hlim : xs.length + 21 ≤ 140737488355328) (hx : I64 x) (htab : TabB B w) :
    Calls Tryz.prog 85 #[bv, .int .i64 x, .int .i64 10] w (BytesOwn B w (xs ++ Lib.itoa x)) :=
  (Go.Proofs.Any.strconv_AppendInt_10 appendInt B xs.length x hx.1 hx.2 bv (Lib.byteCells xs) w hown hBw hlim htab).mono fun e w' ⟨v, he, ho, hb, _⟩ => by
    refine ⟨v, he, ?_, hb⟩
    rw [List.length_append, cells_app]
    exact ho
theorem conv_own {w : World} {B : Nat} {v : Value} {l : List UInt8} (h : w.ownsRow B 5 1 v l.length (Lib.byteCells l)) : (convert 104 9 v).run Tryz.prog w = .ok (.string ⟨l.toArray⟩) w := by
  have hc := fun g hg => h.cells (g := g) hg
  rcases h.2 with ⟨rfl, h0⟩ | ⟨g, cap, cur, rfl, _⟩
  · have : l = [] := List.eq_nil_of_length_eq_zero h0
    subst this
    have := run_convert_bytes_nil (P := Tryz.prog) w 104 5 Tryz.underlying104 Tryz.underlying5 0 0 9 Tryz.underlying9
    exact this
  · refine run_convert_bytes_back w 104 9 5 _ cap l Tryz.underlying104 Tryz.underlying5 Tryz.underlying9 fun j hj => ?_
    have h1 := hc g rfl j (.int .u8 (l[j].toNat : Int)) (by unfold Lib.byteCells; rw [List.getElem?_map, List.getElem?_eq_getElem hj]; rfl)
    rw [add_at] at h1 ⊢
    exact h1
theorem keyC_snoc (c : List Int) (x : Int) : keyC (c ++ [x]) = (keyC c ++ Lib.itoa x) ++ [32] := by unfold keyC; rw [List.flatMap_append]; simp
theorem keyB_snoc (l : List (List Int)) (c : List Int) : keyB (l ++ [c]) = (keyB l ++ keyC c) ++ [59] := by unfold keyB; rw [List.flatMap_append]; simp
theorem keyC_len : ∀ {c : List Int}, (∀ x ∈ c, I64 x) → (keyC c).length ≤ 22 * c.length
  | [], _ => Nat.le_refl _
  | x :: r, h => by
    have h1 := keyC_len (c := r) fun y hy => h y (List.mem_cons_of_mem _ hy)
    have hx := h x (List.mem_cons_self ..)
    have h2 := Lib.itoa_length_le x hx.1 hx.2
    unfold keyC at h1 ⊢
    rw [List.flatMap_cons, List.length_append, List.length_append, List.length_cons]
    simp only [List.length_cons, List.length_nil]
    omega
set_option maxRecDepth 100000 in
set_option maxHeartbeats 8000000 in
theorem key_any (F : Nat → Prop) (lv : Value) (cs : List (List Int)) (w : World) (hc : Clss F w lv cs) (hl : cs.length ≤ 4000) (hll : ∀ c ∈ cs, c.length ≤ 4000) (htab : TabB w.heap.size w) :
    Calls Tryz.prog 64 #[lv] w (fun e w' => e = .returned (.string ⟨(keyB cs).toArray⟩) ∧ Below w.heap.size w w') := by
  obtain ⟨ca, cn, cc, rfl, HCN, _⟩ := hc.form'
  have HIB := Lib.hid (show (Tryz.prog.info? 5).map (fun i => (i.zero, i.size, i.bytes)) = some (some (.int .u8 0), 1, 1) by kernel_rfl)
  have HC := Lib.hid hc
  have HLL := Lib.hid hll
  have HTB := Lib.hid htab
  have hn4 : cn ≤ 4000 := by rw [HCN.out]; exact hl
  have HB0 : Hid (Below w.heap.size w w) := Lib.hid (Below.refl _ _)
  have HO0 : Hid (w.ownsRow w.heap.size 5 1 (.slice none 0 0) (keyB (cs.take 0)).length (Lib.byteCells (keyB (cs.take 0)))) := Lib.hid (World.ownsRow_nil _ _ _ _)
  clear hc hl hll htab
  go_enter Tryz.func64, Tryz.ntmps64
  go_wp2_with fail
  go_loopg [3, 10] cn (fun gg u3 u10 wx => ∃ (k : Nat) (bv : Value), k + gg = cn ∧ u10 = .int .i64 k ∧ bv = u3 ∧ Hid (Below w.heap.size w wx) ∧ Hid (wx.ownsRow w.heap.size 5 1 bv (keyB (cs.take k)).length (Lib.byteCells (keyB (cs.take k)))) ∧ (keyB (cs.take k)).length ≤ 100000 * k)
  case atStart => exact ⟨0, _, by omega, rfl, rfl, HB0, HO0, by simp [keyB]⟩
  case round =>
  clear HB0 HO0
  obtain ⟨k, bv, hkg, rfl, rfl, HB, HO, hlen⟩ := hrel
  have hszr := HB.out.size
  by_cases hk : k < cn
  case neg =>
    obtain rfl : k = cn := by omega
    have hdk : decide ((k : Int) < k) = false := by simp
    have hdk' : decide (k < k) = false := decide_eq_false (by omega)
    have hcv := conv_own HO.out
    rw [List.take_of_length_le (by rw [HCN.out]; exact Nat.le_refl _)] at hcv
    have HBF := Lib.hid HB.out
    clear HO hlen
    go_wp2_with fail
    go_ret
    exact ⟨rfl, HBF.out⟩
  obtain ⟨c, hck, ec⟩ := drop_at (xs := cs) (k := k) (by rw [← HCN.out]; exact hk)
  obtain ⟨xb, xo, xv, rfl, _, hxb, hcx0, hxi0⟩ := HC.out.at hck
  have hcx := below_c HB.out hxb hcx0
  have hxi := hxi0.below HB.out
  obtain ⟨xa, xn, xc, rfl, HXN, _⟩ := hxi.form'
  have hcm := List.mem_of_getElem? hck
  have hxn4 : xn ≤ 4000 := by rw [HXN.out]; exact HLL.out c hcm
  have hdk : decide ((k : Int) < cn) = true := by simp; omega
  have hdk' : decide (k < cn) = true := decide_eq_true hk
  obtain ⟨K0, hK0⟩ : ∃ K, keyB (cs.take k) = K := ⟨_, rfl⟩
  rw [hK0] at HO hlen
  have HKN : Hid (keyB (cs.take (k + 1)) = (K0 ++ keyC c) ++ [59]) := Lib.hid (by rw [List.take_add_one, hck, ← hK0]; exact keyB_snoc _ _)
  have HXI := Lib.hid hxi0
  have HI64 : Hid (∀ x ∈ c, I64 x) := Lib.hid hxi0.2
  have HO1 : Hid (wr.ownsRow w.heap.size 5 1 bv (K0 ++ keyC (c.take 0)).length (Lib.byteCells (K0 ++ keyC (c.take 0)))) := Lib.hid (by rw [List.take_zero]; show wr.ownsRow _ _ _ _ (K0 ++ []).length _; rw [List.append_nil]; show wr.ownsRow _ _ _ _ _ (Lib.byteCells (K0 ++ [])); rw [List.append_nil]; exact HO.out)
  obtain ⟨GK, hGK⟩ : ∃ G, G = gk := ⟨_, rfl⟩
  subst hGK
  clear hck ec hcm hxi hxi0 hK0 HO
  go_wp2_with fail
  go_loopg [3, 16] xn (fun gg u3 u16 wx => ∃ (j : Nat) (bv : Value), j + gg = xn ∧ u16 = .int .i64 j ∧ bv = u3 ∧ Hid (Below w.heap.size w wx) ∧ Hid (wx.ownsRow w.heap.size 5 1 bv (K0 ++ keyC (c.take j)).length (Lib.byteCells (K0 ++ keyC (c.take j)))))
  case atStart => exact ⟨0, _, by omega, rfl, rfl, HB, HO1⟩
  case round =>
  clear HO1 HB hszr
  obtain ⟨j, bw, hjg, rfl, rfl, HB, HO⟩ := hrel
  have hszr := HB.out.size
  have hkl : (keyC (c.take j)).length ≤ 22 * j := Nat.le_trans (keyC_len fun x hx => HI64.out x (List.mem_of_mem_take hx)) (by rw [List.length_take]; omega)
  have hkl2 : (K0 ++ keyC (c.take j)).length ≤ 100000 * k + 22 * j := by rw [List.length_append]; omega
  obtain ⟨KJ, hKJ⟩ : ∃ K, K0 ++ keyC (c.take j) = K := ⟨_, rfl⟩
  have HKJ := Lib.hid hKJ
  rw [hKJ] at HO hkl2
  clear hKJ hkl
  by_cases hj : j < xn
  · obtain ⟨x, hxj, ex⟩ := drop_at (xs := c) (k := j) (by rw [← HXN.out]; exact hj)
    have hxw := HXI.out.below HB.out
    obtain ⟨yb, yo, rfl, _, hyb, hcy, hyi⟩ := hxw.at hxj
    have hdj : decide ((j : Int) < xn) = true := by simp; omega
    have hdj' : decide (j < xn) = true := decide_eq_true hj
    have HAI := Lib.hid (appendint_own w.heap.size x bw KJ wr HO.out hszr (by omega) hyi (HTB.out.on HB.out))
    have HTJ : Hid (K0 ++ keyC (c.take (j + 1)) = (KJ ++ Lib.itoa x) ++ [32]) := Lib.hid (by rw [List.take_add_one, hxj, ← HKJ.out]; show K0 ++ keyC (c.take j ++ [x]) = _; rw [keyC_snoc]; simp)
    have hil := Lib.itoa_length_le x hyi.1 hyi.2
    obtain ⟨ba, bc, hbv⟩ := own_form HO.out
    subst hbv
    clear hxw hxj ex hyi
    go_wp2_with fail
    refine HAI.out.mono ?_
    rintro e w5 ⟨v5, rfl, ho5, hb5⟩
    obtain ⟨ea, ec, rfl⟩ := own_form ho5
    have HB5 := Lib.hid (HB.out.trans hb5)
    have hs5 := HB5.out.size
    obtain ⟨m, hm⟩ : ∃ m, (KJ ++ Lib.itoa x).length = m := ⟨_, rfl⟩
    have hm2 : m ≤ 100000 * k + 22 * j + 21 := by rw [← hm, List.length_append]; omega
    rw [hm] at ho5 ⊢
    have HM := Lib.hid hm
    have hown := ho5
    clear hb5 HAI ho5 hm
    go_wp2_with (at_builtin; go_loud (refine wpList_push1 rfl _ _ 104 rfl 5 (.int .u8 0) 1 Tryz.underlying104 HIB.out rfl w.heap.size (.slice ea m ec) m (Lib.byteCells (KJ ++ Lib.itoa x)) _ (.int .u8 32) rfl rfl hown rfl (by omega) (by omega) (by omega) ?_); intro g7 cap7 w7 hown7 hg7 hs7 hgb hgl hat; have HB7 := Lib.hid (HB5.out.grown hg7 hs5 (fun k hk => (hown.lt k hk).1)); have HO7 := Lib.hid hown7; clear hown7 hg7 hat hgb hgl hs7 hown)
    go_roundg (gk - 1)
    case measure => omega
    case rel => exact ⟨j + 1, _, by omega, by go_num, rfl, HB7, Lib.hid (by rw [HTJ.out, cells_app, List.length_append, HM.out]; exact HO7.out)⟩
  obtain rfl : j = xn := by omega
  have hdj : decide ((j : Int) < j) = false := by simp
  have hdj' : decide (j < j) = false := decide_eq_false (by omega)
  have HKN2 : Hid (keyB (cs.take (k + 1)) = KJ ++ [59]) := Lib.hid (by
    have := HKJ.out
    rw [List.take_of_length_le (by rw [HXN.out]; exact Nat.le_refl _)] at this
    rw [HKN.out, this])
  obtain ⟨ba, bc, hbv⟩ := own_form HO.out
  subst hbv
  obtain ⟨m, hm⟩ : ∃ m, KJ.length = m := ⟨_, rfl⟩
  rw [hm] at HO hkl2 ⊢
  have HM := Lib.hid hm
  have hown := HO.out
  clear HO HKJ hm
  go_wp2_with (at_builtin; go_loud (refine wpList_push1 rfl _ _ 104 rfl 5 (.int .u8 0) 1 Tryz.underlying104 HIB.out rfl w.heap.size (.slice ba m bc) m (Lib.byteCells KJ) _ (.int .u8 59) rfl rfl hown rfl (by omega) (by omega) (by omega) ?_); intro g7 cap7 w7 hown7 hg7 hs7 hgb hgl hat; have HB7 := Lib.hid (HB.out.grown hg7 hszr (fun k hk => (hown.lt k hk).1)); have HO7 := Lib.hid hown7; clear hown7 hg7 hat hgb hgl hs7 hown)
  go_roundg (GK - 1)
  case measure => omega
  case rel => exact ⟨k + 1, _, by omega, by go_num, rfl, HB7, Lib.hid (by rw [HKN2.out, cells_app, List.length_append, HM.out]; exact HO7.out), by rw [HKN2.out, List.length_append, HM.out]; simp; omega⟩
end Go.Proofs.YthanfjpmcckbhaaGreatDoor
