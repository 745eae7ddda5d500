/-
  The walk of silolaw03.ShaDigits.
-/
import Derived.Test.YtoijdiokomineaaDoorDigit
import Derived.Test.YtoijdiokomineaaDoorClass
import Derived.Lib.LazyBuf
namespace Go.Proofs.YtoijdiokomineaaDoor
open Go.RowKit
set_option linter.unusedVariables false

/-- A key's digits. -/
def hexS (K : Nat → Int) : ByteArray := strOfNums ((List.range 64).map (hexv K))
theorem hexA (K : Nat → Int) (hK : ∀ j, U8 (K j)) (w : World) : Calls Tryd.prog 16 #[.agg (nums .u8 K 32)] w fun e w' => e = .returned (.string (hexS K)) ∧ Below w.heap.size w w' := hex_any K hK w
theorem rhexA (K : Nat → Int) (hK : ∀ j, U8 (K j)) (w : World) : Calls Tryd.prog 17 #[.agg (nums .u8 K 32)] w fun e w' => e = .returned (.string (hexS K)) ∧ Below w.heap.size w w' := rhex_any K hK w
theorem ch_nums (l : List Int) (j : Nat) (hj : j < l.length) (hu : U8 (l.getD j 0)) : ch (strOfNums l) j = l.getD j 0 := by
  unfold ch
  rw [strOfNums_data, List.getD_eq_getElem?_getD, List.getElem?_map, List.getElem?_eq_getElem hj]
  rw [List.getD_eq_getElem?_getD, List.getElem?_eq_getElem hj] at *
  simp only [Option.map_some, Option.getD_some] at *
  unfold U8 at hu
  rw [UInt8.toNat_ofNat']
  omega
theorem hexv_at (K : Nat → Int) (hK : ∀ j, U8 (K j)) (j : Nat) : ∃ x : Int, 0 ≤ x ∧ x < 16 ∧ hexv K j = hexd x ∧ x = (if j % 2 = 0 then K (j / 2) / 16 else K (j / 2) % 16) := by
  have := hK (j / 2)
  unfold U8 at this
  unfold hexv
  by_cases h : j % 2 = 0
  · rw [if_pos h, if_pos h]; exact ⟨_, by omega, by omega, rfl, rfl⟩
  · rw [if_neg h, if_neg h]; exact ⟨_, by omega, by omega, rfl, rfl⟩
theorem ch_hexS (K : Nat → Int) (hK : ∀ j, U8 (K j)) (j : Nat) (hj : j < 64) : ch (hexS K) j = hexv K j := by
  have e : ((List.range 64).map (hexv K)).getD j 0 = hexv K j := by
    rw [List.getD_eq_getElem?_getD, List.getElem?_map, List.getElem?_range hj]; rfl
  unfold hexS
  rw [ch_nums _ j (by simpa using hj)]
  · exact e
  · rw [e]
    obtain ⟨x, h0, h1, hx, _⟩ := hexv_at K hK j
    rw [hx]; unfold hexd U8; split <;> omega
theorem dv_hexS (K : Nat → Int) (hK : ∀ j, U8 (K j)) (j : Nat) (hj : j < 64) : dv (ch (hexS K) j) = (if j % 2 = 0 then K (j / 2) / 16 else K (j / 2) % 16) ∧ dv (ch (hexS K) j) ≠ 16 := by
  rw [ch_hexS K hK j hj]
  obtain ⟨x, h0, h1, hx, he⟩ := hexv_at K hK j
  rw [hx, dv_hexd x h0 h1]
  exact ⟨he, by omega⟩
theorem okS_hexS (K : Nat → Int) (hK : ∀ j, U8 (K j)) : okS (hexS K) = true := by
  unfold okS
  rw [Bool.and_eq_true]
  refine ⟨?_, (digN_iff _ _).2 fun j hj => (dv_hexS K hK j hj).2⟩
  rw [beq_iff_eq]
  unfold hexS
  rw [strOfNums_size]; simp
theorem pkS_hexS (K : Nat → Int) (hK : ∀ j, U8 (K j)) : nums .u8 (pkS (hexS K)) 32 = nums .u8 K 32 := nums_congr _ _ _ _ fun j hj => by
  have := hK j
  unfold U8 at this
  unfold pkS
  rw [if_pos (okS_hexS K hK)]
  unfold pcell
  rw [if_pos (by omega), (dv_hexS K hK (2 * j) (by omega)).1, (dv_hexS K hK (2 * j + 1) (by omega)).1, if_pos (by omega), if_neg (by omega), show 2 * j / 2 = j by omega, show (2 * j + 1) / 2 = j by omega]
  omega
theorem pkS_u8 (s : ByteArray) (j : Nat) : U8 (pkS s j) := by
  unfold pkS pcell U8
  by_cases ok : okS s = true
  · rw [if_pos ok]
    unfold okS at ok
    rw [Bool.and_eq_true] at ok
    have hd := (digN_iff s 64).1 ok.2
    have h0 := dv_u (ch s (2 * j))
    have h1 := dv_u (ch s (2 * j + 1))
    by_cases l : 2 * j + 1 < 64
    · rw [if_pos l]
      have := hd (2 * j) (by omega)
      have := hd (2 * j + 1) (by omega)
      omega
    · rw [if_neg l, if_neg (by omega)]; omega
  · rw [if_neg ok]; omega
theorem hexS_pkS (s : ByteArray) (ok : okS s = true) : hexS (pkS s) = s := by
  have ok' := ok
  unfold okS at ok'
  rw [Bool.and_eq_true, beq_iff_eq] at ok'
  obtain ⟨h64, hd⟩ := ok'
  have hd := (digN_iff s 64).1 hd
  have e : (List.range 64).map (hexv (pkS s)) = s.data.toList.map fun b => (b.toNat : Int) := by
    have hl : s.data.toList.length = 64 := by rw [← h64]; rfl
    apply List.ext_getElem
    · simp [hl]
    · intro j h1 h2
      have hj : j < 64 := by simpa using h1
      have hc : ((s.data.toList.map fun b => (b.toNat : Int)))[j] = ch s j := by
        unfold ch
        rw [List.getD_eq_getElem?_getD, List.getElem?_eq_getElem (by omega)]
        simp
      rw [hc]
      simp only [List.getElem_map, List.getElem_range]
      have hn := hd j hj
      have key : ∀ i, i < 32 → pkS s i = dv (ch s (2 * i)) * 16 + dv (ch s (2 * i + 1)) := fun i hi => by
        unfold pkS pcell; rw [if_pos ok, if_pos (by omega)]
      unfold hexv
      by_cases hp : j % 2 = 0
      · rw [if_pos hp, key _ (by omega), show 2 * (j / 2) = j by omega]
        have h0 := dv_u (ch s (j + 1))
        have h1 := hd (j + 1) (by omega)
        rw [show (dv (ch s j) * 16 + dv (ch s (j + 1))) / 16 = dv (ch s j) by omega]
        exact hexd_dv _ hn
      · rw [if_neg hp, key _ (by omega), show 2 * (j / 2) + 1 = j by omega]
        have h0 := dv_u (ch s j)
        rw [show (dv (ch s (2 * (j / 2))) * 16 + dv (ch s j)) % 16 = dv (ch s j) by omega]
        exact hexd_dv _ hn
  unfold hexS
  rw [e]
  apply ByteArray.ext
  simp [strOfNums]
  have hid : ((fun n : Int => UInt8.ofNat n.toNat) ∘ fun b : UInt8 => (b.toNat : Int)) = id := by
    funext b; simp
  rw [hid]; simp
theorem sameF_self (A : Nat → Int) (n i : Nat) : sameF A A n i = true := (sameF_iff A A n i).2 fun _ _ _ => rfl

/-- A key laid into a new variable. -/
def layK (w : World) (A : Nat → Int) : World := (w.alloc (.cells (nums .u8 (fun _ => 0) 32) 25)).setRow w.heap.size (nums .u8 A 32)
theorem layK_range (w : World) (A : Nat → Int) : (layK w A).rangeAt w.heap.size 0 (numsL .u8 A 32) := range_nums (setRow_heap _ _ _ _ _ _ (heap_new w _))
theorem layK_below (w : World) (A : Nat → Int) : Below w.heap.size w (layK w A) := below_setRow' ((Below.refl _ _).alloc (Nat.le_refl _) _) _ (Nat.le_refl _) _

/-- The four keys lie where they were laid. -/
def KC4 (w : World) (b5 b7 b9 : Nat) (K A : Nat → Int) (w' : World) : Prop :=
  w'.rangeAt w.heap.size 0 (numsL .u8 K 32) ∧ w'.rangeAt b5 0 (numsL .u8 A 32) ∧ w'.rangeAt b7 0 (numsL .u8 A 32) ∧ w'.rangeAt b9 0 (numsL .u8 K 32) ∧ Below w.heap.size w w'
theorem KC4.step {w : World} {b5 b7 b9 : Nat} {K A : Nat → Int} {w1 w2 : World} (h : KC4 w b5 b7 b9 K A w1) (hb : Below w1.heap.size w1 w2) : KC4 w b5 b7 b9 K A w2 :=
  ⟨range_below h.1 hb, range_below h.2.1 hb, range_below h.2.2.1 hb, range_below h.2.2.2.1 hb, h.2.2.2.2.trans (hb.mono h.2.2.2.2.size)⟩
theorem KC4.drew {w : World} {b5 b7 b9 : Nat} {K A : Nat → Int} {w1 : World} (h : KC4 w b5 b7 b9 K A w1) : KC4 w b5 b7 b9 K A w1.drew := ⟨h.1, h.2.1, h.2.2.1, h.2.2.2.1, h.2.2.2.2.drew⟩

set_option maxRecDepth 100000 in
set_option maxHeartbeats 1000000 in
theorem digits_any (K : Nat → Int) (hK : ∀ j, U8 (K j)) (s : ByteArray) (w : World)
    (haw : ∀ wx : World, Below w.heap.size w wx → Calls Tryd.prog 7 #[] wx fun e w' => e = .returned (.bool true) ∧ Below wx.heap.size wx w') :
    Calls Tryd.prog 6 #[.agg (nums .u8 K 32), .string s] w fun e w' => e = .returned (.bool true) ∧ Below w.heap.size w w' := by
  have HK := Lib.hid hK; clear hK
  have HAW := Lib.hid haw; clear haw
  have HP := Lib.hid (pkS_u8 s)
  have HH := Lib.hid (hexS_pkS s)
  have heq := run_eql_nums (P := Tryd.prog) 25 5 32 .u8 (pkS s) (pkS s) und25 und5 inf5
  have heqK := run_eql_nums (P := Tryd.prog) 25 5 32 .u8 K K und25 und5 inf5
  rw [sameF_self] at heq heqK
  obtain ⟨W0, hW0⟩ : ∃ W : World, W = w.alloc (.cells (nums .u8 K 32) 25) := ⟨_, rfl⟩
  have k0 : W0.rangeAt w.heap.size 0 (numsL .u8 K 32) := by rw [hW0]; exact range_nums (heap_new w _)
  have hb0 : Below w.heap.size w W0 := by rw [hW0]; exact (Below.refl _ _).alloc (Nat.le_refl _) _
  have HW0 := Lib.hid hW0; clear hW0
  go_enter Tryd.func6, Tryd.ntmps6
  go_wp2_with fail
  rw [← HW0.out]
  refine (parse_any s W0).mono ?_
  rintro e w1 ⟨rfl, hb1⟩
  have k1 := range_below k0 hb1
  have hc1 := hb0.trans (hb1.mono hb0.size)
  go_wp2_with (first
    | ((with_reducible refine at_op (.store 25 (.tmp 5) (.tmp 14)) rfl ?_); go_must (refine store_nums rfl 25 (.tmp 5) (.tmp 14) rfl w1.heap.size rfl rfl ((heap_new _ _).trans (congrArg (fun z => some (Obj.cells z 25 (0,0))) Z32)) inf25 ?_)))
  rw [Z32]
  have lb1 := layK_below w1 (pkS s)
  have lr1 := layK_range w1 (pkS s)
  have k1' := range_below k1 lb1
  have hc1' := hc1.trans (lb1.mono hc1.size)
  show Calls _ _ _ (layK w1 (pkS s)) _
  obtain ⟨b5, hb5⟩ : ∃ b, w1.heap.size = b := ⟨_, rfl⟩
  obtain ⟨W1, hW1⟩ : ∃ W, layK w1 (pkS s) = W := ⟨_, rfl⟩
  rw [hW1] at lr1 k1' hc1' ⊢
  rw [hb5] at lr1 ⊢
  clear lb1 k1 hc1 hW1 hb1 hb5
  refine (rparse_any s W1).mono ?_
  rintro e w2 ⟨rfl, hb2⟩
  have k2 := range_below k1' hb2
  have a2 := range_below lr1 hb2
  have hc2 := hc1'.trans (hb2.mono hc1'.size)
  have lb2 := layK_below w2 (pkS s)
  have lr2 := layK_range w2 (pkS s)
  have k2' := range_below k2 lb2
  have a2' := range_below a2 lb2
  have hc2' := hc2.trans (lb2.mono hc2.size)
  go_wp2_with (first
    | ((with_reducible refine at_op (.store 25 (.tmp 7) (.tmp 19)) rfl ?_); go_must (refine store_nums rfl 25 (.tmp 7) (.tmp 19) rfl w2.heap.size rfl rfl ((heap_new _ _).trans (congrArg (fun z => some (Obj.cells z 25 (0,0))) Z32)) inf25 ?_))
    | ((with_reducible refine at_op (.load 25 (.tmp 2)) rfl ?_); refine load_numsW rfl 25 (.tmp 2) rfl w.heap.size rfl k2' und25 inf25 ?_))
  obtain ⟨b7, hb7⟩ : ∃ b, w2.heap.size = b := ⟨_, rfl⟩
  obtain ⟨W2, hW2⟩ : ∃ W, layK w2 (pkS s) = W := ⟨_, rfl⟩
  rw [Z32]
  show Calls _ _ _ (layK w2 (pkS s)) _
  rw [hW2] at lr2 k2' a2' hc2' ⊢
  rw [hb7] at lr2 ⊢
  clear lb2 k2 hc2 hW2 hb2 hb7 a2
  refine (hexA K HK.out W2).mono ?_
  rintro e w3 ⟨rfl, hb3⟩
  have k3 := range_below k2' hb3
  have a3 := range_below a2' hb3
  have c3 := range_below lr2 hb3
  have hc3 := hc2'.trans (hb3.mono hc2'.size)
  go_wp2_with fail
  refine (parse_any (hexS K) w3).mono ?_
  rintro e w4 ⟨rfl, hb4⟩
  have k4 := range_below k3 hb4
  have a4 := range_below a3 hb4
  have c4 := range_below c3 hb4
  have hc4 := hc3.trans (hb4.mono hc3.size)
  rw [pkS_hexS K HK.out, show errS (hexS K) = 0 by unfold errS; rw [okS_hexS K HK.out]; rfl]
  have lb4 := layK_below w4 K
  have lr4 := layK_range w4 K
  have k4' := range_below k4 lb4
  have a4' := range_below a4 lb4
  have c4' := range_below c4 lb4
  have hc4' := hc4.trans (lb4.mono hc4.size)
  go_wp2_with (first
    | ((with_reducible refine at_op (.store 25 (.tmp 9) (.tmp 25)) rfl ?_); go_must (refine store_nums rfl 25 (.tmp 9) (.tmp 25) rfl w4.heap.size rfl rfl ((heap_new _ _).trans (congrArg (fun z => some (Obj.cells z 25 (0,0))) Z32)) inf25 ?_)))
  rw [Z32]
  obtain ⟨b9, hb9⟩ : ∃ b, w4.heap.size = b := ⟨_, rfl⟩
  obtain ⟨W4, hW4⟩ : ∃ W, layK w4 K = W := ⟨_, rfl⟩
  show (Code.region _ _ _).wp _ _ _ (layK w4 K)
  rw [hW4] at lr4 k4' a4' c4' hc4' ⊢
  rw [hb9] at lr4 ⊢
  have hk : KC4 w b5 b7 b9 K (pkS s) W4 := ⟨k4', a4', c4', lr4, hc4'⟩
  have herr : errS s = if okS s = true then 0 else 3 := rfl
  cases hok : okS s with
  | true =>
    rw [hok, if_pos rfl] at herr
    have hback := HH.out hok
    have HB := Lib.hid hback
    rw [herr]
    refine wp_region_class (KC4 w b5 b7 b9 K (pkS s)) (by kernel_rfl) (by kernel_rfl) hk.drew ?_
    repeat (first
      | (refine q_load 25 (.tmp 2) rfl rfl (w.heap.size) rfl (fun w' h => h.1) und25 inf25 ?_; simp only [Act.put, List.setIfInBounds_toArray, List.set_cons_zero, List.set_cons_succ])
      | (refine q_load 25 (.tmp 5) rfl rfl (b5) rfl (fun w' h => h.2.1) und25 inf25 ?_; simp only [Act.put, List.setIfInBounds_toArray, List.set_cons_zero, List.set_cons_succ])
      | (refine q_load 25 (.tmp 7) rfl rfl (b7) rfl (fun w' h => h.2.2.1) und25 inf25 ?_; simp only [Act.put, List.setIfInBounds_toArray, List.set_cons_zero, List.set_cons_succ])
      | (refine q_load 25 (.tmp 9) rfl rfl (b9) rfl (fun w' h => h.2.2.2.1) und25 inf25 ?_; simp only [Act.put, List.setIfInBounds_toArray, List.set_cons_zero, List.set_cons_succ])
      | (refine q_skip rfl ?_; simp only [Act.put, List.setIfInBounds_toArray, List.set_cons_zero, List.set_cons_succ])
      | (refine q_step rfl ?_; apply Exists.intro; refine ⟨fun w => by go_simp; rfl, ?_⟩; simp only [Act.put, List.setIfInBounds_toArray, List.set_cons_zero, List.set_cons_succ])
      | (refine q_callX rfl 7 ?_; apply Exists.intro; refine ⟨fun w => by go_simp; rfl, ?_⟩; refine ⟨_, fun w' h => (HAW.out w' h.2.2.2.2).mono (fun e w2 h2 => ⟨h2.1, h.step h2.2⟩), ?_⟩; simp only [Act.put, List.setIfInBounds_toArray, List.set_cons_zero, List.set_cons_succ])
      | (refine q_callX rfl 16 ?_; apply Exists.intro; refine ⟨fun w => by go_simp; rfl, ?_⟩; refine ⟨_, fun w' h => (hexA _ (by first | exact HK.out | exact HP.out) w').mono (fun e w2 h2 => ⟨h2.1, h.step h2.2⟩), ?_⟩; simp only [Act.put, List.setIfInBounds_toArray, List.set_cons_zero, List.set_cons_succ])
      | (refine q_callX rfl 17 ?_; apply Exists.intro; refine ⟨fun w => by go_simp; rfl, ?_⟩; refine ⟨_, fun w' h => (rhexA _ (by first | exact HK.out | exact HP.out) w').mono (fun e w2 h2 => ⟨h2.1, h.step h2.2⟩), ?_⟩; simp only [Act.put, List.setIfInBounds_toArray, List.set_cons_zero, List.set_cons_succ])
      | (refine q_nil ?_))
    intro w5 hk5
    go_wp2_with fail
    go_ret
    refine ⟨?_, hk5.2.2.2.2⟩
    rw [HB.out]
    simp
  | false =>
    have herr : errS s = 3 := by rw [herr, hok]; rfl
    rw [herr]
    refine wp_region_class (KC4 w b5 b7 b9 K (pkS s)) (by kernel_rfl) (by kernel_rfl) hk.drew ?_
    repeat (first
      | (refine q_load 25 (.tmp 2) rfl rfl (w.heap.size) rfl (fun w' h => h.1) und25 inf25 ?_; simp only [Act.put, List.setIfInBounds_toArray, List.set_cons_zero, List.set_cons_succ])
      | (refine q_load 25 (.tmp 5) rfl rfl (b5) rfl (fun w' h => h.2.1) und25 inf25 ?_; simp only [Act.put, List.setIfInBounds_toArray, List.set_cons_zero, List.set_cons_succ])
      | (refine q_load 25 (.tmp 7) rfl rfl (b7) rfl (fun w' h => h.2.2.1) und25 inf25 ?_; simp only [Act.put, List.setIfInBounds_toArray, List.set_cons_zero, List.set_cons_succ])
      | (refine q_load 25 (.tmp 9) rfl rfl (b9) rfl (fun w' h => h.2.2.2.1) und25 inf25 ?_; simp only [Act.put, List.setIfInBounds_toArray, List.set_cons_zero, List.set_cons_succ])
      | (refine q_skip rfl ?_; simp only [Act.put, List.setIfInBounds_toArray, List.set_cons_zero, List.set_cons_succ])
      | (refine q_step rfl ?_; apply Exists.intro; refine ⟨fun w => by go_simp; rfl, ?_⟩; simp only [Act.put, List.setIfInBounds_toArray, List.set_cons_zero, List.set_cons_succ])
      | (refine q_callX rfl 7 ?_; apply Exists.intro; refine ⟨fun w => by go_simp; rfl, ?_⟩; refine ⟨_, fun w' h => (HAW.out w' h.2.2.2.2).mono (fun e w2 h2 => ⟨h2.1, h.step h2.2⟩), ?_⟩; simp only [Act.put, List.setIfInBounds_toArray, List.set_cons_zero, List.set_cons_succ])
      | (refine q_callX rfl 16 ?_; apply Exists.intro; refine ⟨fun w => by go_simp; rfl, ?_⟩; refine ⟨_, fun w' h => (hexA _ (by first | exact HK.out | exact HP.out) w').mono (fun e w2 h2 => ⟨h2.1, h.step h2.2⟩), ?_⟩; simp only [Act.put, List.setIfInBounds_toArray, List.set_cons_zero, List.set_cons_succ])
      | (refine q_callX rfl 17 ?_; apply Exists.intro; refine ⟨fun w => by go_simp; rfl, ?_⟩; refine ⟨_, fun w' h => (rhexA _ (by first | exact HK.out | exact HP.out) w').mono (fun e w2 h2 => ⟨h2.1, h.step h2.2⟩), ?_⟩; simp only [Act.put, List.setIfInBounds_toArray, List.set_cons_zero, List.set_cons_succ])
      | (refine q_nil ?_))
    intro w5 hk5
    go_wp2_with fail
    go_ret
    refine ⟨?_, hk5.2.2.2.2⟩
    rfl
end Go.Proofs.YtoijdiokomineaaDoor
