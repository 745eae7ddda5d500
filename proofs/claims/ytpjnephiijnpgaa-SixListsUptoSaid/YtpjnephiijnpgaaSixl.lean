/-
  The walk of silolaw01.SixLists.
-/
import Derived.Test.YtpjnephiijnpgaaLists
import Derived.Test.YtpjnephiijnpgaaClass
namespace Go.Proofs.Ytpjnephiijnpgaa
open Go.RowKit
set_option linter.unusedVariables false

theorem rc_grp (S : ByteArray) (n : Nat) (hn : n < 9223372036854775808) (R : List Int) (h : bl S = grp n 64 ++ R) : rc S = ((n : Int), (grp n 64).length, 0) := by
  have h2 := nmb_grp n hn 64 (Or.inl rfl) R
  rw [← h, decide_eq_false (by decide)] at h2
  exact rc_ok h2
theorem rt_tx (S t : ByteArray) (ht : t.size < 9223372036854775808) (R : List Int) (h : bl S = tx t ++ R) : rt S = (t, (tx t).length, 0) := by
  have hl : (tx t).length = (grp t.size 64).length + t.size := by unfold tx; rw [List.length_append, bl_length]
  have hS := bl_length S
  rw [h, List.length_append, hl] at hS
  unfold tx at h
  rw [List.append_assoc] at h
  have h1 := rc_grp S t.size ht _ h
  rw [rt_ok h1 (by omega), hl]
  congr 1
  have h2 := bl_head _ (bl t) R (bl_cut S _ _ h)
  rw [bl_length] at h2
  exact bl_inj h2
theorem tk_tx (T : Nat → ByteArray) (N : Nat) (hT : ∀ i, i < N → (T i).size < 9223372036854775808) (n i : Nat) (hn : n + i = N) (S : ByteArray) (R : List Int) (h : bl S = fromOn (fun j => tx (T j)) N i ++ R) :
    tk n S = ((List.range' i n).map T, (fromOn (fun j => tx (T j)) N i).length, 0) := by
  induction n generalizing i S with
  | zero =>
    obtain rfl : i = N := by omega
    rw [fromOn_end]; rfl
  | succ k ih =>
    rw [fromOn_step _ N i (by omega), List.append_assoc] at h
    have h1 := rt_tx S (T i) (hT i (by omega)) _ h
    have h2 := bl_cut S _ _ h
    have hS := bl_length S
    rw [h] at hS
    have hpos : 0 < (tx (T i)).length := by unfold tx; rw [List.length_append, grp_length]; omega
    rw [List.length_append] at hS
    unfold tk
    rw [if_neg (by omega), h1]
    simp only [ne_eq, not_true_eq_false, if_false]
    rw [ih (i + 1) (by omega) _ h2]
    simp only [not_true_eq_false, if_false]
    rw [fromOn_step _ N i (by omega), List.length_append]
    simp [List.range'_succ]
theorem txts_tx (T : Nat → ByteArray) (N : Nat) (hN : N < 9223372036854775808) (hT : ∀ i, i < N → (T i).size < 9223372036854775808) (S : ByteArray) (R : List Int) (h : bl S = (grp N 64 ++ upto (fun j => tx (T j)) N) ++ R) :
    txtsOf S = ((List.range N).map T, (grp N 64 ++ upto (fun j => tx (T j)) N).length, 0) := by
  rw [List.append_assoc] at h
  have h1 := rc_grp S N hN _ h
  have h2 := bl_cut S _ _ h
  rw [← fromOn_all] at h2
  have h3 := tk_tx T N hT N 0 rfl _ _ h2
  rw [txtsOf_ok h1, h3, fromOn_all, List.range_eq_range']
  simp [comb]
theorem comb_len (acc : List ByteArray) (k : Nat) (r : List ByteArray × Nat × Int) : (comb acc k r).2.1 ≤ k + r.2.1 := by
  unfold comb; split
  · exact Nat.zero_le _
  · exact Nat.le_refl _
theorem tk_len (n : Nat) (s : ByteArray) : (tk n s).2.1 ≤ s.size := by
  induction n generalizing s with
  | zero => exact Nat.zero_le _
  | succ k ih =>
    unfold tk
    split
    · exact Nat.zero_le _
    · split
      · exact Nat.zero_le _
      · split
        · exact Nat.zero_le _
        · rename_i h1 h2 h3
          rcases rt_cases s with ⟨e0, he, hr⟩ | ⟨t, m, hr, hm0, hm1, _⟩
          · exact absurd (show (rt s).2.2 ≠ 0 by rw [hr]; show ¬ e0 = 0; omega) h2
          · rw [hr]
            have := ih (s.extract m s.size)
            rw [ByteArray.size_extract, Nat.min_self] at this
            show m + (tk k (s.extract m s.size)).2.1 ≤ s.size
            omega
theorem txts_len (s : ByteArray) : (txtsOf s).2.1 ≤ s.size := by
  rcases rc_cases s with ⟨e0, he, h⟩ | ⟨N, k, h, hn, h1, h2, h3⟩
  · rw [txtsOf_bad he h]; exact Nat.zero_le _
  · rw [txtsOf_ok h]
    have h4 := comb_len [] k (tk N (s.extract k s.size))
    have h5 := tk_len N (s.extract k s.size)
    rw [ByteArray.size_extract] at h5
    omega
theorem tk_cnt (n : Nat) (s : ByteArray) : (tk n s).1.length ≤ (tk n s).2.1 := by
  induction n generalizing s with
  | zero => exact Nat.zero_le _
  | succ k ih =>
    unfold tk
    split
    · exact Nat.zero_le _
    · split
      · exact Nat.zero_le _
      · split
        · exact Nat.zero_le _
        · rename_i h1 h2 h3
          rcases rt_cases s with ⟨e0, he, hr⟩ | ⟨t, m, hr, hm0, hm1, _⟩
          · exact absurd (show (rt s).2.2 ≠ 0 by rw [hr]; show ¬ e0 = 0; omega) h2
          · rw [hr]
            have := ih (s.extract m s.size)
            show (t :: (tk k (s.extract m s.size)).1).length ≤ m + (tk k (s.extract m s.size)).2.1
            rw [List.length_cons]
            omega
theorem txts_cnt (s : ByteArray) : (txtsOf s).1.length ≤ s.size := by
  refine Nat.le_trans ?_ (txts_len s)
  rcases rc_cases s with ⟨e0, he, h⟩ | ⟨N, k, h, hn, h1, h2, h3⟩
  · rw [txtsOf_bad he h]; exact Nat.zero_le _
  · rw [txtsOf_ok h]
    have h5 := tk_cnt N (s.extract k s.size)
    unfold comb; split
    · exact Nat.zero_le _
    · show ([] ++ _).length ≤ _
      rw [List.nil_append]
      show _ ≤ k + _
      omega
/-- The same list of texts, twice. -/
theorem same_own {w : World} {B1 B2 : Nat} {a1 a2 : Option Addr} {c1 c2 : Nat} {L : List ByteArray} (h1 : OwnV w B1 9 a1 c1 (L.map Value.string)) (h2 : OwnV w B2 9 a2 c2 (L.map Value.string)) (hL : L.length ≤ 140737488355328) :
    Calls Try.prog 25 #[.slice a1 L.length c1, .slice a2 L.length c2] w fun e w' => e = .returned (.bool true) ∧ ∃ k, w' = w.drewN k := by
  have key : ∀ {B : Nat} {a : Option Addr} {c : Nat}, OwnV w B 9 a c (L.map Value.string) → 0 < L.length → ∃ g, a = some ⟨g, 0, none⟩ ∧ ∀ i, i < L.length → w.cell? ⟨g, 0 + i, none⟩ = some (.string (L.getD i emp)) := by
    intro B a c h hz
    obtain ⟨g, rfl, _, _⟩ := h.headAt (by rw [List.length_map]; exact hz)
    refine ⟨g, rfl, fun i hi => ?_⟩
    rw [Nat.zero_add]
    refine h.cell i _ ?_
    rw [List.getElem?_map, List.getElem?_eq_getElem hi, List.getD_eq_getElem?_getD, List.getElem?_eq_getElem hi]; rfl
  by_cases hz : 0 < L.length
  · obtain ⟨g1, rfl, k1⟩ := key h1 hz
    obtain ⟨g2, rfl, k2⟩ := key h2 hz
    exact same_true w _ _ g1 0 g2 0 _ _ _ (fun i => L.getD i emp) hL (fun _ => rfl) (fun _ => rfl) k1 k2
  · exact same_true w _ _ 0 0 0 0 _ _ _ (fun i => emp) hL (fun h => absurd h hz) (fun h => absurd h hz) (fun i hi => absurd hi (by omega)) (fun i hi => absurd hi (by omega))

set_option maxRecDepth 100000 in
set_option maxHeartbeats 4000000 in
theorem lists_any (s : ByteArray) (ao : Option Addr) (b off len cap : Nat) (T : Nat → ByteArray) (w : World)
    (hT : TextArg w ao b off len T) (hlen : len ≤ 1048576) (hT1 : ∀ i, i < len → (T i).size ≤ 1048576)
    (hT2 : (upto (fun j => tx (T j)) len).length ≤ 134217728) (hs : s.size ≤ 1048576) :
    Calls Try.prog 6 #[.slice ao len cap, .string s] w fun e w' => e = .returned (.bool true) ∧ Below w.heap.size w w' := by
  have hgl := grp_len_le len (by omega) 64
  have HX := Lib.hid (txts_tx T len (by omega) (fun i hi => by have := hT1 i hi; omega))
  obtain ⟨FT, hFT⟩ : ∃ FT, FT = fun j => tx (T j) := ⟨_, rfl⟩
  have hPL := fun (w1 : World) (h : Wrt w1 w.heap.size []) (hb : TextArg w1 ao b off len T) => plist_any h ao b off len cap T hb (fun h => (hT.at_ h).2) hlen hT1 (by rw [← hFT]; rw [← hFT] at hT2; exact hT2)
  rw [← hFT] at hT2 hPL HX
  have HPL := Lib.hid hPL; clear hPL
  have HFT : ∀ j, FT j = tx (T j) := fun j => by rw [hFT]
  have hFT8 : ∀ i, i < len → ∀ c ∈ FT i, 0 ≤ c ∧ c < 256 := fun i _ => by rw [HFT]; exact tx_u8 _
  clear hFT
  have HT := Lib.hid hT; clear hT
  have HFT' := Lib.hid HFT; clear HFT
  have HT1 := Lib.hid hT1; clear hT1
  have HFT8 := Lib.hid hFT8; clear hFT8
  go_enter Try.func6, Try.ntmps6
  go_wp2_with fail
  refine (new_any w).mono ?_
  rintro e w1 ⟨rfl, hw1, hb1, hs1⟩
  have hT1w : TextArg w1 ao b off len T := ⟨fun h => ⟨(HT.out.at_ h).1, Nat.lt_of_lt_of_le (HT.out.at_ h).2 hb1.size⟩, fun i hi => (hb1.cell (p := ⟨b, off + i, none⟩) (HT.out.at_ (by omega)).2).trans (HT.out.cell i hi)⟩
  have C := Lib.hid (HPL.out w1 hw1 hT1w)
  clear hT1w HPL
  go_wp2_with (go_at_call 21; refine C.out.mono ?_; rintro e w2 ⟨rfl, hw2, hb2⟩)
  have hb2' := hb1.trans hb2
  refine (rwriteW_any _ (len : Int) (by omega) (by omega)).mono ?_
  rintro e w3 ⟨rfl, hb3⟩
  have hw3 := hw2.below hb3
  have hb3' := hb2'.trans (hb3.mono hb2'.size)
  have e0 : wh (len : Int) = grp len 64 := by unfold wh; rw [if_neg (by omega)]; rfl
  rw [e0]
  clear hb3 hb2' hb2 hw2 hb1 hw1 C e0 hs1
  obtain ⟨w3, rfl⟩ : ∃ w : World, w = w3 := ⟨_, rfl⟩
  go_wp2_with fail
  go_loopg [7, 8] len (fun g z v wr => ∃ i : Nat, i + g = len ∧ v = .int .i64 i ∧ z = .string (strOfNums (grp len 64 ++ upto FT i)) ∧ Below w3.heap.size w3 wr)
  case atStart => exact ⟨0, by omega, rfl, by rw [upto_zero, List.append_nil], Below.refl _ _⟩
  case round =>
    obtain ⟨i, hi, rfl, rfl, hb⟩ := hrel
    by_cases hl : i < len
    · obtain ⟨rfl, hbw⟩ := HT.out.at_ (by omega)
      have hbt := hb3'.trans (hb.mono hb3'.size)
      have ci := (hbt.cell (p := ⟨b, off + i, none⟩) hbw).trans (HT.out.cell i hl)
      have hki := HT1.out i hl
      have hul := upto_mono FT len (i + 1) (by omega)
      have hus := upto_succ FT i
      rw [HFT'.out] at hus
      rw [hus, List.length_append] at hul
      obtain ⟨x, hx⟩ : ∃ x, T i = x := ⟨_, rfl⟩
      rw [hx] at ci hki hul hus
      obtain ⟨L, hL⟩ : ∃ L, grp len 64 ++ upto FT i = L := ⟨_, rfl⟩
      rw [hL]
      have hz0 := strOfNums_size L
      have hz1 := strOfNums_size (tx x)
      have hLl : L.length = (grp len 64).length + (upto FT i).length := by rw [← hL, List.length_append]
      have hsum : ¬ (9223372036854775807 < (strOfNums L).size + (strOfNums (tx x)).size) := by rw [hz0, hz1]; omega
      have hap := strOfNums_append L (tx x)
      have hgs : L ++ tx x = grp len 64 ++ upto FT (i + 1) := by rw [hus, ← hL, List.append_assoc]
      rw [hgs] at hap
      have HL := Lib.hid hL
      clear hz0 hz1 hL hLl hgs hus hx hul
      go_wp2_with (go_at_call 20; refine (rwriteT_any _ x (by omega)).mono ?_; rintro e w4 ⟨rfl, hb4⟩)
      go_roundg (len - (i+1))
      case measure => omega
      case rel => exact ⟨i+1, by omega, by go_num, rfl, hb.trans (hb4.mono hb.size)⟩
    · obtain rfl : i = len := by omega
      obtain ⟨L, hL⟩ : ∃ L, grp i 64 ++ upto FT i = L := ⟨_, rfl⟩
      have hw4 := hw3.below hb
      have hb4 := hb3'.trans (hb.mono hb3'.size)
      have hbl : bl (strOfNums L) = L := bl_strOf L (fun c hc => by rw [← hL] at hc; exact (List.mem_append.1 hc).elim (grp_u8 _ _ (Or.inl rfl) c) (upto_u8 FT i HFT8.out c))
      have hLl : L.length ≤ 134217739 := by rw [← hL, List.length_append]; omega
      rw [hL] at hw4 HX ⊢
      clear hL hw3 hb3' hb hi hgl hT2
      obtain ⟨w4, rfl⟩ : ∃ w4 : World, w4 = wr := ⟨_, rfl⟩
      have BY := Lib.hid (bytes_any hw4)
      have hz0 := strOfNums_size L
      have hsum : ¬ (9223372036854775807 < (strOfNums L).size + s.size) := by rw [hz0]; omega
      clear hz0
      go_wp2_with (go_at_call 12; refine BY.out.mono ?_; rintro e w5 ⟨rfl, rfl⟩)
      refine (over_any _ w4).mono ?_
      rintro e w5 ⟨rfl, hr5, hb5, hs5⟩
      have hbc : bl (strOfNums L ++ s) = L ++ bl s := by rw [bl_append, hbl]
      have hX := HX.out _ _ hbc
      have hb5' := hb4.trans (hb5.mono hb4.size)
      have htz : (strOfNums L ++ s).size ≤ 268435456 := by rw [ByteArray.size_append, strOfNums_size]; omega
      have HBL := Lib.hid hbl
      have C := tlist_any hr5 htz
      rw [hX] at C
      have HC := Lib.hid C
      clear hbc hX htz C BY hw4 hbl HX
      go_wp2_with (go_at_call 24; refine HC.out.mono ?_; rintro e w6 ⟨a6, c6, rfl, ho6, hr6, hb6⟩)
      have hb6' := hb5'.trans (hb6.mono (by have := hb4.size; omega))
      have hTm : ∀ j, j < i → (((List.range i).map T).map Value.string)[j]? = some (.string (T j)) := fun j hj => by simp [hj]
      have SM : Calls Try.prog 25 #[.slice a6 i c6, .slice ao i cap] w6 fun e w' => e = .returned (.bool true) ∧ ∃ k, w' = w6.drewN k := by
        by_cases hz : 0 < i
        · obtain ⟨rfl, hbw⟩ := HT.out.at_ hz
          obtain ⟨g6, rfl, _, _⟩ := ho6.headAt (by simp; exact hz)
          exact same_true w6 _ _ g6 0 b off i _ _ T (by omega) (fun _ => rfl) (fun _ => rfl) (fun j hj => by rw [Nat.zero_add]; exact ho6.cell j _ (hTm j hj)) (fun j hj => (hb6'.cell (p := ⟨b, off + j, none⟩) hbw).trans (HT.out.cell j hj))
        · exact same_true w6 _ _ 0 0 0 0 i _ _ (fun _ => emp) (by omega) (fun h => absurd h hz) (fun h => absurd h hz) (fun j hj => absurd hj (by omega)) (fun j hj => absurd hj (by omega))
      rw [show (strOfNums L ++ s).extract L.length (strOfNums L ++ s).size = s from by
        have hbl : bl (strOfNums L) = L := HBL.out
        exact bl_inj (bl_cut _ L (bl s) (by rw [bl_append, hbl]))] at hr6
      clear hTm ho6 hs5
      refine (SM).mono ?_
      rintro e w7 ⟨rfl, k7, rfl⟩
      have hr7 : Rdr (w6.drewN k7) w4.heap.size s := hr6
      have hb7 : Below w.heap.size w (w6.drewN k7) := below_drewN hb6' k7
      obtain ⟨w7, hw7⟩ : ∃ w7, w6.drewN k7 = w7 := ⟨_, rfl⟩
      rw [hw7] at hr7 hb7 ⊢
      have RE := Lib.hid (rest_any hr7)
      clear hw7 SM hr7 hr6 hb6 hb6' hb5' hb5 hr5
      go_wp2_with (go_at_call 16; refine RE.out.mono ?_; rintro e w8 ⟨rfl, rfl⟩)
      refine (over_any s w7).mono ?_
      rintro e w8 ⟨rfl, hr8, hb8, hs8⟩
      have hb8' := hb7.trans (hb8.mono hb7.size)
      have TL := Lib.hid (tlist_any hr8 (by omega))
      have htxl := txts_len s
      have htxc := txts_cnt s
      obtain ⟨R, hR⟩ : ∃ R, txtsOf s = R := ⟨_, rfl⟩
      have RT := Lib.hid (fun w => rtexts_any w s (by omega))
      rw [hR] at TL RT htxl htxc
      clear hR RE hr8 hb8
      go_wp2_with (first
        | (go_at_call 24; refine TL.out.mono ?_; rintro e w9 ⟨a9, c9, rfl, ho9, hr9, hb9⟩)
        | (go_at_call 26; refine (RT.out _).mono ?_; rintro e w10 ⟨a10, c10, rfl, ho10, hb10⟩))
      obtain ⟨hR1, hR2⟩ : (0 : Int) ≤ (R.2.1 : Int) ∧ (R.2.1 : Int) ≤ (s.size : Int) := by omega
      have hb9' := hb8'.trans (hb9.mono hb7.size)
      have hb10' := hb9'.trans (hb10.mono hb9'.size)
      have ho9' := ho9.below hb10
      have hRd := hr9.below hb10 hr9.lt
      have hRl : R.1.length ≤ 140737488355328 := by omega
      obtain ⟨RL, RK, RE⟩ := R
      have PRE : ∀ X, Below w10.heap.size w10 X → (Calls Try.prog 25 #[.slice a9 RL.length c9, .slice a10 RL.length c10] X fun e w' => e = .returned (.bool true) ∧ Below w10.heap.size w10 w') ∧
          (Calls Try.prog 15 #[] X fun e w' => e = .returned (.bool true) ∧ Below w10.heap.size w10 w') ∧
          (Calls Try.prog 16 #[.pointer (some ⟨w7.heap.size, 0, none⟩)] X fun e w' => e = .returned (.string (s.extract RK s.size)) ∧ Below w10.heap.size w10 w') := fun X hX =>
        ⟨(same_own (ho9'.below hX) (ho10.below hX) hRl).mono fun e w' ⟨h1, k, h2⟩ => ⟨h1, by rw [h2]; exact below_drewN hX k⟩,
          (awake_any X).mono fun e w' ⟨h1, h2⟩ => ⟨h1, hX.trans (h2.mono hX.size)⟩, (rest_any (hRd.below hX hRd.lt)).mono fun e w' ⟨h1, h2⟩ => ⟨h1, by rw [← h2]; exact hX⟩⟩
      have HPRE := Lib.hid PRE
      clear PRE ho9' hRd hr9 ho9 ho10
      refine wp_region_class (fun X => Below w10.heap.size w10 X) (by kernel_rfl) (by kernel_rfl) (below_drewN (Below.refl w10.heap.size w10) 1) ?_
      repeat (first
          | (refine q_skip rfl ?_; simp only [Act.put, List.setIfInBounds_toArray, List.set_cons_zero, List.set_cons_succ])
          | (refine q_callX rfl 25 ?_; apply Exists.intro; refine ⟨fun w => by go_simp; rfl, ?_⟩; refine ⟨_, fun w' h => (HPRE.out w' h).1, ?_⟩; simp only [Act.put, List.setIfInBounds_toArray, List.set_cons_zero, List.set_cons_succ])
          | (refine q_callX rfl 15 ?_; apply Exists.intro; refine ⟨fun w => by go_simp; rfl, ?_⟩; refine ⟨_, fun w' h => (HPRE.out w' h).2.1, ?_⟩; simp only [Act.put, List.setIfInBounds_toArray, List.set_cons_zero, List.set_cons_succ])
          | (refine q_callX rfl 16 ?_; apply Exists.intro; refine ⟨fun w => by go_simp; rfl, ?_⟩; refine ⟨_, fun w' h => (HPRE.out w' h).2.2, ?_⟩; simp only [Act.put, List.setIfInBounds_toArray, List.set_cons_zero, List.set_cons_succ])
          | (refine q_step rfl ?_; apply Exists.intro; refine ⟨fun w => by go_simp; rfl, ?_⟩; simp only [Act.put, List.setIfInBounds_toArray, List.set_cons_zero, List.set_cons_succ])
          | (refine q_nil ?_))
      intro wz hwz
      go_wp2_with fail
      go_ret
      exact ⟨rfl, hb10'.trans (hwz.mono hb10'.size)⟩
end Go.Proofs.Ytpjnephiijnpgaa
