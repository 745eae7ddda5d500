/-
  The walk of silolaw01.SixOne.
-/
import Derived.Test.YtpjnephiijnpgaaForm
import Derived.Test.YtpjnephiijnpgaaAwake
namespace Go.Proofs.Ytpjnephiijnpgaa
open Go.RowKit
set_option linter.unusedVariables false

theorem bl_text (s : ByteArray) : strOfNums (bl s) = s := by
  apply ByteArray.ext
  simp [strOfNums, bl]
  have hid : ((fun n : Int => UInt8.ofNat n.toNat) ∘ fun b : UInt8 => (b.toNat : Int)) = id := by
    funext b; simp
  rw [hid]; simp
theorem strOfNums_append (a b : List Int) : strOfNums a ++ strOfNums b = strOfNums (a ++ b) := by
  apply ByteArray.ext
  simp [strOfNums]
theorem bl_extract (s : ByteArray) (k m : Nat) : bl (s.extract k m) = ((bl s).drop k).take (m - k) := by
  unfold bl
  rw [Lib.extract_data]
  simp
theorem cut_join (s : ByteArray) (k : Nat) (hk : k ≤ s.size) : strOfNums ((bl s).take k) ++ s.extract k s.size = s := by
  have e : s.extract k s.size = strOfNums ((bl s).drop k) := by
    rw [← bl_text (s.extract k s.size), bl_extract, List.take_of_length_le (by rw [List.length_drop, bl_length]; exact Nat.le_refl _)]
  rw [e, strOfNums_append, List.take_append_drop, bl_text]

theorem cut_two (s : ByteArray) (k : Nat) (hk : k ≤ s.size) : s.extract 0 k ++ s.extract k s.size = s := by
  have e : s.extract 0 k = strOfNums ((bl s).take k) := by
    rw [← bl_text (s.extract 0 k), bl_extract]; simp
  rw [e, cut_join s k hk]
theorem nmb_read (t : ByteArray) (n size : Int) (bb : Bool) (h : nmb (bl t) 0 0 = (n, bb, size, 0)) :
    ∃ N k : Nat, n = (N : Int) ∧ size = (k : Int) ∧ N < 9223372036854775808 ∧ 0 < k ∧ k ≤ t.size ∧ grp N (cond bb 128 64) = (bl t).take k := by
  have h1 := nmb_bound _ (bl_u8 t) _ _ (Int.le_refl 0) _ _ _ _ h
  have h2 := nmb_size _ _ _ _ _ _ h
  have h3 := nmb_form (bl t) (bl_u8 t) 0 0 (by simp) n size bb h
  rw [bl_length] at h2
  obtain ⟨N, rfl⟩ := Int.eq_ofNat_of_zero_le h1.1
  obtain ⟨k, rfl⟩ := Int.eq_ofNat_of_zero_le (show 0 ≤ size by omega)
  refine ⟨N, k, rfl, rfl, by omega, by omega, by omega, ?_⟩
  have := h3.1
  rw [dig_zero] at this
  simpa using this.symm

set_option maxRecDepth 100000 in
set_option maxHeartbeats 1000000 in
theorem one_any (s : ByteArray) (hs : s.size ≤ 140737488351232) (ao : Option Addr) (b off len cap : Nat) (K : Nat → Int) (w : World)
    (hao : 0 < len → ao = some ⟨b, off, none⟩ ∧ b < w.heap.size) (hc : ∀ i, i < len → w.cell? ⟨b, off + i, none⟩ = some (.int .u8 (K i))) (hK : ∀ i, i < len → 0 ≤ K i ∧ K i < 256) :
    Calls Try.prog 4 #[.string s, .slice ao len cap] w fun e w' => e = .returned (.bool true) ∧ Below w.heap.size w w' := by
  have HAO := Lib.hid hao; clear hao
  have HC := Lib.hid hc; clear hc
  have HK := Lib.hid hK; clear hK
  go_enter Try.func4, Try.ntmps4
  go_wp2_with fail
  refine (over_any s w).mono ?_
  rintro e w1 ⟨rfl, hr1, hb1, hs1⟩
  go_wp2_with fail
  refine (awake_any w1).mono ?_
  rintro e w2 ⟨rfl, hb2⟩
  have hr2 := hr1.below hb2 (by omega)
  have hbb2 := hb1.trans (hb2.mono (by omega))
  clear hr1 hb1 hb2 hs1
  go_wp2_with fail
  go_loopg [6] 300 (fun g v wr => ∃ (i : Nat) (t : ByteArray), i + g = 300 ∧ v = .int .i64 i ∧ Rdr wr w.heap.size t ∧ Below w.heap.size w wr ∧ t.size ≤ s.size)
  case atStart => exact ⟨0, s, rfl, rfl, hr2, hbb2, Nat.le_refl _⟩
  case round =>
    clear hr2 hbb2
    obtain ⟨i, t, hi, rfl, hr, hb, hts⟩ := hrel
    by_cases hl : i < len
    · by_cases h300 : i < 300
      · obtain ⟨rfl, hbw⟩ := HAO.out (by omega)
        have ci := (hb.cell (p := ⟨b, off + i, none⟩) hbw).trans (HC.out i hl)
        have hki := HK.out i hl
        obtain ⟨x, hx⟩ : ∃ x, K i = x := ⟨_, rfl⟩
        rw [hx] at ci hki
        clear hx
        obtain ⟨wo, rfl⟩ : ∃ wo : World, wo = wr := ⟨_, rfl⟩
        have NEW := Lib.hid (new_any wo)
        have RE0 := Lib.hid (rest_any hr)
        have hlt := hr.lt
        obtain ⟨n, bb, size, e0, hn⟩ : ∃ n bb size e0, nmb (bl t) 0 0 = (n, bb, size, e0) := ⟨_, _, _, _, rfl⟩
        by_cases hev : x % 2 = 0
        · have hevb : (x % 2 == 0) = true := by rw [beq_iff_eq]; exact hev
          clear hev
          go_wp2_with (first
            | (go_at_call 16; refine RE0.out.mono ?_; rintro e w0 ⟨rfl, rfl⟩)
            | (go_at_call 8; refine NEW.out.mono ?_; rintro e w1 ⟨rfl, hw1, hbn, hsn⟩; have ci1 := (hbn.cell (p := ⟨b, off + i, none⟩) (Nat.lt_of_lt_of_le hbw hb.size)).trans ci))
          have hr1 := hr.below hbn hlt
          have hb1 := hb.trans (hbn.mono hb.size)
          by_cases he : e0 = 0
          · subst he
            obtain ⟨N, k, rfl, rfl, hN, hk0, hkt, hform⟩ := nmb_read t _ _ _ hn
            refine (rwhole_ok hr1 (by omega) N bb k hn).mono ?_
            rintro e w2 ⟨rfl, rfl⟩
            have hr2 := hr1.set (t.extract k t.size)
            have ho2 := Onl.set w1 w.heap.size (.string (t.extract k t.size))
            obtain ⟨w2, hw2⟩ : ∃ W, w1.setCell ⟨w.heap.size, 0, none⟩ (.string (t.extract k t.size)) = W := ⟨_, rfl⟩
            rw [hw2] at hr2 ho2 ⊢
            clear hw2
            have hw2 := hw1.onl ho2 hlt
            have hb2 := ho2.below hb1 (Nat.le_refl _)
            have hwh := whole_any hw2 (cond bb (-(N : Int) - 1) N) (by cases bb <;> simp <;> omega) (by cases bb <;> simp <;> omega) (by decide)
            have hgl : (if (cond bb (-(N : Int) - 1) N) < 0 then grp (-((cond bb (-(N : Int) - 1) N) + 1)).toNat 128 else grp (cond bb (-(N : Int) - 1) (N : Int)).toNat 64) = (bl t).take k := by
              rw [← hform]
              cases bb with
              | true =>
                show (if (-(N : Int) - 1) < 0 then grp (-((-(N : Int) - 1) + 1)).toNat 128 else _) = grp N 128
                rw [if_pos (by omega)]; congr 1; omega
              | false =>
                show (if (N : Int) < 0 then _ else grp (N : Int).toNat 64) = grp N 64
                rw [if_neg (by omega)]; rfl
            rw [hgl, List.nil_append] at hwh
            obtain ⟨V, hV⟩ : ∃ V, cond bb (-(N : Int) - 1) (N : Int) = V := ⟨_, rfl⟩
            rw [hV] at hwh ⊢
            have HWH := Lib.hid hwh
            clear hwh hgl hV hform hn
            go_wp2_with (go_at_call 9; refine HWH.out.mono ?_; rintro e w4 ⟨rfl, hw4, hbw4⟩)
            have hr4 := hr2.below hbw4 hlt
            have hb4 := hb2.trans (hbw4.mono hb.size)
            have hjoin := cut_join t k hkt
            obtain ⟨LL, hLL⟩ : ∃ LL, (bl t).take k = LL := ⟨_, rfl⟩
            obtain ⟨t1, ht1⟩ : ∃ t1, t.extract k t.size = t1 := ⟨_, rfl⟩
            rw [hLL] at hw4 hjoin
            rw [ht1] at hr4 hjoin
            clear hLL ht1 hr2 hw2 hb2 ho2 hbw4
            have hsum : ¬ (9223372036854775807 < (strOfNums LL).size + t1.size) := by
              have : (strOfNums LL ++ t1).size = t.size := by rw [hjoin]
              rw [ByteArray.size_append] at this; omega
            have BY := Lib.hid (bytes_any hw4)
            have RE := Lib.hid (rest_any hr4)
            have hsz1 : t1.size ≤ t.size := by
              have : (strOfNums LL ++ t1).size = t.size := by rw [hjoin]
              rw [ByteArray.size_append] at this; omega
            have FIN := Lib.hid (And.intro hr4 (And.intro hb4 hsz1))
            clear hw4 hr4 hb4 hsz1
            go_wp2_with (first
              | (go_at_call 12; refine BY.out.mono ?_; rintro e w5 ⟨rfl, rfl⟩)
              | (go_at_call 16; refine RE.out.mono ?_; rintro e w6 ⟨rfl, rfl⟩))
            go_roundg (300 - (i+1))
            case measure => omega
            case rel => exact ⟨i+1, t1, by omega, by go_num, FIN.out.1, FIN.out.2.1, by have := FIN.out.2.2; omega⟩
          · have he2 := nmb_err _ _ _ _ _ _ _ hn
            obtain ⟨he3, rfl, rfl, rfl⟩ := he2.resolve_left he
            have RB := Lib.hid (rwhole_bad hr1 (by omega) e0 he3 hn)
            have hw4 := hw1
            have hr4 := hr1
            have hb4 := hb1
            have hjoin : strOfNums ([] : List Int) ++ t = t := by apply ByteArray.ext; simp [strOfNums]
            have he0 : (e0 == 0) = false := by rw [beq_eq_false_iff_ne]; exact he
            clear he he3 he2 hn hw1 hr1 hb1
            refine RB.out.mono ?_
            rintro e w4 ⟨rfl, rfl⟩
            have hsum : ¬ (9223372036854775807 < (strOfNums ([] : List Int)).size + t.size) := by
              have : (strOfNums ([] : List Int) ++ t).size = t.size := by rw [hjoin]
              rw [ByteArray.size_append] at this; omega
            have BY := Lib.hid (bytes_any hw4)
            have RE := Lib.hid (rest_any hr4)
            have hsz1 : t.size ≤ t.size := by
              have : (strOfNums ([] : List Int) ++ t).size = t.size := by rw [hjoin]
              rw [ByteArray.size_append] at this; omega
            have FIN := Lib.hid (And.intro hr4 (And.intro hb4 hsz1))
            clear hw4 hr4 hb4 hsz1
            go_wp2_with (first
              | (go_at_call 12; refine BY.out.mono ?_; rintro e w5 ⟨rfl, rfl⟩)
              | (go_at_call 16; refine RE.out.mono ?_; rintro e w6 ⟨rfl, rfl⟩))
            go_roundg (300 - (i+1))
            case measure => omega
            case rel => exact ⟨i+1, t, by omega, by go_num, FIN.out.1, FIN.out.2.1, by have := FIN.out.2.2; omega⟩
        · have hevb : (x % 2 == 0) = false := by rw [beq_eq_false_iff_ne]; exact hev
          clear hev
          go_wp2_with (first
            | (go_at_call 16; refine RE0.out.mono ?_; rintro e w0 ⟨rfl, rfl⟩)
            | (go_at_call 8; refine NEW.out.mono ?_; rintro e w1 ⟨rfl, hw1, hbn, hsn⟩; have ci1 := (hbn.cell (p := ⟨b, off + i, none⟩) (Nat.lt_of_lt_of_le hbw hb.size)).trans ci))
          have hr1 := hr.below hbn hlt
          have hb1 := hb.trans (hbn.mono hb.size)
          have hjoin0 : strOfNums ([] : List Int) ++ t = t := by apply ByteArray.ext; simp [strOfNums]
          by_cases he : e0 = 0
          · subst he
            obtain ⟨N, k, rfl, rfl, hN, hk0, hkt, hform⟩ := nmb_read t _ _ _ hn
            cases bb with
            | true =>
              have RB := Lib.hid (rtext_bad hr1 (by omega) 3 (Or.inr rfl) (rcount_neg hr1 (by omega) _ _ hn))
              have hw4 := hw1
              have hr4 := hr1
              have hb4 := hb1
              have hjoin := hjoin0
              clear hn hw1 hr1 hb1 hjoin0 hform
              refine RB.out.mono ?_
              rintro e w4 ⟨rfl, rfl⟩
              have hsum : ¬ (9223372036854775807 < (strOfNums ([] : List Int)).size + t.size) := by
                have : (strOfNums ([] : List Int) ++ t).size = t.size := by rw [hjoin]
                rw [ByteArray.size_append] at this; omega
              have BY := Lib.hid (bytes_any hw4)
              have RE := Lib.hid (rest_any hr4)
              have hsz1 : t.size ≤ t.size := by
                have : (strOfNums ([] : List Int) ++ t).size = t.size := by rw [hjoin]
                rw [ByteArray.size_append] at this; omega
              have FIN := Lib.hid (And.intro hr4 (And.intro hb4 hsz1))
              clear hw4 hr4 hb4 hsz1
              go_wp2_with (first
                | (go_at_call 12; refine BY.out.mono ?_; rintro e w5 ⟨rfl, rfl⟩)
                | (go_at_call 16; refine RE.out.mono ?_; rintro e w6 ⟨rfl, rfl⟩))
              go_roundg (300 - (i+1))
              case measure => omega
              case rel => exact ⟨i+1, t, by omega, by go_num, FIN.out.1, FIN.out.2.1, by have := FIN.out.2.2; omega⟩
            | false =>
              by_cases hNk : k + N ≤ t.size
              · have TX := rtext_ok hr1 (by omega) N k hn hNk
                obtain ⟨X, hX⟩ : ∃ X, (t.extract k t.size).extract 0 N = X := ⟨_, rfl⟩
                obtain ⟨t1, ht1⟩ : ∃ t1, (t.extract k t.size).extract N (t.size - k) = t1 := ⟨_, rfl⟩
                have hXs : X.size = N := by rw [← hX, ByteArray.size_extract, ByteArray.size_extract]; omega
                have hXY : X ++ t1 = t.extract k t.size := by
                  rw [← hX, ← ht1]
                  have := cut_two (t.extract k t.size) N (by rw [ByteArray.size_extract]; omega)
                  rw [ByteArray.size_extract, show min t.size t.size - k = t.size - k by omega] at this
                  exact this
                have hj := cut_join t k hkt
                rw [hX, ht1] at TX
                have HTX := Lib.hid TX
                clear TX hX ht1 hn hjoin0
                refine HTX.out.mono ?_
                rintro e w2 ⟨rfl, hr2, ho2⟩
                have hw2 := hw1.onl ho2 hlt
                have hb2 := ho2.below hb1 (Nat.le_refl _)
                have hwt := text_any hw2 X (by rw [hXs]; simp; omega)
                rw [List.nil_append, hXs, show (64 : Int) = cond false 128 64 from rfl, hform] at hwt
                have hjoin : strOfNums ((bl t).take k ++ bl X) ++ t1 = t := by
                  rw [← strOfNums_append, bl_text, ByteArray.append_assoc, hXY, hj]
                obtain ⟨LL, hLL⟩ : ∃ LL, (bl t).take k ++ bl X = LL := ⟨_, rfl⟩
                rw [hLL] at hwt hjoin
                have HWH := Lib.hid hwt
                clear hwt hLL hform hw2 hXY hj hXs hw1 hr1 hb1
                go_wp2_with (go_at_call 10; refine HWH.out.mono ?_; rintro e w4 ⟨rfl, hw4, hbw4⟩)
                have hr4 := hr2.below hbw4 hlt
                have hb4 := hb2.trans (hbw4.mono hb.size)
                clear hr2 hb2 ho2 hbw4
                have hsum : ¬ (9223372036854775807 < (strOfNums LL).size + t1.size) := by
                  have : (strOfNums LL ++ t1).size = t.size := by rw [hjoin]
                  rw [ByteArray.size_append] at this; omega
                have BY := Lib.hid (bytes_any hw4)
                have RE := Lib.hid (rest_any hr4)
                have hsz1 : t1.size ≤ t.size := by
                  have : (strOfNums LL ++ t1).size = t.size := by rw [hjoin]
                  rw [ByteArray.size_append] at this; omega
                have FIN := Lib.hid (And.intro hr4 (And.intro hb4 hsz1))
                clear hw4 hr4 hb4 hsz1
                go_wp2_with (first
                  | (go_at_call 12; refine BY.out.mono ?_; rintro e w5 ⟨rfl, rfl⟩)
                  | (go_at_call 16; refine RE.out.mono ?_; rintro e w6 ⟨rfl, rfl⟩))
                go_roundg (300 - (i+1))
                case measure => omega
                case rel => exact ⟨i+1, t1, by omega, by go_num, FIN.out.1, FIN.out.2.1, by have := FIN.out.2.2; omega⟩
              · have TX := Lib.hid (rtext_short hr1 (by omega) N k hn (by omega))
                have hjoin := hjoin0
                clear hjoin0 hn hform
                refine TX.out.mono ?_
                rintro e w4 ⟨rfl, hr4, ho4⟩
                have hw4 := hw1.onl ho4 hlt
                have hb4 := ho4.below hb1 (Nat.le_refl _)
                clear hw1 hr1 hb1 ho4
                have hsum : ¬ (9223372036854775807 < (strOfNums ([] : List Int)).size + t.size) := by
                  have : (strOfNums ([] : List Int) ++ t).size = t.size := by rw [hjoin]
                  rw [ByteArray.size_append] at this; omega
                have BY := Lib.hid (bytes_any hw4)
                have RE := Lib.hid (rest_any hr4)
                have hsz1 : t.size ≤ t.size := by
                  have : (strOfNums ([] : List Int) ++ t).size = t.size := by rw [hjoin]
                  rw [ByteArray.size_append] at this; omega
                have FIN := Lib.hid (And.intro hr4 (And.intro hb4 hsz1))
                clear hw4 hr4 hb4 hsz1
                go_wp2_with (first
                  | (go_at_call 12; refine BY.out.mono ?_; rintro e w5 ⟨rfl, rfl⟩)
                  | (go_at_call 16; refine RE.out.mono ?_; rintro e w6 ⟨rfl, rfl⟩))
                go_roundg (300 - (i+1))
                case measure => omega
                case rel => exact ⟨i+1, t, by omega, by go_num, FIN.out.1, FIN.out.2.1, by have := FIN.out.2.2; omega⟩
          · have he2 := nmb_err _ _ _ _ _ _ _ hn
            obtain ⟨he3, rfl, rfl, rfl⟩ := he2.resolve_left he
            have RB := Lib.hid (rtext_bad hr1 (by omega) e0 he3 (rcount_bad hr1 (by omega) e0 he3 hn))
            have hw4 := hw1
            have hr4 := hr1
            have hb4 := hb1
            have hjoin := hjoin0
            have he0 : (e0 == 0) = false := by rw [beq_eq_false_iff_ne]; exact he
            clear he he3 he2 hn hw1 hr1 hb1 hjoin0
            refine RB.out.mono ?_
            rintro e w4 ⟨rfl, rfl⟩
            have hsum : ¬ (9223372036854775807 < (strOfNums ([] : List Int)).size + t.size) := by
              have : (strOfNums ([] : List Int) ++ t).size = t.size := by rw [hjoin]
              rw [ByteArray.size_append] at this; omega
            have BY := Lib.hid (bytes_any hw4)
            have RE := Lib.hid (rest_any hr4)
            have hsz1 : t.size ≤ t.size := by
              have : (strOfNums ([] : List Int) ++ t).size = t.size := by rw [hjoin]
              rw [ByteArray.size_append] at this; omega
            have FIN := Lib.hid (And.intro hr4 (And.intro hb4 hsz1))
            clear hw4 hr4 hb4 hsz1
            go_wp2_with (first
              | (go_at_call 12; refine BY.out.mono ?_; rintro e w5 ⟨rfl, rfl⟩)
              | (go_at_call 16; refine RE.out.mono ?_; rintro e w6 ⟨rfl, rfl⟩))
            go_roundg (300 - (i+1))
            case measure => omega
            case rel => exact ⟨i+1, t, by omega, by go_num, FIN.out.1, FIN.out.2.1, by have := FIN.out.2.2; omega⟩

      · obtain rfl : i = 300 := by omega
        go_wp2_with fail
        go_ret
        exact ⟨rfl, hb⟩
    · go_wp2_with fail
      go_ret
      exact ⟨rfl, hb⟩
end Go.Proofs.Ytpjnephiijnpgaa
