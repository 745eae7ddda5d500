/-
  The walk of silolaw01.SixWrites.
-/
import Derived.Test.YtpjnephiijnpgaaRefw
namespace Go.Proofs.Ytpjnephiijnpgaa
open Go.RowKit
set_option linter.unusedVariables false

theorem count_neg {w : World} {p : Nat} (x : Int) (hx : x < 0) :
    Calls Try.prog 17 #[.pointer (some ⟨p, 0, none⟩), .int .i64 x] w fun e w' => e = .returned (.int .i64 1) ∧ w = w' := by
  go_enter Try.func17, Try.ntmps17
  go_wp2_with fail
  go_ret
  exact ⟨rfl, rfl⟩
/-- What SixWrites gathers for a number. -/
def fw (x : Int) : List Int := (if x < 0 then [] else wh x) ++ wh x
theorem fw_neg (x : Int) (h : x < 0) : fw x = wh x := by unfold fw; rw [if_pos h]; rfl
theorem fw_pos (x : Int) (h : ¬ x < 0) : fw x = wh x ++ wh x := by unfold fw; rw [if_neg h]
theorem fw_len_le (x : Int) (h0 : -9223372036854775808 ≤ x) (h1 : x ≤ 9223372036854775807) : (fw x).length ≤ 22 := by
  have := wh_len_le x h0 h1
  by_cases h : x < 0
  · rw [fw_neg x h]; omega
  · rw [fw_pos x h, List.length_append]; omega
theorem w_count {w : World} {p : Nat} {L : List Int} (h : Wrt w p L) (x : Int) (hx0 : ¬ x < 0) (hx1 : x ≤ 9223372036854775807) (hl : L.length + 11 ≤ 140737488355328) :
    Calls Try.prog 17 #[.pointer (some ⟨p, 0, none⟩), .int .i64 x] w fun e w' => e = .returned (.int .i64 0) ∧ Wrt w' p (L ++ wh x) ∧ Below p w w' := by
  have := count_any h x.toNat (by omega) hl
  have e : wh x = grp x.toNat 64 := by unfold wh; rw [if_neg hx0]
  rw [e]
  rwa [show (x.toNat : Int) = x by omega] at this

set_option maxRecDepth 100000 in
set_option maxHeartbeats 4000000 in
theorem writes_any (s : ByteArray) (ao : Option Addr) (b off len cap : Nat) (K : Nat → Int) (w : World)
    (hI : IntArg w ao b off len K) (hlen : len ≤ 1048576) (hs : s.size ≤ 1048576) :
    Calls Try.prog 5 #[.slice ao len cap, .string s] w fun e w' => e = .returned (.bool true) ∧ Below w.heap.size w w' := by
  have hW2 := upto_len (fun j => fw (K j)) len 22 (fun i hi => fw_len_le _ (hI.lo i hi).1 (hI.lo i hi).2)
  obtain ⟨FI, hFI⟩ : ∃ FI, FI = fun j => fw (K j) := ⟨_, rfl⟩
  rw [← hFI] at hW2
  have HFI : ∀ j, FI j = fw (K j) := fun j => by rw [hFI]
  clear hFI
  have HI := Lib.hid hI; clear hI
  have HFI' := Lib.hid HFI; clear HFI
  go_enter Try.func5, Try.ntmps5
  go_wp2_with fail
  refine (new_any w).mono ?_
  rintro e w1 ⟨rfl, hw1, hb1, hs1⟩
  go_wp2_with fail
  go_loopg [6, 7] len (fun g z v wr => ∃ i : Nat, i + g = len ∧ v = .int .i64 i ∧ z = .string (strOfNums (upto FI i)) ∧ Wrt wr w.heap.size (upto FI i) ∧ Below w.heap.size w wr)
  case atStart => exact ⟨0, by omega, rfl, rfl, hw1, hb1⟩
  case round =>
    clear hw1 hb1
    obtain ⟨i, hi, rfl, rfl, hw, hb⟩ := hrel
    by_cases hl : i < len
    · obtain ⟨rfl, hbw⟩ := HI.out.at_ (by omega)
      have HC := Lib.hid (HI.out.cell i hl)
      have ci := (hb.cell (p := ⟨b, off + i, none⟩) hbw).trans HC.out
      have hki := HI.out.lo i hl
      have hul := upto_mono FI len (i + 1) (by omega)
      rw [upto_succ, List.length_append] at hul
      have hFi := HFI'.out i
      have hwl := wh_len_le (K i) hki.1 hki.2
      have hz0 := strOfNums_size (upto FI i)
      obtain ⟨x, hx⟩ : ∃ x, K i = x := ⟨_, rfl⟩
      rw [hx] at ci HC hki hFi hwl
      clear hx
      obtain ⟨hki0, hki1⟩ := hki
      obtain ⟨L, hL⟩ : ∃ L, upto FI i = L := ⟨_, rfl⟩
      rw [hL] at hw hul hz0 ⊢
      have HL := Lib.hid hL; clear hL
      by_cases hneg : x < 0
      · have hgs : upto FI (i+1) = L ++ wh x := by rw [upto_succ, HL.out, hFi, fw_neg x hneg]
        have HGS := Lib.hid hgs
        clear hgs hFi
        have hge : ¬ (0 ≤ x) := by omega
        have W := Lib.hid (w_whole hw x hki0 hki1 (by omega))
        have hz1 := strOfNums_size (wh x)
        have hsum : ¬ (9223372036854775807 < (strOfNums L).size + (strOfNums (wh x)).size) := by rw [hz0, hz1]; omega
        have hap := strOfNums_append L (wh x)
        clear hz0 hz1
        go_wp2_with (first
          | (go_at_call 17; refine (count_neg x hneg).mono ?_; rintro e w2 ⟨rfl, rfl⟩)
          | (go_at_call 9; refine W.out.mono ?_; rintro e w3 ⟨rfl, hw3, hb3⟩; have hb3' := hb.trans hb3; have ci3 := (hb3'.cell (p := ⟨b, off + i, none⟩) hbw).trans HC.out)
          | (go_at_call 18; refine (rwriteW_any _ x hki0 hki1).mono ?_; rintro e w4 ⟨rfl, hb4⟩))
        go_roundg (len - (i+1))
        case measure => omega
        case rel => exact ⟨i+1, by omega, by go_num, by rw [HGS.out], by rw [HGS.out]; exact hw3.below hb4, hb3'.trans (hb4.mono hb3'.size)⟩
      · have hgs : upto FI (i+1) = L ++ wh x ++ wh x := by rw [upto_succ, HL.out, hFi, fw_pos x hneg, List.append_assoc]
        have hfl : (FI i).length = (wh x).length + (wh x).length := by rw [hFi, fw_pos x hneg, List.length_append]
        rw [hfl] at hul
        have HGS := Lib.hid hgs
        clear hgs hFi hfl
        have hge : 0 ≤ x := by omega
        have hz1 := strOfNums_size (wh x)
        have hz2 := strOfNums_size (L ++ wh x)
        rw [List.length_append] at hz2
        have hsum : ¬ (9223372036854775807 < (strOfNums L).size + (strOfNums (wh x)).size) := by rw [hz0, hz1]; omega
        have hsum2 : ¬ (9223372036854775807 < (strOfNums (L ++ wh x)).size + (strOfNums (wh x)).size) := by rw [hz2, hz1]; omega
        have hap := strOfNums_append L (wh x)
        have hap2 := strOfNums_append (L ++ wh x) (wh x)
        clear hz0 hz1 hz2
        go_wp2_with fail
        refine (w_count hw x (by omega) hki1 (by omega)).mono ?_
        rintro e w2 ⟨rfl, hw2, hb2⟩
        have hb2' := hb.trans hb2
        have ci2 := (hb2'.cell (p := ⟨b, off + i, none⟩) hbw).trans HC.out
        have hw2s := hw2.lt
        have HW2 := Lib.hid hw2
        clear hw2 hw hb2 ci
        go_wp2_with fail
        refine (rwriteW_any _ x hki0 hki1).mono ?_
        rintro e w3 ⟨rfl, hb3⟩
        have hb3' := hb2'.trans (hb3.mono hb2'.size)
        have ci3 := (hb3'.cell (p := ⟨b, off + i, none⟩) hbw).trans HC.out
        have hw3 := HW2.out.below hb3
        clear ci2 hb3 hb2'
        have W := Lib.hid (w_whole hw3 x hki0 hki1 (by rw [List.length_append]; omega))
        clear hw3
        go_wp2_with (go_at_call 9; refine W.out.mono ?_; rintro e w4 ⟨rfl, hw4, hb4⟩; have hb4' := hb3'.trans hb4; have ci4 := (hb4'.cell (p := ⟨b, off + i, none⟩) hbw).trans HC.out)
        refine (rwriteW_any _ x hki0 hki1).mono ?_
        rintro e w5 ⟨rfl, hb5⟩
        go_wp2_with fail
        go_roundg (len - (i+1))
        case measure => omega
        case rel => exact ⟨i+1, by omega, by go_num, by rw [HGS.out, List.append_assoc], by rw [HGS.out]; exact hw4.below hb5, hb4'.trans (hb5.mono hb4'.size)⟩
    · obtain rfl : i = len := by omega
      obtain ⟨w2, rfl⟩ : ∃ w2 : World, w2 = wr := ⟨_, rfl⟩
      obtain ⟨L, hL⟩ : ∃ L, upto FI i = L := ⟨_, rfl⟩
      rw [hL] at hw hW2 ⊢
      clear hL
      have hz0 := strOfNums_size L
      have hz1 := strOfNums_size (tx s)
      have htl := tx_len_le s (by omega)
      have hsum : ¬ (9223372036854775807 < (strOfNums L).size + (strOfNums (tx s)).size) := by rw [hz0, hz1]; omega
      have hap := strOfNums_append L (tx s)
      have hap2 : strOfNums (L ++ tx s) ++ s = strOfNums (L ++ tx s ++ bl s) := by rw [← strOfNums_append (L ++ tx s), bl_text]
      have hz2 := strOfNums_size (L ++ tx s)
      rw [List.length_append] at hz2
      have hsum2 : ¬ (9223372036854775807 < (strOfNums (L ++ tx s)).size + s.size) := by rw [hz2]; omega
      clear hz0 hz1 hz2
      go_wp2_with fail
      refine (awake_any _).mono ?_
      rintro e w3 ⟨rfl, hb3⟩
      have hw3 := hw.below hb3
      have hb3' := hb.trans (hb3.mono hb.size)
      clear hw hb hb3
      have W3 := Lib.hid (w_text hw3 s (by omega))
      clear hw3
      go_wp2_with (go_at_call 10; refine W3.out.mono ?_; rintro e w4 ⟨rfl, hw4, hb4⟩; have W4 := Lib.hid (raw_any hw4 s (by rw [List.length_append]; omega)))
      refine W4.out.mono ?_
      rintro e w5 ⟨rfl, hw5, hb5⟩
      have BY := Lib.hid (bytes_any hw5)
      have hb5' := (hb3'.trans hb4).trans hb5
      clear hw5 hw4 W4 hb4 hb5
      go_wp2_with (first
        | (go_at_call 12; refine BY.out.mono ?_; rintro e w6 ⟨rfl, rfl⟩)
        | (go_at_call 20; refine (rwriteT_any _ s (by omega)).mono ?_; rintro e w7 ⟨rfl, hb7⟩))
      go_ret
      exact ⟨by simp [bl], hb5'.trans (hb7.mono hb5'.size)⟩
end Go.Proofs.Ytpjnephiijnpgaa
