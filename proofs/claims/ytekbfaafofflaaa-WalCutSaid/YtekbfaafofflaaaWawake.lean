/-
  The walks of silolaw12.awake, few, end.
-/
import Derived.Test.YtekbfaafofflaaaCutp
namespace Go.Proofs.Ytekbfaafofflaaa
open Go.RowKit
set_option linter.unusedVariables false
set_option linter.unusedSimpArgs false

def exab : ByteArray := { data := #[97, 98] }
def exaa : ByteArray := { data := #[97, 97] }
def ex2 : ByteArray := { data := #[66, 97] }
theorem grp_small (x : Nat) (h : x < 64) (m : Int) : grp x m = [m + (x : Int)] := by
  unfold grp; rw [tops_small x h]; simp; omega
theorem tx_ab : tx exab = [66, 97, 98] := by unfold tx; rw [show exab.size = 2 from rfl, grp_small 2 (by decide)]; rfl
theorem tx_aa : tx exaa = [66, 97, 97] := by unfold tx; rw [show exaa.size = 2 from rfl, grp_small 2 (by decide)]; rfl
theorem awake_sp : sp (FR exab ++ ex2).size (FR exab ++ ex2) = ([exab], 7) := by
  have h : bl (FR exab ++ ex2) = fromOn (fun j => FT ((fun _ => exab) j)) 1 0 ++ [66, 97] := by
    rw [bl_append, fromOn_all]
    show bl (FR exab) ++ bl ex2 = (upto (fun j => FT exab) 1) ++ [66, 97]
    simp [upto, FT]
    rfl
  obtain ⟨n2, S2, h2, h3, h4⟩ := sp_pre (fun _ => exab) 1 (fun i _ => by show 2 ≤ 1048576; decide) [66, 97] 1 0 rfl _ _ h (Nat.le_refl _)
  obtain ⟨c, hc, he⟩ := FT_eq exaa
  have h5 : hd S2 = none := hd_cut S2 exaa (by show 2 ≤ 1048576; decide) 2 (by rw [FT_len, tx_aa]; decide) (by rw [h2, he, tx_aa]; rfl)
  rw [h4, sp_none _ _ h5, fromOn_all]
  have hl : (upto (fun j => FT ((fun _ => exab) j)) 1).length = 7 := by simp [upto]; rw [FT_len, tx_ab]; rfl
  rw [hl]
  rfl

set_option maxRecDepth 100000 in
theorem awake_any (w : World) : Calls Try.prog 4 #[] w fun e w' => e = .returned (.bool true) ∧ Below w.heap.size w w' := by
  have hsz : (FR exab).size = 7 := by rw [FR_size, tx_ab]; rfl
  have hsum : ¬ (9223372036854775807 < (FR exab).size + ex2.size) := by rw [hsz]; decide
  have F := Lib.hid (frame_any w exab (by decide))
  have HSZ := Lib.hid hsz
  clear hsz
  go_enter Try.func4, Try.ntmps4
  go_wp2_with (go_at_call 6; refine F.out.mono ?_; rintro e w1 ⟨rfl, hb1⟩)
  have P := split_any w1 (FR exab ++ ex2) (by rw [ByteArray.size_append, HSZ.out]; decide)
  rw [awake_sp] at P
  have HP := Lib.hid P
  clear P
  refine HP.out.mono ?_
  rintro e w2 ⟨ao, cap, rfl, ho, hb2⟩
  obtain ⟨g, rfl, _, _⟩ := ho.headAt (by decide)
  have c0 := ho.cell 0 (.string exab) rfl
  have ht : exab.toList = [97, 98] := by rw [ByteArray.toList_eq]; rfl
  have hw2 := hb1.trans (hb2.mono hb1.size)
  clear ho hb2 HP
  go_wp2_with fail
  go_ret
  exact ⟨rfl, hw2⟩

def FewP (w : World) (len : Nat) (T : Nat → ByteArray) (e : Ending) (w' : World) : Prop := ∃ bb : Bool, e = .returned (.bool bb) ∧ w = w' ∧ (bb = true → len ≤ 200 ∧ ∀ i, i < len → (T i).size ≤ 30000)
set_option maxRecDepth 100000 in
set_option maxHeartbeats 1000000 in
theorem few_any (w : World) (ao : Option Addr) (b off len cap : Nat) (T : Nat → ByteArray) (hT : TextArg w ao b off len T) (hs : ∀ i, i < len → (T i).size ≤ 9223372036854775807) :
    Calls Try.prog 5 #[.slice ao len cap] w (FewP w len T) := by
  have HT := Lib.hid hT; clear hT
  have HSs := Lib.hid hs; clear hs
  go_enter Try.func5, Try.ntmps5
  go_wp2_with fail
  go_loopg [3, 4] 200 (fun g nv v X => ∃ (i n : Nat), i + g = 200 ∧ v = .int .i64 i ∧ nv = .int .i64 n ∧ i ≤ len ∧ (∀ j, j < i → (T j).size ≤ 30000) ∧ n ≤ 60000 ∧ w = X)
  case atStart => exact ⟨0, 0, by omega, rfl, rfl, Nat.zero_le _, fun j hj => absurd hj (by omega), by omega, rfl⟩
  case round =>
    obtain ⟨i, n, hi, rfl, rfl, hil, hj, hn, rfl⟩ := hrel
    have HJ := Lib.hid hj; clear hj
    by_cases hl : i < len
    · obtain ⟨rfl, hbw⟩ := HT.out.at_ (by omega)
      have ci := HT.out.cell i hl
      have hsi := HSs.out i hl
      obtain ⟨x, hx⟩ : ∃ x, T i = x := ⟨_, rfl⟩
      rw [hx] at ci hsi
      have HX := Lib.hid hx; clear hx
      by_cases h200 : (200 : Int) ≤ (i : Int)
      · go_wp2_with fail
        go_ret
        exact ⟨false, rfl, rfl, fun h => by cases h⟩
      · by_cases hbig : (30000 : Int) < (x.size : Int)
        · go_wp2_with fail
          go_ret
          exact ⟨false, rfl, rfl, fun h => by cases h⟩
        · by_cases hbn : (30000 : Int) < (n : Int)
          · go_wp2_with fail
            go_ret
            exact ⟨false, rfl, rfl, fun h => by cases h⟩
          · go_wp2_with fail
            go_roundg (gk - 1)
            case measure => omega
            case rel =>
              refine ⟨i+1, n + x.size, by omega, by go_num, by go_num, by omega, fun j hj => ?_, by omega, rfl⟩
              by_cases e : j = i
              · subst e; rw [HX.out]; omega
              · exact HJ.out j (by omega)
    · obtain rfl : i = len := by omega
      by_cases hbn : (n : Int) ≤ 30000
      · go_wp2_with fail
        go_ret
        exact ⟨true, by simp [hbn], rfl, fun _ => ⟨by omega, HJ.out⟩⟩
      · go_wp2_with fail
        go_ret
        exact ⟨false, by simp [hbn], rfl, fun h => by cases h⟩
end Go.Proofs.Ytekbfaafofflaaa
