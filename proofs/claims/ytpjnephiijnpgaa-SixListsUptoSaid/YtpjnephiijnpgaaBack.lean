/-
  The walk of silolaw01.SixBack.
-/
import Derived.Test.YtpjnephiijnpgaaFlat
namespace Go.Proofs.Ytpjnephiijnpgaa
open Go.RowKit
set_option linter.unusedVariables false

theorem w_whole {w : World} {p : Nat} {L : List Int} (h : Wrt w p L) (x : Int) (hx0 : -9223372036854775808 ≤ x) (hx1 : x ≤ 9223372036854775807) (hl : L.length + 11 ≤ 140737488355328) :
    Calls Try.prog 9 #[.pointer (some ⟨p, 0, none⟩), .int .i64 x] w fun e w' => e = .returned (.int .i64 0) ∧ Wrt w' p (L ++ wh x) ∧ Below p w w' := whole_any h x hx0 hx1 hl
theorem w_text {w : World} {p : Nat} {L : List Int} (h : Wrt w p L) (s : ByteArray) (hl : L.length + 11 + s.size < 140737488355328) :
    Calls Try.prog 10 #[.pointer (some ⟨p, 0, none⟩), .string s] w fun e w' => e = .returned (.int .i64 0) ∧ Wrt w' p (L ++ tx s) ∧ Below p w w' := text_any h s hl

/-- The first n of them, one behind the other; those from i on. -/
def upto (f : Nat → List Int) (n : Nat) : List Int := (List.range n).flatMap f
def fromOn (f : Nat → List Int) (n i : Nat) : List Int := (List.range' i (n - i)).flatMap f
theorem upto_zero (f : Nat → List Int) : upto f 0 = [] := rfl
theorem upto_succ (f : Nat → List Int) (n : Nat) : upto f (n + 1) = upto f n ++ f n := by unfold upto; simp [List.range_succ]
theorem fromOn_all (f : Nat → List Int) (n : Nat) : fromOn f n 0 = upto f n := by unfold fromOn upto; rw [List.range_eq_range']; rfl
theorem fromOn_step (f : Nat → List Int) (n i : Nat) (h : i < n) : fromOn f n i = f i ++ fromOn f n (i + 1) := by
  unfold fromOn
  rw [show n - i = (n - (i + 1)) + 1 by omega, List.range'_succ]
  rfl
theorem fromOn_end (f : Nat → List Int) (n : Nat) : fromOn f n n = [] := by unfold fromOn; simp
theorem upto_len (f : Nat → List Int) (n m : Nat) (h : ∀ i, i < n → (f i).length ≤ m) : (upto f n).length ≤ n * m := by
  induction n with
  | zero => simp [upto]
  | succ k ih =>
    rw [upto_succ, List.length_append, Nat.succ_mul]
    have := ih (fun i hi => h i (by omega))
    have := h k (by omega)
    omega
theorem upto_mono (f : Nat → List Int) (n i : Nat) (h : i ≤ n) : (upto f i).length ≤ (upto f n).length := by
  induction n with
  | zero => rw [Nat.le_zero.1 h]; exact Nat.le_refl _
  | succ k ih =>
    by_cases e : i = k + 1
    · subst e; exact Nat.le_refl _
    · rw [upto_succ, List.length_append]; have := ih (by omega); omega
theorem upto_u8 (f : Nat → List Int) (n : Nat) (h : ∀ i, i < n → ∀ c ∈ f i, 0 ≤ c ∧ c < 256) : ∀ c ∈ upto f n, 0 ≤ c ∧ c < 256 := by
  intro c hc
  unfold upto at hc
  obtain ⟨i, hi, hc⟩ := List.mem_flatMap.1 hc
  exact h i (by simpa using hi) c hc
theorem fromOn_len (f : Nat → List Int) (n i : Nat) (h : i ≤ n) : (upto f i).length + (fromOn f n i).length = (upto f n).length := by
  rw [← fromOn_all f n]
  have : ∀ k, k ≤ n → (upto f k) ++ (fromOn f n k) = fromOn f n 0 := by
    intro k
    induction k with
    | zero => intro _; rfl
    | succ j ih => intro hj; rw [← ih (by omega), fromOn_step f n j (by omega), upto_succ, List.append_assoc]
  rw [← this i h, List.length_append]

/-- A list of numbers, of texts, as an argument. -/
structure IntArg (w : World) (ao : Option Addr) (b off len : Nat) (K : Nat → Int) : Prop where
  at_ : 0 < len → ao = some ⟨b, off, none⟩ ∧ b < w.heap.size
  cell : ∀ i, i < len → w.cell? ⟨b, off + i, none⟩ = some (.int .i64 (K i))
  lo : ∀ i, i < len → -9223372036854775808 ≤ K i ∧ K i ≤ 9223372036854775807
structure TextArg (w : World) (ao : Option Addr) (b off len : Nat) (T : Nat → ByteArray) : Prop where
  at_ : 0 < len → ao = some ⟨b, off, none⟩ ∧ b < w.heap.size
  cell : ∀ i, i < len → w.cell? ⟨b, off + i, none⟩ = some (.string (T i))

set_option maxRecDepth 100000 in
set_option maxHeartbeats 4000000 in
theorem back_any (more : ByteArray) (ao : Option Addr) (b off len cap : Nat) (K : Nat → Int) (ao2 : Option Addr) (b2 off2 len2 cap2 : Nat) (T : Nat → ByteArray) (w : World)
    (hI : IntArg w ao b off len K) (hT : TextArg w ao2 b2 off2 len2 T) (hlen : len ≤ 1048576) (hlen2 : len2 ≤ 1048576) (hT1 : ∀ i, i < len2 → (T i).size ≤ 1048576)
    (hT2 : (upto (fun j => tx (T j)) len2).length ≤ 134217728) (hmore : more.size ≤ 1048576) :
    Calls Try.prog 3 #[.slice ao len cap, .slice ao2 len2 cap2, .string more] w fun e w' => e = .returned (.bool true) ∧ Below w.heap.size w w' := by
  have hW2 := upto_len (fun j => wh (K j)) len 11 (fun i hi => wh_len_le _ (hI.lo i hi).1 (hI.lo i hi).2)
  obtain ⟨FI, hFI⟩ : ∃ FI, FI = fun j => wh (K j) := ⟨_, rfl⟩
  obtain ⟨FT, hFT⟩ : ∃ FT, FT = fun j => tx (T j) := ⟨_, rfl⟩
  rw [← hFI] at hW2
  rw [← hFT] at hT2
  have HFI : ∀ j, FI j = wh (K j) := fun j => by rw [hFI]
  have HFT : ∀ j, FT j = tx (T j) := fun j => by rw [hFT]
  have hFI8 : ∀ i, i < len → ∀ c ∈ FI i, 0 ≤ c ∧ c < 256 := fun i _ => by rw [HFI]; exact wh_u8 _
  have hFT8 : ∀ i, i < len2 → ∀ c ∈ FT i, 0 ≤ c ∧ c < 256 := fun i _ => by rw [HFT]; exact tx_u8 _
  clear hFI hFT
  have HI := Lib.hid hI; clear hI
  have HT := Lib.hid hT; clear hT
  have HFI' := Lib.hid HFI; clear HFI
  have HFT' := Lib.hid HFT; clear HFT
  have HT1 := Lib.hid hT1; clear hT1
  have HFI8 := Lib.hid hFI8; clear hFI8
  have HFT8 := Lib.hid hFT8; clear hFT8
  go_enter Try.func3, Try.ntmps3
  go_wp2_with fail
  refine (new_any w).mono ?_
  rintro e w1 ⟨rfl, hw1, hb1, hs1⟩
  go_wp2_with fail
  go_loopg [8] len (fun g v wr => ∃ i : Nat, i + g = len ∧ v = .int .i64 i ∧ Wrt wr w.heap.size (upto FI i) ∧ Below w.heap.size w wr)
  case atStart => exact ⟨0, by omega, rfl, hw1, hb1⟩
  case round =>
    clear hw1 hb1
    obtain ⟨i, hi, rfl, hw, hb⟩ := hrel
    by_cases hl : i < len
    · obtain ⟨rfl, hbw⟩ := HI.out.at_ (by omega)
      have ci := (hb.cell (p := ⟨b, off + i, none⟩) hbw).trans (HI.out.cell i hl)
      have hki := HI.out.lo i hl
      have hul := upto_mono FI len i (by omega)
      have W := w_whole hw (K i) hki.1 hki.2 (by omega)
      rw [← HFI'.out, ← upto_succ] at W
      have HW := Lib.hid W
      obtain ⟨x, hx⟩ : ∃ x, K i = x := ⟨_, rfl⟩
      rw [hx] at ci HW
      clear hx hki W hul
      go_wp2_with (go_at_call 9; refine HW.out.mono ?_; rintro e w2 ⟨rfl, hw2, hb2⟩)
      go_roundg (len - (i+1))
      case measure => omega
      case rel => exact ⟨i+1, by omega, by go_num, hw2, hb.trans hb2⟩
    · obtain rfl : i = len := by omega
      obtain ⟨w2, rfl⟩ : ∃ w2 : World, w2 = wr := ⟨_, rfl⟩
      go_wp2_with fail
      go_loopg [9] len2 (fun g v wr => ∃ k : Nat, k + g = len2 ∧ v = .int .i64 k ∧ Wrt wr w.heap.size (upto FI i ++ upto FT k) ∧ Below w.heap.size w wr)
      case atStart => exact ⟨0, by omega, rfl, by rw [upto_zero, List.append_nil]; exact hw, hb⟩
      case round =>
        clear hw hb
        obtain ⟨k, hk, rfl, hw, hb⟩ := hrel
        by_cases hl2 : k < len2
        · obtain ⟨rfl, hbw⟩ := HT.out.at_ (by omega)
          have ci := (hb.cell (p := ⟨b2, off2 + k, none⟩) hbw).trans (HT.out.cell k hl2)
          have hki := HT1.out k hl2
          have hul := upto_mono FT len2 k (by omega)
          have W := w_text hw (T k) (by rw [List.length_append]; omega)
          rw [← HFT'.out, List.append_assoc, ← upto_succ] at W
          have HW := Lib.hid W
          obtain ⟨x, hx⟩ : ∃ x, T k = x := ⟨_, rfl⟩
          rw [hx] at ci HW
          clear hx hki W hul
          go_wp2_with (go_at_call 10; refine HW.out.mono ?_; rintro e w3 ⟨rfl, hw3, hb3⟩)
          go_roundg (len2 - (k+1))
          case measure => omega
          case rel => exact ⟨k+1, by omega, by go_num, hw3, hb.trans hb3⟩
        · obtain rfl : k = len2 := by omega
          obtain ⟨w3, rfl⟩ : ∃ w3 : World, w3 = wr := ⟨_, rfl⟩
          have BY := Lib.hid (bytes_any hw)
          have hsum : (strOfNums (upto FI i ++ upto FT k)).size + more.size ≤ 9223372036854775807 := by
            rw [← bl_length, bl_strOf _ (fun c hc => (List.mem_append.1 hc).elim (upto_u8 FI i HFI8.out c) (upto_u8 FT k HFT8.out c)), List.length_append]; omega
          have hbl : bl (strOfNums (upto FI i ++ upto FT k) ++ more) = fromOn FI i 0 ++ (upto FT k ++ bl more) := by
            rw [bl_append, bl_strOf _ (fun c hc => (List.mem_append.1 hc).elim (upto_u8 FI i HFI8.out c) (upto_u8 FT k HFT8.out c)), fromOn_all, List.append_assoc]
          have HBL := Lib.hid hbl; clear hbl
          go_wp2_with (go_at_call 12; refine BY.out.mono ?_; rintro e w4 ⟨rfl, rfl⟩)
          refine (over_any _ w3).mono ?_
          rintro e w4 ⟨rfl, hr4, hb4, hs4⟩
          have hr4' : RdL w4 w3.heap.size (fromOn FI i 0 ++ (upto FT k ++ bl more)) := ⟨_, hr4, HBL.out⟩
          have hb4' := hb.trans (hb4.mono hb.size)
          have hlt3 := hb.size
          clear hr4 hb4 BY HBL hw hb hsum
          go_wp2_with fail
          go_loopg [11] i (fun g v wr => ∃ j : Nat, j + g = i ∧ v = .int .i64 j ∧ RdL wr w3.heap.size (fromOn FI i j ++ (upto FT k ++ bl more)) ∧ Below w.heap.size w wr)
          case atStart => exact ⟨0, by omega, rfl, hr4', hb4'⟩
          case round =>
            clear hr4' hb4'
            obtain ⟨j, hj, rfl, hr, hb⟩ := hrel
            by_cases hl3 : j < i
            · obtain ⟨rfl, hbw⟩ := HI.out.at_ (by omega)
              have hki := HI.out.lo j hl3
              have hul := fromOn_len FI i j (by omega)
              have hlen9 : (fromOn FI i j ++ (upto FT k ++ bl more)).length ≤ 140737488355328 := by simp only [List.length_append, bl_length]; omega
              rw [fromOn_step FI i j hl3, HFI'.out, List.append_assoc] at hr hlen9
              have R := Lib.hid (rd_whole (K j) hki.1 hki.2 hlen9 hr)
              have HC := Lib.hid (HI.out.cell j hl3)
              obtain ⟨x, hx⟩ : ∃ x, K j = x := ⟨_, rfl⟩
              rw [hx] at R HC
              clear hx hki hul hlen9 hr
              go_wp2_with (go_at_call 13; refine R.out.mono ?_; rintro e w5 ⟨rfl, hr5, ho5⟩; have hb5 := ho5.below hb hlt3; have ci := (hb5.cell (p := ⟨b, off + j, none⟩) hbw).trans HC.out)
              go_roundg (i - (j+1))
              case measure => omega
              case rel => exact ⟨j+1, by omega, by go_num, hr5, hb5⟩
            · obtain rfl : j = i := by omega
              obtain ⟨w5, rfl⟩ : ∃ w5 : World, w5 = wr := ⟨_, rfl⟩
              rw [fromOn_end, List.nil_append, ← fromOn_all] at hr
              go_wp2_with fail
              go_loopg [14] k (fun g v wr => ∃ m : Nat, m + g = k ∧ v = .int .i64 m ∧ RdL wr w3.heap.size (fromOn FT k m ++ bl more) ∧ Below w.heap.size w wr)
              case atStart => exact ⟨0, by omega, rfl, hr, hb⟩
              case round =>
                clear hr hb
                obtain ⟨m, hm, rfl, hr, hb⟩ := hrel
                by_cases hl4 : m < k
                · obtain ⟨rfl, hbw⟩ := HT.out.at_ (by omega)
                  have hul := fromOn_len FT k m (by omega)
                  have hlen9 : (fromOn FT k m ++ bl more).length ≤ 140737488355328 := by simp only [List.length_append, bl_length]; omega
                  rw [fromOn_step FT k m hl4, HFT'.out, List.append_assoc] at hr hlen9
                  have R := Lib.hid (rd_text (T m) hlen9 hr)
                  have HC := Lib.hid (HT.out.cell m hl4)
                  obtain ⟨x, hx⟩ : ∃ x, T m = x := ⟨_, rfl⟩
                  rw [hx] at R HC
                  clear hx hul hlen9 hr
                  go_wp2_with (go_at_call 14; refine R.out.mono ?_; rintro e w6 ⟨rfl, hr6, ho6⟩; have hb6 := ho6.below hb hlt3; have ci := (hb6.cell (p := ⟨b2, off2 + m, none⟩) hbw).trans HC.out)
                  go_roundg (k - (m+1))
                  case measure => omega
                  case rel => exact ⟨m+1, by omega, by go_num, hr6, hb6⟩
                · obtain rfl : m = k := by omega
                  obtain ⟨w6, rfl⟩ : ∃ w6 : World, w6 = wr := ⟨_, rfl⟩
                  rw [fromOn_end, List.nil_append] at hr
                  obtain ⟨t, hr, ht⟩ := hr
                  obtain rfl := bl_inj ht
                  clear ht
                  go_wp2_with fail
                  refine (awake_any _).mono ?_
                  rintro e w7 ⟨rfl, hb7⟩
                  have hr7 := hr.below hb7 hr.lt
                  have hb8 := hb.trans (hb7.mono hb.size)
                  have RE := Lib.hid (rest_any hr7)
                  clear hr7
                  go_wp2_with (go_at_call 16; refine RE.out.mono ?_; rintro e w8 ⟨rfl, rfl⟩)
                  go_ret
                  exact ⟨rfl, hb8⟩
end Go.Proofs.Ytpjnephiijnpgaa
