/-
  The walks of siloref03.turn, numbers, padded.
-/
import Derived.Test.YtoijdiokomineaaDoorOwn
import Derived.Test.YtoijdiokomineaaDoorSum
import Derived.Test.YtoijdiokomineaaDoorWord
namespace Go.Proofs.YtoijdiokomineaaDoor
open Go.RowKit
set_option linter.unusedVariables false

/-- Turned right by k places, one by one. -/
def tn (x : Int) : Nat → Int
  | 0 => x
  | k + 1 => (tn x k) / 2 + (tn x k) % 2 * 2147483648
theorem tn_eq (x : Int) (hx : 0 ≤ x) (hx' : x < 4294967296) (k : Nat) (hk : k ≤ 31) : tn x k = x / ((2 ^ k : Nat) : Int) + x % ((2 ^ k : Nat) : Int) * ((2 ^ (32 - k) : Nat) : Int) := by
  induction k with
  | zero => simp [tn]
  | succ k ih =>
    have ih := ih (by omega)
    have e1 : (2 ^ (32 - k) : Nat) = 2 * 2 ^ (32 - (k + 1)) := by rw [show 32 - k = (32 - (k + 1)) + 1 by omega, Nat.pow_succ]; omega
    have e2 : (2 ^ (k + 1) : Nat) = 2 ^ k * 2 := Nat.pow_succ 2 k
    have e3 : (2 ^ k * 2 ^ (32 - (k + 1)) : Nat) = 2147483648 := by rw [← Nat.pow_add, show k + (32 - (k + 1)) = 31 by omega]
    have hp : 0 < (2 ^ k : Nat) := Nat.pow_pos (by decide)
    generalize hP : (2 ^ k : Nat) = p at *
    generalize hR : (2 ^ (32 - (k + 1)) : Nat) = r at *
    rw [e1] at ih
    rw [e2]
    have q1 : x / ((p * 2 : Nat) : Int) = x / (p : Int) / 2 := by rw [Int.ediv_ediv_of_nonneg (by omega)]; simp
    have d1 := Int.mul_ediv_add_emod x (p : Int)
    have d2 := Int.mul_ediv_add_emod x ((p * 2 : Nat) : Int)
    have m0 := Int.emod_nonneg x (b := (p : Int)) (by omega)
    have d3 := Int.mul_ediv_add_emod (x / (p : Int)) 2
    have m1 : x % ((p * 2 : Nat) : Int) = x % (p : Int) + p * (x / (p : Int) % 2) := by
      have : ((p * 2 : Nat) : Int) * (x / (p : Int) / 2) + p * (x / (p : Int) % 2) = p * (x / (p : Int)) := by
        rw [show ((p * 2 : Nat) : Int) = (p : Int) * 2 by simp, Int.mul_assoc, ← Int.mul_add, d3]
      rw [q1] at d2
      omega
    rw [q1, m1]
    show tn x k / 2 + tn x k % 2 * 2147483648 = _
    rw [ih]
    have z : x % (p : Int) * ((2 * r : Nat) : Int) = 2 * (x % (p : Int) * (r : Int)) := by
      rw [show ((2 * r : Nat) : Int) = 2 * (r : Int) by simp]
      rw [← Int.mul_assoc, Int.mul_comm _ 2, Int.mul_assoc]
    have z2 : (x % (p : Int) + p * (x / (p : Int) % 2)) * (r : Int) = x % (p : Int) * (r : Int) + (x / (p : Int) % 2) * 2147483648 := by
      rw [Int.add_mul]
      congr 1
      rw [Int.mul_comm (p : Int), Int.mul_assoc]
      congr 1
      have := congrArg (Nat.cast (R := Int)) e3
      simpa using this
    rw [z, z2]
    omega
theorem tn_rot (x : Int) (hx : 0 ≤ x) (hx' : x < 4294967296) (k : Nat) (h0 : 0 < k) (hk : k ≤ 31) : tn x k = rot x k := by
  rw [tn_eq x hx hx' k hk]
  unfold rot
  have hp : 0 < (2 ^ k : Nat) := Nat.pow_pos (by decide)
  have hr : 0 < (2 ^ (32 - k) : Nat) := Nat.pow_pos (by decide)
  have e3 : (2 ^ k * 2 ^ (32 - k) : Nat) = 4294967296 := by rw [← Nat.pow_add, show k + (32 - k) = 32 by omega]
  have hi : x * ((2 ^ (32 - k) : Nat) : Int) % 4294967296 = x % ((2 ^ k : Nat) : Int) * ((2 ^ (32 - k) : Nat) : Int) := by
    rw [show (4294967296 : Int) = ((2 ^ (32 - k) : Nat) : Int) * ((2 ^ k : Nat) : Int) by rw [← Int.natCast_mul, Nat.mul_comm, e3]; rfl]
    rw [Int.mul_comm x, Int.mul_emod_mul_of_pos _ _ (by omega), Int.mul_comm]
  have hlow : x / ((2 ^ k : Nat) : Int) < ((2 ^ (32 - k) : Nat) : Int) := by
    rw [Int.ediv_lt_iff_lt_mul (by omega)]
    rw [← Int.natCast_mul, Nat.mul_comm, e3]; exact hx'
  have h1 : 0 ≤ x / ((2 ^ k : Nat) : Int) := Int.ediv_nonneg hx (by omega)
  have h2 := Int.emod_nonneg x (b := ((2 ^ k : Nat) : Int)) (by omega)
  have h3 := Int.emod_lt_of_pos x (b := ((2 ^ k : Nat) : Int)) (by omega)
  have h4 : ((2 ^ (32 - k) : Nat) : Int) ≤ 4294967296 := by
    have : 2 ^ (32 - k) ≤ 2 ^ 32 := Nat.pow_le_pow_right (by decide) (by omega)
    omega
  rw [hi]
  have hm : x % ((2 ^ k : Nat) : Int) * ((2 ^ (32 - k) : Nat) : Int) < 4294967296 := by
    rw [← hi]; exact Int.emod_lt_of_pos _ (by decide)
  have hcast : ((2 ^ (32 - k) : Nat) : Int) = (2 : Int) ^ (32 - k) := by simp
  rw [u32_join (32 - k) (x % ((2 ^ k : Nat) : Int) * ((2 ^ (32 - k) : Nat) : Int)) (x / ((2 ^ k : Nat) : Int)) (Int.mul_nonneg h2 (by omega)) (by rw [hcast]; exact Int.mul_emod_left _ _) hm h1 (by rw [← hcast]; exact hlow) (by omega)]
  omega

set_option maxRecDepth 100000 in
theorem turn_any (x : Int) (hx : 0 ≤ x) (hx' : x < 4294967296) (k : Nat) (hk : k ≤ 31) (w : World) :
    Calls Tryd.prog 20 #[.int .u32 x, .int .i64 k] w fun e w' => e = .returned (.int .u32 (tn x k)) ∧ w = w' := by
  have hb : ∀ j, j ≤ 31 → 0 ≤ tn x j ∧ tn x j < 4294967296 := by
    intro j
    induction j with
    | zero => intro _; exact ⟨hx, hx'⟩
    | succ j ih => intro h; have := ih (by omega); show 0 ≤ tn x j / 2 + tn x j % 2 * 2147483648 ∧ _ < _; simp only [tn]; omega
  have HB := Lib.hid hb; clear hb
  go_enter Tryd.func20, Tryd.ntmps20
  go_wp2_with fail
  go_loopg [0, 5] k (fun g v z wr => ∃ i : Nat, i + g = k ∧ z = .int .i64 i ∧ v = .int .u32 (tn x i) ∧ wr = w)
  case atStart => exact ⟨0, by omega, rfl, rfl, rfl⟩
  case round =>
    obtain ⟨i, hi, rfl, rfl, rfl⟩ := hrel
    have hu := HB.out i (by omega)
    obtain ⟨y, hy⟩ : ∃ y, tn x i = y := ⟨_, rfl⟩
    by_cases hik : i < k
    · have HY := Lib.hid hy
      rw [hy] at hu ⊢
      clear hy
      go_wp2_with fail
      go_roundg (k - (i+1))
      case measure => omega
      case rel => exact ⟨i+1, by omega, by go_num, by show _ = Value.int .u32 (tn x i / 2 + tn x i % 2 * 2147483648); rw [HY.out], rfl⟩
    · obtain rfl : i = k := by omega
      go_wp2_with fail
      go_ret
      exact ⟨rfl, rfl⟩

/-- The eight bytes of a length, from the front: how the reference divides. -/
theorem div256 (n : Int) (h : 0 ≤ n) (k : Nat) : n / ((256 ^ k : Nat) : Int) / 256 = n / ((256 ^ (k + 1) : Nat) : Int) := by
  rw [Int.ediv_ediv_of_nonneg (Int.natCast_nonneg _), Nat.pow_succ]; simp
theorem und40 : Tryd.prog.underlying 40 = some (.slice 29) := by kernel_rfl
theorem info29 : (Tryd.prog.info? 29).map (fun i => (i.zero, i.size, i.bytes)) = some (some (.int .u32 0), 1, 4) := by kernel_rfl

set_option maxRecDepth 100000 in
set_option maxHeartbeats 1000000 in
theorem padded_any (s : ByteArray) (hs : s.size < 1099511600000) (w : World) :
    Calls Tryd.prog 19 #[.string s] w fun e w' => e = .returned (.string (strOfNums (pads (bl s)))) ∧ Below w.heap.size w w' := by
  have hn0 := Own.nil w w.heap.size 5 .u8
  go_enter Tryd.func19, Tryd.ntmps19
  go_wp2_with (first
    | (at_builtin; refine wpList_own_text rfl (.tmp 8) (.tmp 9) 50 9 rfl 5 und50 und9 info5 hn0 rfl rfl s rfl (by simp; omega) (Nat.le_refl _) ?_; intro a1 c1 w1 ho1 hg1)
    | (at_builtin; refine wpList_own_append1 rfl (.tmp 11) (.tmp 12) 50 rfl 5 .u8 1 und50 info5 (by decide) (ho1.alloc _) rfl (by simp) w1.heap.size 1 128 rfl (by simp) (by simp; omega) (by have := hg1.size; simp; omega) ?_; intro a2 c2 w2 ho2 hg2))
  have hb1 : Below w.heap.size w w1 := below_own (Below.refl _ _) hn0 hg1 (Nat.le_refl _) (Nat.le_refl _)
  have hb2 : Below w.heap.size w w2 := below_own (hb1.alloc (by have := hg1.size; omega) _) (ho1.alloc _) hg2 (Nat.le_refl _) (by have := hg1.size; simp; omega)
  have hl0 := bl_length s
  have ebl : (s.data.toList.map fun b => (b.toNat : Int)) = bl s := rfl
  rw [ebl, List.nil_append] at ho2
  have HL0 := Lib.hid hl0
  clear ho1 hg1 hg2 hb1 hn0 hl0 ebl
  go_loopg [3] (zeros s.size) (fun g v wr => ∃ (n z : Nat) (ao : Option Addr) (cap : Nat), z + g = zeros s.size ∧ n = s.size + 1 + z ∧ v = .slice ao n cap ∧ Own wr w.heap.size 5 .u8 ao cap (bl s ++ [128] ++ List.replicate z 0) ∧ Below w.heap.size w wr)
  case atStart => exact ⟨s.size + 1, 0, a2, c2, by omega, rfl, by simp, by simpa using ho2, hb2⟩
  case round =>
    obtain ⟨n, z, ao, cap, hz, hn, rfl, ho, hb⟩ := hrel
    clear ho2 hb2
    have hsz := hb.size
    have hlen : (bl s ++ [128] ++ List.replicate z 0).length = n := by simp [HL0.out]; omega
    have HLEN := Lib.hid hlen; clear hlen
    by_cases h56 : n % 64 = 56
    · have hd : ((n : Int) % 64 != 56) = false := by rw [bne_eq_false_iff_eq]; omega
      have hz0 : z = zeros s.size := by unfold zeros at *; omega
      have HZ := Lib.hid hz0; clear hz0
      have hz64 : z < 64 := by have := HZ.out; unfold zeros at this; omega
      have HN := Lib.hid hn; clear hn h56
      obtain ⟨wA, rfl⟩ : ∃ wA : World, wA = wr := ⟨_, rfl⟩
      go_wp2_with fail
      go_loopg [3, 5] 8 (fun g v y ws => ∃ (m : Nat) (ao : Option Addr) (cap : Nat), m + g = 8 ∧ y = .int .i64 (7 - (m : Int)) ∧ v = .slice ao (n + m) cap ∧ Own ws w.heap.size 5 .u8 ao cap (bl s ++ [128] ++ List.replicate z 0 ++ len8 s.size m) ∧ Below w.heap.size w ws)
      case atStart => exact ⟨0, ao, cap, rfl, rfl, rfl, by simpa [len8] using ho, hb⟩
      case round =>
        obtain ⟨m, ao, cap, hm, rfl, rfl, ho2, hb2⟩ := hrel
        clear ho hb hsz hd hz
        have hsz := hb2.size
        obtain ⟨wo, rfl⟩ : ∃ wo : World, wo = wr := ⟨_, rfl⟩
        have hlen2 : (bl s ++ [128] ++ List.replicate z 0 ++ len8 s.size m).length = n + m := by rw [List.length_append, HLEN.out]; simp [len8]
        have HLEN2 := Lib.hid hlen2; clear hlen2
        by_cases h8 : m < 8
        · go_wp2_with fail
          go_loopg [6, 7] (7 - m) (fun g x y wt => ∃ k : Nat, k + g = 7 - m ∧ y = .int .i64 k ∧ x = .int .u64 ((s.size : Int) * 8 / ((256 ^ k : Nat) : Int)) ∧ wo = wt)
          case atStart => exact ⟨0, by omega, rfl, by simp, rfl⟩
          case round =>
            obtain ⟨k, hk, rfl, rfl, rfl⟩ := hrel
            have hq : 0 ≤ (s.size : Int) * 8 / ((256 ^ k : Nat) : Int) := Int.ediv_nonneg (by omega) (Int.natCast_nonneg _)
            have hq2 : (s.size : Int) * 8 / ((256 ^ k : Nat) : Int) ≤ (s.size : Int) * 8 := Int.ediv_le_self _ (by omega)
            have hnext := div256 ((s.size : Int) * 8) (by omega) k
            have HNX := Lib.hid hnext; clear hnext
            obtain ⟨q, hqq⟩ : ∃ q, (s.size : Int) * 8 / ((256 ^ k : Nat) : Int) = q := ⟨_, rfl⟩
            have HQ := Lib.hid hqq
            rw [hqq] at hq hq2 ⊢
            clear hqq
            by_cases hkm : k < 7 - m
            · have hlt : (k : Int) < 7 - (m : Int) := by omega
              go_wp2_with fail
              go_roundg (7 - m - (k + 1))
              case measure => omega
              case rel => exact ⟨k+1, by omega, by go_num, by rw [← HNX.out, HQ.out], rfl⟩
            · have hge : ¬ ((k : Int) < 7 - (m : Int)) := by omega
              obtain rfl : k = 7 - m := by omega
              go_wp2_with (first
                | (at_builtin; refine wpList_own_append1 rfl (.tmp 37) (.tmp 41) 50 rfl 5 .u8 1 und50 info5 (by decide) (ho2.alloc _) rfl (by rw [HLEN2.out]) wo.heap.size 1 (q % 256) rfl (by simp) (by rw [HLEN2.out, HN.out]; omega) (by simp; omega) ?_; intro a3 c3 w3 ho3 hg3))
              have hb3 : Below w.heap.size w w3 := below_own (hb2.alloc (by omega) _) (ho2.alloc _) hg3 (Nat.le_refl _) (by simp; omega)
              go_roundg (8 - (m + 1))
              case measure => omega
              case rel =>
                refine ⟨m+1, a3, c3, by omega, by go_num, by go_num, ?_, hb3⟩
                rw [len8_succ, ← List.append_assoc]
                have e : (s.size : Int) * 8 / 2 ^ (56 - 8 * m) % 256 = q % 256 := by
                  rw [← HQ.out]
                  congr 2
                  have : (256 ^ (7 - m) : Nat) = 2 ^ (56 - 8 * m) := by
                    rw [show (256 : Nat) = 2 ^ 8 by rfl, ← Nat.pow_mul]; congr 1; omega
                  rw [this]; simp
                rw [e]
                exact ho3
        · obtain rfl : m = 8 := by omega
          obtain ⟨g, rfl, hg1, hg2⟩ := ho2.headAt (by rw [HLEN2.out]; omega)
          have hcv := run_convert_bytes_arg (P := Tryd.prog) wo 50 5 und50 und5 g 0 (n + 8) cap (bl s ++ [128] ++ List.replicate z 0 ++ len8 s.size 8) HLEN2.out (fun j hj => by
            rw [Nat.zero_add]; exact ho2.cell j (by rw [HLEN2.out]; exact hj)) 9 und9
          have eP : bl s ++ [128] ++ List.replicate z 0 ++ len8 s.size 8 = pads (bl s) := by
            unfold pads; rw [HL0.out, HZ.out]; simp only [List.append_assoc]
          rw [eP] at hcv
          clear ho2
          go_wp2_with fail
          go_ret
          exact ⟨rfl, hb2⟩
    · have hd : ((n : Int) % 64 != 56) = true := by rw [bne_iff_ne]; omega
      have hzb : z < 64 := by unfold zeros at hz; omega
      have hz1 : 0 < gk := by
        rcases Nat.eq_zero_or_pos gk with h | h
        · subst h; unfold zeros at hz; omega
        · exact h
      have HN := Lib.hid hn; clear hn
      go_wp2_with (first
        | (at_builtin; refine wpList_own_append1 rfl (.tmp 18) (.tmp 19) 50 rfl 5 .u8 1 und50 info5 (by decide) (ho.alloc _) rfl (by rw [HLEN.out]) wr.heap.size 1 0 rfl (by simp) (by rw [HLEN.out, HN.out]; omega) (by simp; omega) ?_; intro a3 c3 w3 ho3 hg3))
      have hb3 : Below w.heap.size w w3 := below_own (hb.alloc (by omega) _) (ho.alloc _) hg3 (Nat.le_refl _) (by simp; omega)
      go_roundg (gk - 1)
      case measure => omega
      case rel => exact ⟨n+1, z+1, a3, c3, by omega, by rw [HN.out]; omega, rfl, by rw [List.replicate_succ', ← List.append_assoc]; exact ho3, hb3⟩

set_option maxRecDepth 100000 in
theorem numbers_any (w : World) : Calls Tryd.prog 18 #[] w fun e w' => e = .returned (.slice (some ⟨w.heap.size, 0, none⟩) 64 64) ∧ w' = w.alloc (.cells (nums .u32 kv 64) 29) := by
  go_enter Tryd.func18, Tryd.ntmps18
  go_wp2_with fail
  go_ret
  exact ⟨rfl, rfl⟩
end Go.Proofs.YtoijdiokomineaaDoor
