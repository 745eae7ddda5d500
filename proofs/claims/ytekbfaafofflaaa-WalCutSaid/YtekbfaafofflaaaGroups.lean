/-
  The walk of six.groups: a number's groups of six bits, the highest first; the last one bears the mark.
-/
import Derived.Test.YtekbfaafofflaaaOwn
import Derived.Test.YtekbfaafofflaaaProg
import Derived.Deep.LoopGhost
import Derived.Lib.Hide
namespace Go.Proofs.Ytekbfaafofflaaa
open Go.RowKit
set_option linter.unusedVariables false

/-- How many groups stand ahead of the last one. -/
def tops (x : Nat) : Nat := if h : x < 64 then 0 else tops (x / 64) + 1
termination_by x
theorem tops_small (x : Nat) (h : x < 64) : tops x = 0 := by unfold tops; rw [dif_pos h]
theorem tops_big (x : Nat) (h : ¬ x < 64) : tops x = tops (x / 64) + 1 := by
  conv => lhs; unfold tops
  rw [dif_neg h]
theorem tops_iff (x k : Nat) : 63 < x / 64 ^ k ↔ k < tops x := by
  induction k generalizing x with
  | zero =>
    by_cases h : x < 64
    · rw [tops_small x h]; simp; omega
    · rw [tops_big x h]; simp; omega
  | succ k ih =>
    rw [Nat.pow_succ, Nat.mul_comm, ← Nat.div_div_eq_div_mul, ih (x / 64)]
    by_cases h : x < 64
    · rw [tops_small x h, show x / 64 = 0 by omega, tops_small 0 (by decide)]; omega
    · rw [tops_big x h]; omega
theorem tops_le (x : Nat) (h : x < 9223372036854775808) : tops x ≤ 10 := by
  by_cases h2 : 10 < tops x
  · have := (tops_iff x 10).2 h2
    have e : (64 : Nat) ^ 10 = 1152921504606846976 := by decide
    rw [e] at this
    omega
  · omega
/-- A number's groups. -/
def grp (x : Nat) (m : Int) : List Int := ((List.range (tops x)).map fun j => ((x / 64 ^ (tops x - j) % 64 : Nat) : Int)) ++ [m + ((x % 64 : Nat) : Int)]
theorem grp_length (x : Nat) (m : Int) : (grp x m).length = tops x + 1 := by simp [grp]

theorem u64_and63 (n : Nat) (h : n < 18446744073709551616) : bits BinOp.and IntKind.u64 (n : Int) 63 = ((n % 64 : Nat) : Int) := by
  show IntKind.u64.wrap ((BitVec.ofInt 64 n &&& BitVec.ofInt 64 63).toNat : Int) = _
  have e : (BitVec.ofInt 64 n &&& BitVec.ofInt 64 63).toNat = n % 64 := by
    rw [BitVec.toNat_and, show (BitVec.ofInt 64 63).toNat = 2 ^ 6 - 1 from rfl, Nat.and_two_pow_sub_one_eq_mod, BitVec.ofInt_natCast, BitVec.toNat_ofNat]
    omega
  rw [e, IntKind.wrap_u64]
  omega
theorem shr_eq (x k : Nat) : (x : Int) / 2 ^ (6 * k) = ((x / 64 ^ k : Nat) : Int) := by
  rw [show (64 : Nat) = 2 ^ 6 by rfl, ← Nat.pow_mul]; simp
theorem und38 : Try.prog.underlying 32 = some (.slice 5) := by kernel_rfl
theorem info5 : (Try.prog.info? 5).map (fun i => (i.zero, i.size, i.bytes)) = some (some (.int .u8 0), 1, 1) := by kernel_rfl

set_option maxRecDepth 100000 in
set_option maxHeartbeats 1000000 in
theorem groups_any {w : World} {B : Nat} {ao : Option Addr} {n cap : Nat} {L : List Int} (ho : Own w B 5 .u8 ao cap L) (hn : n = L.length) (x : Nat) (hx : x < 9223372036854775808) (m : Int) (hm0 : 0 ≤ m) (hm : m ≤ 192)
    (hl : L.length + 11 ≤ 140737488355328) (hB : B ≤ w.heap.size) :
    Calls Try.prog 18 #[.slice ao n cap, .int .u64 x, .int .u8 m] w fun e w' => ∃ ao' cap', e = .returned (.slice ao' (n + (grp x m).length) cap') ∧ Own w' B 5 .u8 ao' cap' (L ++ grp x m) ∧ Below B w w' := by
  have ht := tops_iff x
  have HT := Lib.hid ht; clear ht
  have htl := tops_le x hx
  have hg : grp x m = ((List.range (tops x)).map fun j => ((x / 64 ^ (tops x - j) % 64 : Nat) : Int)) ++ [m + ((x % 64 : Nat) : Int)] := rfl
  have HG := Lib.hid hg; have HGL := Lib.hid (grp_length x m)
  clear hg
  obtain ⟨G, hGe⟩ : ∃ G, grp x m = G := ⟨_, rfl⟩
  rw [hGe] at HG HGL ⊢
  clear hGe
  obtain ⟨T, hTe⟩ : ∃ T, tops x = T := ⟨_, rfl⟩
  rw [hTe] at HG HGL HT htl
  clear hTe
  have HN := Lib.hid hn; clear hn
  go_enter Try.func18, Try.ntmps18
  go_wp2_with fail
  go_loopg [7] T (fun g v wr => ∃ k : Nat, k + g = T ∧ v = .int .i64 (6 * (k : Int)) ∧ w = wr)
  case atStart => exact ⟨0, by omega, rfl, rfl⟩
  case round =>
    obtain ⟨k, hk, rfl, rfl⟩ := hrel
    have hsh := shr_eq x k
    have hT := HT.out k
    have hdl : x / 64 ^ k ≤ x := Nat.div_le_self _ _
    have HSH := Lib.hid hsh
    obtain ⟨q, hq⟩ : ∃ q, x / 64 ^ k = q := ⟨_, rfl⟩
    rw [hq] at hsh hT hdl
    by_cases hkT : k < T
    · have h63 : (63 : Int) < (q : Int) := by omega
      clear hT hq
      go_wp2_with fail
      go_roundg (T - (k+1))
      case measure => omega
      case rel => exact ⟨k+1, by omega, by go_num, rfl⟩
    · have h63 : ¬ ((63 : Int) < (q : Int)) := by omega
      obtain rfl : k = T := by omega
      clear hT hq
      go_wp2_with fail
      clear h63 hsh HSH hdl
      go_loopg [0, 7] k (fun g v y wr => ∃ (j : Nat) (ao : Option Addr) (cap : Nat), j + g = k ∧ y = .int .i64 (6 * (g : Int)) ∧ v = .slice ao (n + j) cap ∧ Own wr B 5 .u8 ao cap (L ++ (List.range j).map fun i => ((x / 64 ^ (k - i) % 64 : Nat) : Int)) ∧ Below B w wr)
      case atStart => exact ⟨0, ao, cap, by omega, rfl, rfl, by simpa using ho, Below.refl _ _⟩
      case round =>
        clear ho
        obtain ⟨j, ao, cap, hj, rfl, rfl, ho, hb⟩ := hrel
        have hB1 : B ≤ wr.heap.size := by have := hb.size; omega
        have hlen : (L ++ (List.range j).map fun i => ((x / 64 ^ (k - i) % 64 : Nat) : Int)).length = n + j := by rw [List.length_append, HN.out]; simp
        have HLEN := Lib.hid hlen; clear hlen
        by_cases hjk : j < k
        · have hg0 : (0 : Int) < 6 * (gk : Int) := by omega
          have hsh := shr_eq x gk
          have hdl : x / 64 ^ gk ≤ x := Nat.div_le_self _ _
          have hgk : gk = k - j := by omega
          have HGK := Lib.hid hgk; clear hgk
          obtain ⟨q, hq⟩ : ∃ q, x / 64 ^ gk = q := ⟨_, rfl⟩
          rw [hq] at hsh hdl
          have hand := u64_and63 q (by omega)
          have hq64 : ((q % 64 : Nat) : Int) < 256 := by omega
          have HQ := Lib.hid hq; clear hq
          go_wp2_with (first
            | (at_builtin; go_loud (refine wpList_own_append1 rfl (.tmp 18) (.tmp 24) 32 rfl 5 .u8 1 und38 info5 (by decide) (ho.alloc _) rfl (by rw [HLEN.out]) wr.heap.size 1 ((q % 64 : Nat) : Int) rfl (by simp) (by rw [HLEN.out, HN.out]; omega) (by simp; omega) ?_; intro a3 c3 w3 ho3 hg3)))
          have hb3 : Below B w w3 := below_own (hb.alloc hB1 _) (ho.alloc _) hg3 (Nat.le_refl _) (by simp; omega)
          go_roundg (gk - 1)
          case measure => omega
          case rel =>
            refine ⟨j+1, a3, c3, by omega, by go_num, by go_num, ?_, hb3⟩
            rw [List.range_succ, List.map_append, ← List.append_assoc]
            simp only [List.map_cons, List.map_nil]
            rw [← HGK.out, HQ.out]
            exact ho3
        · obtain rfl : j = k := by omega
          have hg0 : ¬ ((0 : Int) < 6 * (gk : Int)) := by omega
          have hand := u64_and63 x (by omega)
          obtain ⟨r, hr⟩ : ∃ r, x % 64 = r := ⟨_, rfl⟩
          have hr64 : r < 64 := by omega
          rw [hr] at hand HG
          have hw8 : IntKind.u8.wrap (m + (r : Int)) = m + (r : Int) := by rw [IntKind.wrap_u8]; omega
          clear hr
          go_wp2_with (first
            | (at_builtin; go_loud (refine wpList_own_append1 rfl (.tmp 26) (.tmp 32) 32 rfl 5 .u8 1 und38 info5 (by decide) (ho.alloc _) rfl (by rw [HLEN.out]) wr.heap.size 1 (m + (r : Int)) rfl (by simp) (by rw [HLEN.out, HN.out]; omega) (by simp; omega) ?_; intro a3 c3 w3 ho3 hg3)))
          have hb3 : Below B w w3 := below_own (hb.alloc hB1 _) (ho.alloc _) hg3 (Nat.le_refl _) (by simp; omega)
          go_ret
          refine ⟨a3, c3, ?_, ?_, hb3⟩
          · rw [HGL.out]; rfl
          · rw [HG.out, ← List.append_assoc]; exact ho3
end Go.Proofs.Ytekbfaafofflaaa
