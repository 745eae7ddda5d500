/-
  The walks of six.Over, Reader.Rest, Reader.End, Reader.number.
-/
import Derived.Test.YtekbfaafofflaaaWriter
namespace Go.Proofs.Ytekbfaafofflaaa
open Go.RowKit
set_option linter.unusedVariables false

/-- The reader in block p has s ahead. -/
def Rdr (w : World) (p : Nat) (s : ByteArray) : Prop := w.heap[p]? = some (.cells #[.string s] 51 (0, 0))
theorem Rdr.lt {w : World} {p : Nat} {s : ByteArray} (h : Rdr w p s) : p < w.heap.size := (Array.getElem?_eq_some_iff.1 h).1
theorem Rdr.below {w w' : World} {p : Nat} {s : ByteArray} (h : Rdr w p s) {B : Nat} (hb : Below B w w') (hB : p < B) : Rdr w' p s := (hb.block p hB).trans h
theorem Rdr.put {w : World} {p : Nat} {s : ByteArray} (h : Rdr w p s) (t : ByteArray) : Rdr (w.setCell ⟨p, 0, none⟩ (.string t)) p t ∧ Below p w (w.setCell ⟨p, 0, none⟩ (.string t)) := by
  refine ⟨?_, (Below.refl _ _).setCell (by simp) _⟩
  unfold Rdr
  rw [heap_setCell_same w p 0 _ 51 _ h]; rfl
theorem Rdr.cell {w : World} {p : Nat} {s : ByteArray} (h : Rdr w p s) : w.cell? ⟨p, 0, none⟩ = some (.string s) := by rw [cell_of_row w p 0 _ _ _ h]; rfl
theorem Rdr.thaw {w : World} {p : Nat} {s : ByteArray} (h : Rdr w p s) : w.frozen? ⟨p, 0, none⟩ = false := frozen_of_row _ _ _ _ _ h

theorem over_any (s : ByteArray) (w : World) : Calls Try.prog 14 #[.string s] w fun e w' => e = .returned (.pointer (some ⟨w.heap.size, 0, none⟩)) ∧ Rdr w' w.heap.size s ∧ Below w.heap.size w w' ∧ w'.heap.size = w.heap.size + 1 := by
  go_enter Try.func14, Try.ntmps14
  go_wp2_with fail
  go_ret
  exact ⟨rfl, heap_alloc_new _ _, (Below.refl _ _).alloc (Nat.le_refl _) _, by simp⟩
theorem rest_any {w : World} {p : Nat} {s : ByteArray} (h : Rdr w p s) : Calls Try.prog 15 #[.pointer (some ⟨p, 0, none⟩)] w fun e w' => e = .returned (.string s) ∧ w = w' := by
  have hc := h.cell
  clear h
  go_enter Try.func15, Try.ntmps15
  go_wp2_with fail
  go_ret
  exact ⟨rfl, rfl⟩

/-- What a number's reader finds: the number, whether below zero, how many bytes, the error. -/
def nmb : List Int → Nat → Int → Int × Bool × Int × Int
  | [], _, _ => (0, false, 0, 2)
  | c :: l, i, x => if 191 < c ∨ 144115188075855871 < x ∨ (i = 0 ∧ c = 0) then (0, false, 0, 3) else
      if 63 < c then (x * 64 + c % 64, decide (127 < c), (i : Int) + 1, 0) else nmb l (i + 1) (x * 64 + c % 64)
def nmbV (r : Int × Bool × Int × Int) : Value := .tuple #[.int .i64 r.1, .bool r.2.1, .int .i64 r.2.2.1, .int .i64 r.2.2.2]

theorem u64_join (i : Nat) (x y : Int) (hx₀ : 0 ≤ x) (hx : x % 2 ^ i = 0) (hx₁ : x < 18446744073709551616) (hy₀ : 0 ≤ y) (hy : y < 2 ^ i) (hy₁ : y < 18446744073709551616) : bits BinOp.or IntKind.u64 x y = x + y :=
  bits_join .u64 64 (by decide) (fun n h0 h1 => by rw [IntKind.wrap_u64]; omega) i x y hx₀ hx (by omega) hy₀ hy (by omega)
theorem u8_and63 (c : Int) (h0 : 0 ≤ c) (h1 : c < 256) : bits BinOp.and IntKind.u8 c 63 = c % 64 := by
  obtain ⟨n, rfl⟩ := Int.eq_ofNat_of_zero_le h0
  show IntKind.u8.wrap ((BitVec.ofInt 8 n &&& BitVec.ofInt 8 63).toNat : Int) = _
  have e : (BitVec.ofInt 8 n &&& BitVec.ofInt 8 63).toNat = n % 64 := by
    rw [BitVec.toNat_and, show (BitVec.ofInt 8 63).toNat = 2 ^ 6 - 1 from rfl, Nat.and_two_pow_sub_one_eq_mod, BitVec.ofInt_natCast, BitVec.toNat_ofNat]
    omega
  rw [e, IntKind.wrap_u8]
  omega
theorem bl_drop (s : ByteArray) (j : Nat) (h : j < s.size) : (bl s).drop j = ((s[j]'h).toNat : Int) :: (bl s).drop (j + 1) := by
  rw [List.drop_eq_getElem_cons (by rw [bl_length]; exact h)]
  congr 1
  simp [bl]
  rfl

theorem results_tmp4 {fn : Func} {t u v x : Tmp} (h : fn.results = #[.tmp t, .tmp u, .tmp v, .tmp x]) (tmps : Array Value) (P : Program) (w : World) :
    (results fn tmps).run P w = .ok (.tuple #[tmps.getD t undef, tmps.getD u undef, tmps.getD v undef, tmps.getD x undef]) w := by
  simp [results, h]

set_option maxRecDepth 100000 in
set_option maxHeartbeats 1000000 in
theorem number_any {w : World} {p : Nat} {s : ByteArray} (h : Rdr w p s) (hs : s.size ≤ 9223372036854775807) : Calls Try.prog 21 #[.pointer (some ⟨p, 0, none⟩)] w fun e w' => e = .returned (nmbV (nmb (bl s) 0 0)) ∧ w = w' := by
  have hc := h.cell
  clear h
  obtain ⟨R, hR⟩ : ∃ R, nmb (bl s) 0 0 = R := ⟨_, rfl⟩
  rw [hR]
  have HR := Lib.hid hR; clear hR
  go_enter Try.func21, Try.ntmps21
  go_wp2_with fail
  go_loopg [6, 7] s.size (fun g xv y wr => ∃ (i : Nat) (x : Int), i + g = s.size ∧ y = .int .i64 i ∧ xv = .int .u64 x ∧ 0 ≤ x ∧ x < 9223372036854775808 ∧ (i = 0 → x = 0) ∧ nmb ((bl s).drop i) i x = R ∧ w = wr)
  case atStart => exact ⟨0, 0, by omega, rfl, rfl, by omega, by omega, fun _ => rfl, HR.out, rfl⟩
  case round =>
    obtain ⟨i, x, hi, rfl, rfl, hx0, hx1, hz, hn, rfl⟩ := hrel
    by_cases hl : i < s.size
    · rw [bl_drop s i hl] at hn
      have hu := (s[i]'hl).toNat_lt
      obtain ⟨c, hcc⟩ : ∃ c : Nat, (s[i]'hl).toNat = c := ⟨_, rfl⟩
      rw [hcc] at hn hu
      unfold nmb at hn
      by_cases hbad : 191 < (c : Int) ∨ 144115188075855871 < x ∨ (i = 0 ∧ (c : Int) = 0)
      · rw [if_pos hbad] at hn
        have HN := Lib.hid hn; clear hn hz
        have hcase : 191 < (c : Int) ∨ (¬ (191 < (c : Int)) ∧ 144115188075855871 < x) ∨ (¬ (191 < (c : Int)) ∧ ¬ (144115188075855871 < x) ∧ i = 0 ∧ c = 0) := by omega
        clear hbad
        rcases hcase with h1 | ⟨h1, h2⟩ | ⟨h1, h2, h3, h4⟩
        · go_wp2_with fail
          refine bodyPost_ret (results_tmp4 rfl _ _ _) rfl ?_
          exact ⟨by rw [← HN.out]; rfl, rfl⟩
        · go_wp2_with fail
          refine bodyPost_ret (results_tmp4 rfl _ _ _) rfl ?_
          exact ⟨by rw [← HN.out]; rfl, rfl⟩
        · subst h3
          have hc0 : ((c : Int) == 0) = true := by rw [beq_iff_eq]; omega
          go_wp2_with fail
          refine bodyPost_ret (results_tmp4 rfl _ _ _) rfl ?_
          exact ⟨by rw [← HN.out]; rfl, rfl⟩
      · rw [if_neg hbad] at hn
        have h1 : ¬ (191 < (c : Int)) := by omega
        have h2 : ¬ (144115188075855871 < x) := by omega
        have h3 : i = 0 → ¬ (c = 0) := by omega
        clear hbad hz
        have hand := u8_and63 (c : Int) (by omega) (by omega)
        have hor := u64_join 6 (x * 64) ((c : Int) % 64) (by omega) (by omega) (by omega) (by omega) (by omega) (by omega)
        obtain ⟨d, hd⟩ : ∃ d, (c : Int) % 64 = d := ⟨_, rfl⟩
        have hd0 : 0 ≤ d ∧ d < 64 := by omega
        obtain ⟨hd0, hd1⟩ := hd0
        rw [hd] at hand hor hn
        clear hd
        by_cases h63 : 63 < (c : Int)
        · rw [if_pos h63] at hn
          have HN := Lib.hid hn; clear hn
          by_cases hi0 : i = 0
          · have hc0 : ((c : Int) == 0) = false := by rw [beq_eq_false_iff_ne]; omega
            subst hi0
            go_wp2_with fail
            refine bodyPost_ret (results_tmp4 rfl _ _ _) rfl ?_
            exact ⟨by rw [← HN.out]; rfl, rfl⟩
          · have hi0' : ((i : Int) == 0) = false := by rw [beq_eq_false_iff_ne]; omega
            go_wp2_with fail
            refine bodyPost_ret (results_tmp4 rfl _ _ _) rfl ?_
            exact ⟨by rw [← HN.out]; rfl, rfl⟩
        · rw [if_neg h63] at hn
          have HN := Lib.hid hn; clear hn
          by_cases hi0 : i = 0
          · have hc0 : ((c : Int) == 0) = false := by rw [beq_eq_false_iff_ne]; omega
            subst hi0
            go_wp2_with fail
            go_roundg (s.size - 1)
            case measure => omega
            case rel => exact ⟨1, x * 64 + d, by omega, by go_num, by go_num, by omega, by omega, by omega, HN.out, rfl⟩
          · have hi0' : ((i : Int) == 0) = false := by rw [beq_eq_false_iff_ne]; omega
            go_wp2_with fail
            go_roundg (s.size - (i+1))
            case measure => omega
            case rel => exact ⟨i+1, x * 64 + d, by omega, by go_num, by go_num, by omega, by omega, by omega, HN.out, rfl⟩
    · have e0 : (bl s).drop i = [] := List.drop_eq_nil_of_le (by rw [bl_length]; omega)
      rw [e0] at hn
      have HN := Lib.hid hn; clear hn e0
      obtain rfl : i = s.size := by omega
      go_wp2_with fail
      refine bodyPost_ret (results_tmp4 rfl _ _ _) rfl ?_
      exact ⟨by rw [← HN.out]; rfl, rfl⟩

theorem nmb_size (l : List Int) (i : Nat) (x : Int) (n size : Int) (b : Bool) (h : nmb l i x = (n, b, size, 0)) : (i : Int) < size ∧ size ≤ i + l.length := by
  induction l generalizing i x with
  | nil => simp [nmb] at h
  | cons c l ih =>
    unfold nmb at h
    split at h
    · simp at h
    · split at h
      · simp only [Prod.mk.injEq] at h
        simp only [List.length_cons]
        omega
      · have := ih _ _ h
        simp only [List.length_cons]
        omega

set_option maxRecDepth 100000 in
theorem rcount_ok {w : World} {p : Nat} {s : ByteArray} (h : Rdr w p s) (hs : s.size ≤ 9223372036854775807) (n : Int) (k : Nat) (hr : nmb (bl s) 0 0 = (n, false, (k : Int), 0)) :
    Calls Try.prog 20 #[.pointer (some ⟨p, 0, none⟩)] w fun e w' => e = .returned (.tuple #[.int .i64 n, .int .i64 0]) ∧ w' = w.setCell ⟨p, 0, none⟩ (.string (s.extract k s.size)) := by
  have hc := h.cell
  have hf := h.thaw
  have hk := (nmb_size _ _ _ _ _ _ hr).2
  rw [bl_length] at hk
  have hk2 : k ≤ s.size := by omega
  have hk3 : (k : Int) ≤ (s.size : Int) := by omega
  have N := number_any h hs
  rw [hr] at N
  have HN := Lib.hid N
  clear h hr N hk
  go_enter Try.func20, Try.ntmps20
  go_wp2_with (go_at_call 21; refine HN.out.mono ?_; rintro e w1 ⟨rfl, rfl⟩; unfold nmbV)
  go_ret2
  exact ⟨rfl, rfl⟩
end Go.Proofs.Ytekbfaafofflaaa
