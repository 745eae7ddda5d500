/-
  Pieces of a patch: what they are in bytes, what they make of a base; the walk of delta.next over a piece, and at the end.
-/
import Derived.Test.YtkfjkipffklblaaRead
namespace Go.Proofs.Ytkfjkipffklblaa
open Go.RowKit
set_option linter.unusedVariables false

structure Q where
  cp : Bool
  at_ : Int
  tx : ByteArray
  ln : Int
def Q.B (q : Q) : List Int := if q.cp then grp (2 * q.ln.toNat + 1) 64 ++ grp q.at_.toNat 64 else grp (2 * q.tx.size) 64 ++ bl q.tx
def Q.V (base : List Int) (q : Q) : List Int := if q.cp then (base.drop q.at_.toNat).take q.ln.toNat else bl q.tx
def Q.Ok (base : List Int) (q : Q) : Prop := if q.cp then 0 ≤ q.at_ ∧ 0 < q.ln ∧ q.at_ + q.ln ≤ (base.length : Int) else 0 < q.tx.size
theorem Q.V_len {base : List Int} {q : Q} (h : q.Ok base) : (q.V base).length = if q.cp then q.ln.toNat else q.tx.size := by
  unfold Q.Ok at h
  unfold Q.V
  cases hc : q.cp
  · simp [bl_length]
  · rw [hc] at h
    simp only [if_true] at h ⊢
    rw [List.length_take, List.length_drop]
    omega
theorem Q.V_pos {base : List Int} {q : Q} (h : q.Ok base) : 0 < (q.V base).length := by
  rw [Q.V_len h]
  unfold Q.Ok at h
  cases hc : q.cp
  · rw [hc] at h; simpa using h
  · rw [hc] at h; simp only [if_true] at h ⊢; omega

/-- A slice of bytes, as an argument. -/
structure BytesArg (w : World) (ao : Option Addr) (b off len cap : Nat) (L : List Int) : Prop where
  size : len = L.length
  room : len ≤ cap
  at_ : 0 < len → ao = some ⟨b, off, none⟩ ∧ b < w.heap.size
  cell : ∀ i, i < len → w.cell? ⟨b, off + i, none⟩ = some (.int .u8 (L.getD i 0))
  byte : ∀ c ∈ L, 0 ≤ c ∧ c < 256
theorem BytesArg.below {w w' : World} {ao : Option Addr} {b off len cap : Nat} {L : List Int} (h : BytesArg w ao b off len cap L) {B : Nat} (hb : Below B w w') (hB : 0 < len → b < B) : BytesArg w' ao b off len cap L :=
  ⟨h.size, h.room, fun h0 => ⟨(h.at_ h0).1, Nat.lt_of_lt_of_le (h.at_ h0).2 hb.size⟩, fun i hi => (hb.cell (p := ⟨b, off + i, none⟩) (hB (by omega))).trans (h.cell i hi), h.byte⟩

theorem bytes_cut {w : World} {ao : Option Addr} {b off len cap : Nat} {L : List Int} (h : BytesArg w ao b off len cap L) (k n : Nat) (hkn : k + n ≤ len) (c : Nat) :
    (convert 22 9 (.slice (some ⟨b, off + k, none⟩) n c)).run Try.prog w = .ok (.string (strOfNums ((L.drop k).take n))) w := by
  have hl := h.size
  have := run_convert_bytes_arg (P := Try.prog) w 22 5 und38 (by kernel_rfl) b (off + k) n c ((L.drop k).take n) (by rw [List.length_take, List.length_drop]; omega) (fun j hj => by
    rw [Nat.add_assoc, h.cell (k + j) (by omega)]
    congr 2
    rw [List.getD_eq_getElem?_getD, List.getD_eq_getElem?_getD, List.getElem?_take, if_pos hj, List.getElem?_drop]) 9 (by kernel_rfl)
  exact this

theorem rd_raw {w : World} {p : Nat} (A R : List Int) (n : Nat) (hn : n = A.length) (h : RdL w p (A ++ R)) :
    Calls Try.prog 23 #[.pointer (some ⟨p, 0, none⟩), .int .i64 n] w fun e w' => e = .returned (.tuple #[.string (strOfNums A), .int .i64 0]) ∧ RdL w' p R ∧ Onl w w' p := by
  subst hn
  obtain ⟨s, hr, hs⟩ := h
  have hk : A.length ≤ s.size := by rw [← bl_length, hs, List.length_append]; omega
  refine (rraw_ok hr A.length hk).mono ?_
  rintro e w' ⟨rfl, rfl⟩
  have e : s.extract 0 A.length = strOfNums A := by rw [← bl_text (s.extract 0 A.length), bl_head s A R hs]
  rw [e]
  exact ⟨rfl, ⟨_, hr.set _, bl_cut s A R hs⟩, Onl.set _ _ _⟩

set_option maxRecDepth 100000 in
set_option maxHeartbeats 1000000 in
theorem next_ok {w : World} {p : Nat} {R base : List Int} (q : Q) (ao : Option Addr) (b off len cap : Nat) (hA : BytesArg w ao b off len cap base) (hbp : 0 < len → b < p) (hlen : len ≤ 1048576) (hok : q.Ok base) (most : Int) (hmost : ((q.V base).length : Int) ≤ most) (hm : most ≤ 1048576)
    (hl : (q.B ++ R).length ≤ 140737488355328) (h : RdL w p (q.B ++ R)) :
    Calls Try.prog 13 #[.pointer (some ⟨p, 0, none⟩), .slice ao len cap, .int .i64 most] w fun e w' => e = .returned (.tuple #[.string (strOfNums (q.V base)), .int .i64 0]) ∧ RdL w' p R ∧ Onl w w' p := by
  have hvl := Q.V_len hok
  have hsz := hA.size
  unfold Q.B at h hl
  unfold Q.Ok at hok
  unfold Q.V at hvl hmost ⊢
  cases hc : q.cp
  · rw [hc] at h hl hok hvl hmost
    simp only [Bool.false_eq_true, if_false] at h hl hok hvl hmost ⊢
    obtain ⟨t, ht⟩ : ∃ t, q.tx = t := ⟨_, rfl⟩
    rw [ht] at h hl hok hvl hmost ⊢
    rw [List.append_assoc] at h hl
    have hgl := grp_len_le (2 * t.size) (by omega) 64
    obtain ⟨N, hN⟩ : ∃ N, 2 * t.size = N := ⟨_, rfl⟩
    rw [hN] at h hl
    have C := Lib.hid (rd_count N (by omega) hl h)
    have hN2 : (N : Int) / 2 = (t.size : Int) := by omega
    have hN1 : ((N : Int) % 2 == 0) = true := by rw [beq_iff_eq]; omega
    have hN3 : ¬ ((N : Int) < 2) := by omega
    have hN4 : ¬ (most < (t.size : Int)) := by rw [hvl] at hmost; omega
    have HQ := Lib.hid (rfl : strOfNums (bl t) = strOfNums (bl t))
    have hbt := bl_length t
    have HBT := Lib.hid hbt.symm
    clear hN h hl hvl hgl hsz hbt
    go_enter Try.func13, Try.ntmps13
    go_wp2_with (first
      | (go_at_call 12; refine C.out.mono ?_; rintro e w1 ⟨rfl, hr1, ho1⟩)
      | (go_at_call 23; refine (rd_raw (bl t) R t.size HBT.out hr1).mono ?_; rintro e w2 ⟨rfl, hr2, ho2⟩))
    go_ret2
    exact ⟨rfl, hr2, ho1.trans ho2⟩
  · rw [hc] at h hl hok hvl hmost
    simp only [if_true] at h hl hok hvl hmost ⊢
    rw [List.append_assoc] at h hl
    obtain ⟨h0, h1, h2⟩ := hok
    obtain ⟨m, hm0⟩ := Int.eq_ofNat_of_zero_le (Int.le_of_lt h1)
    obtain ⟨at_, ha0⟩ := Int.eq_ofNat_of_zero_le h0
    rw [hm0, ha0] at h2
    rw [hm0] at h1
    rw [hm0, ha0] at h hl hvl ⊢
    rw [hm0, ha0] at hmost
    simp only [Int.toNat_natCast] at h hl hvl hmost ⊢
    obtain ⟨N, hN⟩ : ∃ N, 2 * m + 1 = N := ⟨_, rfl⟩
    rw [hN] at h hl
    have C := Lib.hid (rd_count N (by omega) hl h)
    have hl2 : (grp at_ 64 ++ R).length ≤ 140737488355328 := by rw [List.length_append] at hl; omega
    have C2 := fun (w1 : World) (h : RdL w1 p (grp at_ 64 ++ R)) => rd_count at_ (by omega) hl2 h
    have HC2 := Lib.hid C2
    have hN2 : (N : Int) / 2 = (m : Int) := by omega
    have hN1 : ((N : Int) % 2 == 0) = false := by rw [beq_eq_false_iff_ne]; omega
    have hN3 : ¬ ((N : Int) < 2) := by omega
    have hN4 : ¬ (most < (m : Int)) := by rw [hvl] at hmost; omega
    have hlb : at_ + m ≤ len := by omega
    have hA1 : (at_ : Int) ≤ (len : Int) := by omega
    have hA2 : ¬ ((len : Int) < (at_ : Int)) := by omega
    have hA3 : ¬ ((len : Int) - (at_ : Int) < (m : Int)) := by omega
    have hA4 : (at_ : Int) + (m : Int) ≤ (cap : Int) := by have := hA.room; omega
    have hA5 : (at_ : Int) ≤ (at_ : Int) + (m : Int) := by omega
    have hA6 : ((at_ : Int) + (m : Int)).toNat - at_ = m := by omega
    have hac : at_ ≠ cap := by have := hA.room; omega
    obtain ⟨rfl, hbw⟩ := hA.at_ (by omega)
    have HA := Lib.hid hA
    have CV := fun (w2 : World) (ho : BytesArg w2 (some ⟨b, off, none⟩) b off len cap base) => bytes_cut ho at_ m hlb
    have HCV := Lib.hid CV
    clear CV C2 hN h hl hl2 hvl hsz hA
    go_enter Try.func13, Try.ntmps13
    go_wp2_with (first
      | (go_at_call 12; refine C.out.mono ?_; rintro e w1 ⟨rfl, hr1, ho1⟩)
      | (go_at_call 12; refine (HC2.out _ hr1).mono ?_; rintro e w2 ⟨rfl, hr2, ho2⟩; have hcv := HCV.out w2 (HA.out.below ((ho1.trans ho2).below (Below.refl p w) (Nat.le_refl _)) hbp) (cap - at_)))
    go_ret2
    exact ⟨rfl, hr2, ho1.trans ho2⟩
/-- At the end of the patch. -/
theorem next_end {w : World} {p : Nat} (v : Value) (most : Int) (h : RdL w p []) :
    Calls Try.prog 13 #[.pointer (some ⟨p, 0, none⟩), v, .int .i64 most] w fun e w' => e = .returned (.tuple #[.string { data := #[] }, .int .i64 2]) ∧ w = w' := by
  obtain ⟨s, hr, hs⟩ := h
  have hsz := bl_length s
  rw [hs] at hsz
  have hn : nmb (bl s) 0 0 = (0, false, 0, 2) := by rw [hs]; rfl
  have C := Lib.hid (rcount_bad hr (by rw [← hsz]; decide) 2 (Or.inl rfl) hn)
  clear hr hs hsz hn
  go_enter Try.func13, Try.ntmps13
  go_wp2_with (go_at_call 12; refine C.out.mono ?_; rintro e w1 ⟨rfl, rfl⟩)
  go_ret2
  exact ⟨rfl, rfl⟩
end Go.Proofs.Ytkfjkipffklblaa
