/-
  The walk of delta.Make's closure: what is put in next.
-/
import Derived.Test.YtkfjkipffklblaaKeep
import Derived.Test.YtkfjkipffklblaaNext
import Derived.StillTailTactics
namespace Go.Proofs.Ytkfjkipffklblaa
open Go.RowKit
set_option linter.unusedVariables false

theorem notRow {c : Array Value} {t : TypeId} {fr : Nat × Nat} (h : t ≠ 5) : ¬ isRow5 (.cells c t fr) := by
  rintro ⟨c', fr', e⟩
  injection e with _ h2 _
  exact h h2
def insB (T : List Int) (bg en : Nat) : List Int := if bg < en then grp (2 * (en - bg)) 64 ++ (T.drop bg).take (en - bg) else []
theorem strOf_bl {L : List Int} (h : ∀ c ∈ L, 0 ≤ c ∧ c < 256) : (strOfNums L).data.toList.map (fun b => (b.toNat : Int)) = L := bl_strOf L h

set_option maxRecDepth 100000 in
set_option maxHeartbeats 1000000 in
theorem ins_any {X : World} (Bt Bw Bb p : Nat) (ao : Option Addr) (b off len cap : Nat) (T A : List Int) (bg en : Nat) (hb : X.heap[Bb]? = some (.cells #[.int .i64 bg] 3 (0, 0))) (hw : X.heap[Bw]? = some (.cells #[.pointer (some ⟨p, 0, none⟩)] 47 (0, 0)))
    (ht : X.heap[Bt]? = some (.cells #[.slice ao len cap] 22 (0, 0))) (hT : BytesArg X ao b off len cap T) (hbp : 0 < len → b < p) (hW : Wrt X p A) (h1 : Bb ≠ p) (h2 : Bw ≠ p) (h3 : Bt ≠ p) (hen : en ≤ len) (hlen : len ≤ 1048576) (hA : A.length ≤ 1048576) :
    Calls Try.prog 18 #[.int .i64 en, .pointer (some ⟨Bb, 0, none⟩), .pointer (some ⟨Bw, 0, none⟩), .pointer (some ⟨Bt, 0, none⟩)] X fun e w' => e = .returned (.tuple #[]) ∧ Wrt w' p (A ++ insB T bg en) ∧ Below p X w' ∧ KeepW p X w' := by
  have cb := cell_of_row X Bb 0 _ _ _ hb
  have cw := cell_of_row X Bw 0 _ _ _ hw
  have HB := Lib.hid hb; have HW := Lib.hid hw; have HT := Lib.hid ht
  have HTA := Lib.hid hT; have HWr := Lib.hid hW; have HBP := Lib.hid hbp
  by_cases hlt : bg < en
  · have hi : (bg : Int) < (en : Int) := by omega
    obtain ⟨rfl, hbX⟩ := hT.at_ (by omega)
    have C := count_keep hW (2 * (en - bg)) (by omega) (by omega)
    rw [show ((2 * (en - bg) : Nat) : Int) = 2 * ((en : Int) - (bg : Int)) by omega] at C
    have HC := Lib.hid C
    have hins : insB T bg en = grp (2 * (en - bg)) 64 ++ (T.drop bg).take (en - bg) := if_pos hlt
    have HINS := Lib.hid hins
    have hsz := hT.size
    have hrm := hT.room
    have hgl := grp_len_le (2 * (en - bg)) (by omega) 64
    clear hb hw ht hT hW hbp C hins hsz
    go_enter Try.func18, Try.ntmps18
    go_wp2_with (go_at_call 17; refine HC.out.mono ?_; rintro e w1 ⟨rfl, hw1, hb1, hk1⟩)
    have kb := hk1 Bb _ h1 HB.out (notRow (by decide))
    have kw := hk1 Bw _ h2 HW.out (notRow (by decide))
    have kt := hk1 Bt _ h3 HT.out (notRow (by decide))
    have cb1 := cell_of_row w1 Bb 0 _ _ _ kb
    have cw1 := cell_of_row w1 Bw 0 _ _ _ kw
    have ct1 := cell_of_row w1 Bt 0 _ _ _ kt
    have hA1 := HTA.out.below hb1 HBP.out
    have hA2 : BytesArg w1.drew (some ⟨b, off, none⟩) b off len cap T := ⟨hA1.size, hA1.room, hA1.at_, hA1.cell, hA1.byte⟩
    have hcv : (convert 22 9 (.slice (some ⟨b, off + bg, none⟩) (en - bg) (cap - bg))).run Try.prog w1.drew = .ok (.string (strOfNums ((T.drop bg).take (en - bg)))) w1.drew := bytes_cut hA2 bg (en - bg) (by omega) (cap - bg)
    have hst := strOf_bl (L := (T.drop bg).take (en - bg)) (fun c hc => HTA.out.byte c (List.mem_of_mem_drop (List.mem_of_mem_take hc)))
    have hsz := HTA.out.size
    have hlen2 : ((T.drop bg).take (en - bg)).length = en - bg := by rw [List.length_take, List.length_drop]; omega
    obtain ⟨S, hS⟩ : ∃ S, (T.drop bg).take (en - bg) = S := ⟨_, rfl⟩
    rw [hS] at hcv hst hlen2
    have R := raw_keep (w := w1.drew) hw1 (strOfNums S) (by rw [strOfNums_size, List.length_append]; omega)
    rw [hst] at R
    have HR := Lib.hid R
    have HS := Lib.hid hS
    have hz1 : (bg : Int) ≤ (en : Int) := by omega
    have hz2 : (en : Int) ≤ (cap : Int) := by omega
    have hz3 : ¬ (cap = bg) := by omega
    have HB1 := Lib.hid hb1
    have HK1 := Lib.hid hk1
    clear kb kw kt hA1 hA2 hst hlen2 R hS hsz hw1 hb1 hk1
    go_wp2_with fail
    go_still_tail 6, (by kernel_rfl)
    change wpList _ _ _ _ _ w1.drew
    go_wp2_with (go_at_call 19; refine HR.out.mono ?_; rintro e w2 ⟨rfl, hw2, hb2, hk2⟩)
    go_end0
    refine ⟨rfl, ?_, Below.trans (b := w1.drew) (below_drewN HB1.out 1) hb2, ?_⟩
    · rw [HINS.out, HS.out, ← List.append_assoc]; exact hw2
    · exact HK1.out.trans (show KeepW p w1 w2 from hk2)
  · have hi : ¬ ((bg : Int) < (en : Int)) := by omega
    have hins : insB T bg en = [] := if_neg hlt
    have HINS := Lib.hid hins
    clear hb hw ht hT hW hbp hins
    go_enter Try.func18, Try.ntmps18
    go_wp2_with fail
    go_end0
    refine ⟨rfl, ?_, Below.refl _ _, KeepW.refl _ _⟩
    rw [HINS.out, List.append_nil]; exact HWr.out
end Go.Proofs.Ytkfjkipffklblaa
