/-
  What a writer's calls leave alone: every block but the writer's own and rows of bytes.
-/
import Derived.Test.YtkfjkipffklblaaRefw
namespace Go.Proofs.Ytkfjkipffklblaa
open Go.RowKit
set_option linter.unusedVariables false

def isRow5 (o : Obj) : Prop := ∃ c fr, o = .cells c 5 fr
/-- What is no row of bytes is as it was. -/
def Keep5 (w w' : World) : Prop := ∀ (k : Nat) (o : Obj), w.heap[k]? = some o → ¬ isRow5 o → w'.heap[k]? = some o
/-- .. but for block p. -/
def KeepW (p : Nat) (w w' : World) : Prop := ∀ (k : Nat) (o : Obj), k ≠ p → w.heap[k]? = some o → ¬ isRow5 o → w'.heap[k]? = some o
theorem Keep5.refl (w : World) : Keep5 w w := fun _ _ h _ => h
theorem Keep5.trans {a b c : World} (h : Keep5 a b) (k : Keep5 b c) : Keep5 a c := fun i o h1 h2 => k i o (h i o h1 h2) h2
theorem KeepW.refl (p : Nat) (w : World) : KeepW p w w := fun _ _ _ h _ => h
theorem KeepW.trans {p : Nat} {a b c : World} (h : KeepW p a b) (k : KeepW p b c) : KeepW p a c := fun i o hp h1 h2 => k i o hp (h i o hp h1 h2) h2
theorem keep_lt {w : World} {k : Nat} {o : Obj} (h : w.heap[k]? = some o) : k < w.heap.size := (Array.getElem?_eq_some_iff.1 h).1
theorem Keep5.alloc {w w' : World} (h : Keep5 w w') (o : Obj) : Keep5 w (w'.alloc o) := fun k x h1 h2 => by
  have h3 := h k x h1 h2
  have hlt := keep_lt h3
  show (w'.heap.push o)[k]? = _
  rw [Array.getElem?_push, if_neg (by omega)]
  exact h3
theorem Keep5.below {w w' w2 : World} (h : Keep5 w w') (hb : Below w'.heap.size w' w2) : Keep5 w w2 := fun k x h1 h2 => by
  have h3 := h k x h1 h2
  exact (hb.block k (keep_lt h3)).trans h3
theorem KeepW.below {p : Nat} {w w' w2 : World} (h : KeepW p w w') (hb : Below w'.heap.size w' w2) : KeepW p w w2 := fun k x hp h1 h2 => by
  have h3 := h k x hp h1 h2
  exact (hb.block k (keep_lt h3)).trans h3
theorem Keep5.grown {w w' w2 : World} {B : Nat} {ao : Option Addr} {cap : Nat} {L : List Int} (h : Keep5 w w') (ho : Own w' B 5 .u8 ao cap L) (hg : w'.grownBy w2 (ownB ao)) : Keep5 w w2 := fun k x h1 h2 => by
  have h3 := h k x h1 h2
  refine (hg.block k (keep_lt h3) ?_).trans h3
  intro e
  rcases ho.2 with ⟨hv, _⟩ | ⟨g, c, cur, hv, _, hh, _⟩
  · simp only [Value.slice.injEq] at hv
    rw [hv.1] at e
    cases e
  · simp only [Value.slice.injEq] at hv
    rw [hv.1] at e
    simp only [ownB, Option.map_some, Option.some.injEq] at e
    subst e
    rw [h3] at hh
    exact h2 ⟨cur, (0, 0), Option.some.inj hh⟩
theorem Keep5.store {w w' : World} (h : Keep5 w w') (p : Nat) (v : Value) : KeepW p w (w'.setCell ⟨p, 0, none⟩ v) := fun k x hp h1 h2 => by
  rw [heap_setCell_other _ _ _ _ hp]
  exact h k x h1 h2

set_option maxRecDepth 100000 in
set_option maxHeartbeats 1000000 in
theorem groups_keep {w : World} {B : Nat} {ao : Option Addr} {n cap : Nat} {L : List Int} (ho : Own w B 5 .u8 ao cap L) (hn : n = L.length) (x : Nat) (hx : x < 9223372036854775808) (m : Int) (hm0 : 0 ≤ m) (hm : m ≤ 192)
    (hl : L.length + 11 ≤ 140737488355328) (hB : B ≤ w.heap.size) :
    Calls Try.prog 25 #[.slice ao n cap, .int .u64 x, .int .u8 m] w fun e w' => ∃ ao' cap', e = .returned (.slice ao' (n + (grp x m).length) cap') ∧ Own w' B 5 .u8 ao' cap' (L ++ grp x m) ∧ Below B w w' ∧ Keep5 w w' := by
  have ht := tops_iff x
  have HT := Lib.hid ht; clear ht
  have htl := tops_le x hx
  have hg : grp x m = ((List.range (tops x)).map fun j => ((x / 64 ^ (tops x - j) % 64 : Nat) : Int)) ++ [m + ((x % 64 : Nat) : Int)] := rfl
  have HG := Lib.hid hg; have HGL := Lib.hid (grp_length x m)
  clear hg
  obtain ⟨G, hGe⟩ : ∃ G, grp x m = G := ⟨_, rfl⟩
  rw [hGe] at HG HGL ⊢
  clear hGe
  obtain ⟨T, hTe⟩ : ∃ T, tops x = T := ⟨_, rfl⟩
  rw [hTe] at HG HGL HT htl
  clear hTe
  have HN := Lib.hid hn; clear hn
  go_enter Try.func25, Try.ntmps25
  go_wp2_with fail
  go_loopg [7] T (fun g v wr => ∃ k : Nat, k + g = T ∧ v = .int .i64 (6 * (k : Int)) ∧ w = wr)
  case atStart => exact ⟨0, by omega, rfl, rfl⟩
  case round =>
    obtain ⟨k, hk, rfl, rfl⟩ := hrel
    have hsh := shr_eq x k
    have hT := HT.out k
    have hdl : x / 64 ^ k ≤ x := Nat.div_le_self _ _
    have HSH := Lib.hid hsh
    obtain ⟨q, hq⟩ : ∃ q, x / 64 ^ k = q := ⟨_, rfl⟩
    rw [hq] at hsh hT hdl
    by_cases hkT : k < T
    · have h63 : (63 : Int) < (q : Int) := by omega
      clear hT hq
      go_wp2_with fail
      go_roundg (T - (k+1))
      case measure => omega
      case rel => exact ⟨k+1, by omega, by go_num, rfl⟩
    · have h63 : ¬ ((63 : Int) < (q : Int)) := by omega
      obtain rfl : k = T := by omega
      clear hT hq
      go_wp2_with fail
      clear h63 hsh HSH hdl
      go_loopg [0, 7] k (fun g v y wr => ∃ (j : Nat) (ao : Option Addr) (cap : Nat), j + g = k ∧ y = .int .i64 (6 * (g : Int)) ∧ v = .slice ao (n + j) cap ∧ Own wr B 5 .u8 ao cap (L ++ (List.range j).map fun i => ((x / 64 ^ (k - i) % 64 : Nat) : Int)) ∧ Below B w wr ∧ Keep5 w wr)
      case atStart => exact ⟨0, ao, cap, by omega, rfl, rfl, by simpa using ho, Below.refl _ _, Keep5.refl _⟩
      case round =>
        clear ho
        obtain ⟨j, ao, cap, hj, rfl, rfl, ho, hb, hkp⟩ := hrel
        have hB1 : B ≤ wr.heap.size := by have := hb.size; omega
        have hlen : (L ++ (List.range j).map fun i => ((x / 64 ^ (k - i) % 64 : Nat) : Int)).length = n + j := by rw [List.length_append, HN.out]; simp
        have HLEN := Lib.hid hlen; clear hlen
        by_cases hjk : j < k
        · have hg0 : (0 : Int) < 6 * (gk : Int) := by omega
          have hsh := shr_eq x gk
          have hdl : x / 64 ^ gk ≤ x := Nat.div_le_self _ _
          have hgk : gk = k - j := by omega
          have HGK := Lib.hid hgk; clear hgk
          obtain ⟨q, hq⟩ : ∃ q, x / 64 ^ gk = q := ⟨_, rfl⟩
          rw [hq] at hsh hdl
          have hand := u64_and63 q (by omega)
          have hq64 : ((q % 64 : Nat) : Int) < 256 := by omega
          have HQ := Lib.hid hq; clear hq
          go_wp2_with (first
            | (at_builtin; go_loud (refine wpList_own_append1 rfl (.tmp 18) (.tmp 24) 22 rfl 5 .u8 1 und38 info5 (by decide) (ho.alloc _) rfl (by rw [HLEN.out]) wr.heap.size 1 ((q % 64 : Nat) : Int) rfl (by simp) (by rw [HLEN.out, HN.out]; omega) (by simp; omega) ?_; intro a3 c3 w3 ho3 hg3)))
          have hb3 : Below B w w3 := below_own (hb.alloc hB1 _) (ho.alloc _) hg3 (Nat.le_refl _) (by simp; omega)
          have hk3 : Keep5 w w3 := (hkp.alloc _).grown (ho.alloc _) hg3
          go_roundg (gk - 1)
          case measure => omega
          case rel =>
            refine ⟨j+1, a3, c3, by omega, by go_num, by go_num, ?_, hb3, hk3⟩
            rw [List.range_succ, List.map_append, ← List.append_assoc]
            simp only [List.map_cons, List.map_nil]
            rw [← HGK.out, HQ.out]
            exact ho3
        · obtain rfl : j = k := by omega
          have hg0 : ¬ ((0 : Int) < 6 * (gk : Int)) := by omega
          have hand := u64_and63 x (by omega)
          obtain ⟨r, hr⟩ : ∃ r, x % 64 = r := ⟨_, rfl⟩
          have hr64 : r < 64 := by omega
          rw [hr] at hand HG
          have hw8 : IntKind.u8.wrap (m + (r : Int)) = m + (r : Int) := by rw [IntKind.wrap_u8]; omega
          clear hr
          go_wp2_with (first
            | (at_builtin; go_loud (refine wpList_own_append1 rfl (.tmp 26) (.tmp 32) 22 rfl 5 .u8 1 und38 info5 (by decide) (ho.alloc _) rfl (by rw [HLEN.out]) wr.heap.size 1 (m + (r : Int)) rfl (by simp) (by rw [HLEN.out, HN.out]; omega) (by simp; omega) ?_; intro a3 c3 w3 ho3 hg3)))
          have hb3 : Below B w w3 := below_own (hb.alloc hB1 _) (ho.alloc _) hg3 (Nat.le_refl _) (by simp; omega)
          have hk3 : Keep5 w w3 := (hkp.alloc _).grown (ho.alloc _) hg3
          go_ret
          refine ⟨a3, c3, ?_, ?_, hb3, hk3⟩
          · rw [HGL.out]; rfl
          · rw [HG.out, ← List.append_assoc]; exact ho3
set_option maxRecDepth 100000 in
theorem count_keep {w : World} {p : Nat} {L : List Int} (h : Wrt w p L) (x : Nat) (hx : x < 9223372036854775808) (hl : L.length + 11 ≤ 140737488355328) :
    Calls Try.prog 17 #[.pointer (some ⟨p, 0, none⟩), .int .i64 x] w fun e w' => e = .returned (.int .i64 0) ∧ Wrt w' p (L ++ grp x 64) ∧ Below p w w' ∧ KeepW p w w' := by
  have H := Lib.hid h
  have hlt := h.lt
  obtain ⟨ao, cap, h1, ho⟩ := h
  have hc := cell_of_row w p 0 _ _ _ h1
  have H1 := Lib.hid h1; clear h1
  go_enter Try.func17, Try.ntmps17
  go_wp2_with (go_at_call 25; refine (groups_keep ho rfl x hx 64 (by decide) (by decide) hl (by omega)).mono ?_; rintro e w1 ⟨ao', cap', rfl, ho', hb', hk'⟩; obtain ⟨⟨v1, hc1⟩, hf1⟩ := Wrt.facts H1.out rfl hb')
  have R := H.out.put (n := L.length + (grp x 64).length) (by simp) ho' hb'
  go_ret
  exact ⟨rfl, R.1, R.2, hk'.store p _⟩

set_option maxRecDepth 100000 in
theorem raw_keep {w : World} {p : Nat} {L : List Int} (h : Wrt w p L) (s : ByteArray) (hl : L.length + s.size < 140737488355328) :
    Calls Try.prog 19 #[.pointer (some ⟨p, 0, none⟩), .string s] w fun e w' => e = .returned (.int .i64 0) ∧ Wrt w' p (L ++ s.data.toList.map fun b => (b.toNat : Int)) ∧ Below p w w' ∧ KeepW p w w' := by
  have H := Lib.hid h
  have hlt := h.lt
  obtain ⟨ao, cap, h1, ho⟩ := h
  have hc := cell_of_row w p 0 _ _ _ h1
  have H1 := Lib.hid h1; clear h1
  have und9 : Try.prog.underlying 9 = some .string := by kernel_rfl
  go_enter Try.func19, Try.ntmps19
  go_wp2_with (at_builtin; refine wpList_own_text rfl (.tmp 11) (.tmp 12) 22 9 rfl 5 und38 und9 info5 ho rfl rfl s rfl hl (by omega) ?_; intro ao' cap' w1 ho' hg; have hb' := below_own (Below.refl (p + 1) w) ho hg (Nat.le_refl _) (by omega); have hk' : Keep5 w w1 := (Keep5.refl _).grown ho hg; obtain ⟨⟨v1, hc1⟩, hf1⟩ := Wrt.facts H1.out rfl hb')
  have R := H.out.put (n := L.length + s.size) (by simp) ho' hb'
  go_ret
  exact ⟨rfl, R.1, R.2, hk'.store p _⟩

end Go.Proofs.Ytkfjkipffklblaa
