/-
  The walk of silolaw19.DeltaBack.
-/
import Derived.Test.YtkfjkipffklblaaDsame
import Derived.Test.YtkfjkipffklblaaRefa
import Derived.Laws.AppendOwnNone
namespace Go.Proofs.Ytkfjkipffklblaa
open Go.RowKit
set_option linter.unusedVariables false

theorem own_empty (w : World) (B : Nat) (h : B ≤ w.heap.size) : Own (w.alloc (.cells #[] 5)) B 5 .u8 (some ⟨w.heap.size, 0, none⟩) 0 [] :=
  ⟨rfl, Or.inr ⟨w.heap.size, 0, #[], rfl, h, heap_alloc_new _ _, Nat.le_refl _, Nat.zero_le _, rfl, rfl⟩⟩
theorem grown_refl (w : World) (row : Option Nat) : w.grownBy w row := ⟨rfl, rfl, rfl, Nat.le_refl _, fun _ _ _ => rfl⟩
/-- append(own, bytes...). -/
theorem wpList_own_bytes {ops : Array Oper} {rest : List Oper} {o : Oper} {a : Act} {w : World} {K : Exit → Act → World → Prop} (hgd : o.guard = none) (s x : Operand)
    (ho : o.op = .call { callee := .builtin .append, args := #[s, x], argTypes := #[22, 22] })
    {B : Nat} {ao : Option Addr} {n cap : Nat} {L : List Int} (hown : Own w B 5 .u8 ao cap L) (hs : a.eval s = .slice ao n cap) (hn : n = L.length) {ao2 : Option Addr} {b off len cap2 : Nat} {T : List Int} (hA : BytesArg w ao2 b off len cap2 T) (hnil : ao2 = none → cap2 = 0)
    (hx : a.eval x = .slice ao2 len cap2) (hl : L.length + len ≤ 1048576) (hB : B ≤ w.heap.size)
    (h : ∀ ao' cap' w', Own w' B 5 .u8 ao' cap' (L ++ T) → w.grownBy w' (ownB ao) → wpList Try.prog ops K rest (a.put o.dst (.slice ao' (n + len) cap')) w') : wpList Try.prog ops K (o :: rest) a w := by
  subst hn
  obtain ⟨i, h0, h1, h2, h3⟩ := info_parts info5
  cases ao2 with
  | none =>
    have hlen : len = 0 := by
      by_cases hz : 0 < len
      · exact absurd (hA.at_ hz).1 (by simp)
      · omega
    have hT : T = [] := List.eq_nil_of_length_eq_zero (by rw [← hA.size]; exact hlen)
    have hc := hnil rfl
    subst hlen hT hc
    refine wpList_append_own_none hgd s x 22 ho B 5 i 1 und38 h0 _ L.length _ hs hown hx ?_
    have := h ao cap w (by rw [List.append_nil]; exact hown) (grown_refl _ _)
    exact this
  | some ad =>
    refine wpList_append_own w hgd s x 22 ho B 5 i (.int .u8 0) 1 1 und38 h0 h1 h2 h3 rfl (by decide) _ L.length _ hs hown ad len cap2 (T.map (Value.int .u8)) hx (by rw [List.length_map, ← hA.size, Nat.mul_one]) (fun j u hj => ?_) (fun u hu => ?_) (by unfold maxLen; omega) (by omega) hB ?_
    · rw [List.getElem?_map] at hj
      have hjl : j < T.length := by
        rcases Nat.lt_or_ge j T.length with h | h
        · exact h
        · rw [List.getElem?_eq_none h] at hj; cases hj
      have hjl2 : j < len := by rw [hA.size]; exact hjl
      obtain ⟨e, _⟩ := hA.at_ (by omega)
      cases e
      rw [Addr.add_lit, hA.cell j hjl2, ← hj, List.getD_eq_getElem?_getD, List.getElem?_eq_getElem hjl]; rfl
    · obtain ⟨c, _, rfl⟩ := List.mem_map.1 hu; rfl
    · intro v' w' hown' hg _
      rcases Joins.ownsRow_forms hown' with ⟨rfl, hz⟩ | ⟨g, c, rfl⟩
      · have hL : L ++ T = [] := List.eq_nil_of_length_eq_zero (by rw [List.length_append, ← hA.size]; exact hz)
        have := h none 0 w' (by rw [hL]; exact Own.nil _ _ _ _) (by rw [← own_ownB]; exact hg)
        rw [hz] at this
        exact this
      · refine h _ _ w' ?_ (by rw [← own_ownB]; exact hg)
        unfold Own
        rw [List.length_append, List.map_append, ← hA.size]
        exact hown'
theorem own_arg {w : World} {B : Nat} {ao : Option Addr} {cap : Nat} {L : List Int} (h : Own w B 5 .u8 ao cap L) (hb : ∀ c ∈ L, 0 ≤ c ∧ c < 256) : ∃ b, BytesArg w ao b 0 L.length cap L ∧ (0 < L.length → B ≤ b) := by
  by_cases hz : 0 < L.length
  · obtain ⟨g, rfl, hB, hlt⟩ := h.headAt hz
    have hr : L.length ≤ cap := by
      rcases h.2 with ⟨_, h0⟩ | ⟨g', c, cur, hv, _, _, hr, _⟩
      · omega
      · simp only [Value.slice.injEq] at hv
        rw [hv.2.2]; exact hr
    exact ⟨g, ⟨rfl, hr, fun _ => ⟨rfl, hlt⟩, fun i hi => by rw [Nat.zero_add]; exact h.cell i hi, hb⟩, fun _ => hB⟩
  · exact ⟨0, ⟨rfl, by omega, fun h => absurd h hz, fun i hi => absurd hi (by omega), hb⟩, fun h => absurd h hz⟩
theorem make_long (w : World) (aB : Option Addr) (lB cB : Nat) (aT : Option Addr) (lT cT : Nat) (h : 4096 < lB ∨ 4096 < lT) :
    Calls Try.prog 9 #[.slice aB lB cB, .slice aT lT cT] w fun e w' => e = .returned (.tuple #[.string { data := #[] }, .int .i64 6]) ∧ Below w.heap.size w w' := by
  have h2 : (4096 : Int) < (lB : Int) ∨ ¬ ((4096 : Int) < (lB : Int)) ∧ (4096 : Int) < (lT : Int) := by omega
  rcases h2 with h1 | ⟨h1, h3⟩
  all_goals
    go_enter Try.func9, Try.ntmps9
    go_wp2_with fail
    go_ret2
    exact ⟨rfl, (Below.refl _ _).alloc (Nat.le_refl _) _⟩
theorem pB_u8' (l : List Q) : ∀ c ∈ pB l, 0 ≤ c ∧ c < 256 := by
  intro c hc
  obtain ⟨q, _, hq⟩ := List.mem_flatMap.1 hc
  unfold Q.B at hq
  split at hq
  · rcases List.mem_append.1 hq with h | h <;> exact grp_u8 _ _ (Or.inl rfl) c h
  · rcases List.mem_append.1 hq with h | h
    · exact grp_u8 _ _ (Or.inl rfl) c h
    · exact bl_u8 _ c h

set_option maxRecDepth 100000 in
set_option maxHeartbeats 4000000 in
theorem dback_any (w : World) (aB : Option Addr) (bB oB lB cB : Nat) (L : List Int) (hB : BytesArg w aB bB oB lB cB L) (hnB : aB = none → cB = 0) (aT : Option Addr) (bT oT lT cT : Nat) (T : List Int) (hT : BytesArg w aT bT oT lT cT T) (hnT : aT = none → cT = 0) (hl9 : lB ≤ 9000) (ht9 : lT ≤ 9000) :
    Calls Try.prog 4 #[.slice aB lB cB, .slice aT lT cT] w fun e w' => e = .returned (.bool true) ∧ Below w.heap.size w w' := by
  have hLl := hB.size
  have hTl := hT.size
  have hBat : 0 < lB → bB < w.heap.size := fun h => (hB.at_ h).2
  have hTat : 0 < lT → bT < w.heap.size := fun h => (hT.at_ h).2
  have HBA := Lib.hid hB; have HTA := Lib.hid hT
  have HBat := Lib.hid hBat; have HTat := Lib.hid hTat
  have HNB := Lib.hid hnB; have HNT := Lib.hid hnT
  have HLl := Lib.hid hLl; have HTl := Lib.hid hTl
  clear hB hT hBat hTat hLl hTl hnB hnT
  go_enter Try.func4, Try.ntmps4
  go_wp2_with fail
  refine (awake_any w).mono ?_
  rintro e w1 ⟨rfl, hb1⟩
  have hb1a : Below w.heap.size w (w1.alloc (.cells #[] 5)) := hb1.alloc hb1.size _
  have hAB1 := HBA.out.below hb1a HBat.out
  have HAB1 := Lib.hid hAB1
  clear hAB1
  go_wp2_with (first
    | (at_builtin; (refine wpList_own_bytes rfl (.tmp 25) (.tmp 26) rfl (own_empty w1 w1.heap.size (Nat.le_refl _)) rfl rfl HAB1.out HNB.out rfl (by simp; omega) (by simp) ?_; intro a2 c2 w2 ho2 hg2; rw [List.nil_append] at ho2; have hb2 : Below w1.heap.size w1 w2 := below_own ((Below.refl _ _).alloc (Nat.le_refl _) _) (own_empty w1 w1.heap.size (Nat.le_refl _)) hg2 (Nat.le_refl _) (by simp)))
    | (at_builtin; (refine wpList_own_bytes rfl (.tmp 28) (.tmp 29) rfl (own_empty w2 w2.heap.size (Nat.le_refl _)) rfl rfl (HTA.out.below ((hb1.trans (hb2.mono hb1.size)).alloc (Nat.le_trans hb1.size hb2.size) (.cells #[] 5)) HTat.out) HNT.out rfl (by simp; omega) (by simp) ?_; intro a3 c3 w3 ho3 hg3; rw [List.nil_append] at ho3)))
  have hb3 : Below w2.heap.size w2 w3 := below_own ((Below.refl _ _).alloc (Nat.le_refl _) _) (own_empty w2 w2.heap.size (Nat.le_refl _)) hg3 (Nat.le_refl _) (by simp)
  have ho2' := ho2.below hb3
  have hw3 := (hb1.trans (hb2.mono hb1.size)).trans (hb3.mono (Nat.le_trans hb1.size hb2.size))
  obtain ⟨d2, hA2, _⟩ := own_arg ho2' HBA.out.byte
  obtain ⟨d3, hA3, _⟩ := own_arg ho3 HTA.out.byte
  rw [← HLl.out] at hA2
  rw [← HTl.out] at hA3
  by_cases hlong : 4096 < lB ∨ 4096 < lT
  · have C := make_long w3 a2 lB c2 a3 lT c3 hlong
    have hcase : (4096 : Int) < (lB : Int) ∨ ¬ ((4096 : Int) < (lB : Int)) ∧ (4096 : Int) < (lT : Int) := by omega
    have HC := Lib.hid C
    have e1 : ({ data := #[] } : ByteArray).toList = [] := by rw [ByteArray.toList_eq]
    clear C hlong hA2 hA3 ho2 ho2' ho3 hg2 hg3
    rcases hcase with h1 | ⟨h1, h2⟩
    all_goals
      refine HC.out.mono ?_
      rintro e w4 ⟨rfl, hb4⟩
      have hw4 := hw3.trans (hb4.mono hw3.size)
      go_wp2_with fail
      go_ret
      exact ⟨rfl, hw4⟩
  · have C := make_any w3 a2 d2 0 lB c2 L hA2 a3 d3 0 lT c3 T hA3 (by omega) (by omega)
    have HC := Lib.hid C
    have hT4 : T.length ≤ 4096 := by rw [← HTl.out]; omega
    have h1 : ¬ ((4096 : Int) < (lB : Int)) := by omega
    have h2 : ¬ ((4096 : Int) < (lT : Int)) := by omega
    clear C hA2 hA3 ho2 ho2' ho3 hg2 hg3
    refine HC.out.mono ?_
    rintro e w4 ⟨ps, rfl, hb4, hpv, hok, hpl, _⟩
    have hw4 := hw3.trans (hb4.mono hw3.size)
    have hgl := grp_len3 T.length (by omega) 64
    have hu8 : ∀ c ∈ grp T.length 64 ++ pB ps, 0 ≤ c ∧ c < 256 := fun c hc => (List.mem_append.1 hc).elim (grp_u8 _ _ (Or.inl rfl) c) (pB_u8' ps c)
    have hbl := bl_strOf _ hu8
    have hsz := strOfNums_size' (grp T.length 64 ++ pB ps)
    rw [List.length_append] at hsz
    have hsl : (strOfNums (grp T.length 64 ++ pB ps)).size ≤ lT + 8 := by rw [hsz, HTl.out]; omega
    have C2 := apply_any (w := w4) L aB bB oB lB cB (HBA.out.below hw4 HBat.out) (by omega) (strOfNums (grp T.length 64 ++ pB ps)) T.length ps [] (by rw [hbl, List.append_nil]) hok hT4
    have C3 := C2 (Or.inl (by rw [hpv])) (by omega)
    rw [hpv] at C3
    have hblL : bl (strOfNums L) = L := bl_strOf L HBA.out.byte
    have C4 := fun (X : World) => refapply_any X (strOfNums L) (strOfNums (grp T.length 64 ++ pB ps)) ps (by rw [hblL, hpv, hbl]) (by rw [hblL]; exact hok) (by rw [hblL, hpv]; exact hT4) (by omega) (by rw [strOfNums_size', ← HLl.out]; omega)
    rw [hblL, hpv] at C4
    obtain ⟨S, hS⟩ : ∃ S, strOfNums (grp T.length 64 ++ pB ps) = S := ⟨_, rfl⟩
    rw [hS] at C3 C4 hsl ⊢
    have HC3 := Lib.hid C3
    have HC4 := Lib.hid C4
    have hsl8 : (S.size : Int) ≤ (lT : Int) + 8 := by omega
    clear C2 C3 C4 hbl hblL hu8 hpv hok hpl hsz hS HC hgl
    go_wp2_with fail
    refine HC3.out.mono ?_
    rintro e w5 ⟨a5, m5, c5, ez5, rfl, hap5, hb5⟩
    obtain ⟨rfl, rfl, ho5⟩ := hap5.1 rfl rfl
    have hw5 := hw4.trans (hb5.mono hw4.size)
    have hcvB := conv_arg (HBA.out.below hw5 HBat.out)
    have hcvT := conv_arg (HTA.out.below hw5 HTat.out)
    have hcv5 := conv_own ho5 T.length rfl
    clear hap5 ho5 hb5
    go_wp2_with (go_at_call 10; refine (HC4.out _).mono ?_; rintro e w6 ⟨rfl, rfl⟩)
    go_ret
    exact ⟨rfl, hw5⟩
theorem dback_out (w : World) (aB : Option Addr) (lB cB : Nat) (aT : Option Addr) (lT cT : Nat) (h : 9000 < lB ∨ 9000 < lT) :
    Calls Try.prog 4 #[.slice aB lB cB, .slice aT lT cT] w fun e w' => e = .returned (.bool true) ∧ Below w.heap.size w w' := by
  have h2 : (9000 : Int) < (lB : Int) ∨ ¬ ((9000 : Int) < (lB : Int)) ∧ (9000 : Int) < (lT : Int) := by omega
  rcases h2 with h1 | ⟨h1, h3⟩
  all_goals
    go_enter Try.func4, Try.ntmps4
    go_wp2_with fail
    refine (awake_any w).mono ?_
    rintro e w1 ⟨rfl, hb1⟩
    go_wp2_with fail
    refine (awake_any w1).mono ?_
    rintro e w2 ⟨rfl, hb2⟩
    go_wp2_with fail
    go_ret
    exact ⟨rfl, hb1.trans (hb2.mono hb1.size)⟩
end Go.Proofs.Ytkfjkipffklblaa
