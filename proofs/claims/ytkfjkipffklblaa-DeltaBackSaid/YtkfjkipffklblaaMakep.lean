/-
  What delta.Make keeps in its rounds: the map of places, the pieces so far. Plain facts.
-/
import Derived.Test.YtkfjkipffklblaaIns
import Derived.Test.YtkfjkipffklblaaApply
import Derived.Maps.OwnSet
namespace Go.Proofs.Ytkfjkipffklblaa
open Go.RowKit Go.Maps
set_option linter.unusedVariables false

def seg (L : List Int) (i : Nat) : List Int := (L.drop i).take 8
def keyL (k : ByteArray) : Lit := .string k.data.toList
theorem keyL_inj {a b : ByteArray} (h : keyL a = keyL b) : a = b := by
  unfold keyL at h
  injection h with h
  exact ByteArray.ext (Array.ext' h)
theorem keyL_key (k : ByteArray) : WideAt.IsKeyLit (keyL k) := by unfold keyL; exact trivial
def MInv (D : DataW Unit) (L : List Int) (a : Nat) : Prop :=
  IsMap D ∧ (∀ k : ByteArray, Maps.has D (keyL k) = true → ∃ i : Nat, i + 8 ≤ L.length ∧ strOfNums (seg L i) = k ∧ D.atKey (keyL k) (.lit (.int .i64 0)) = .lit (.int .i64 i)) ∧
  (a + 8 ≤ L.length → Maps.has D (keyL (strOfNums (seg L a))) = true ∧ D.atKey (keyL (strOfNums (seg L a))) (.lit (.int .i64 0)) = .lit (.int .i64 a))
theorem MInv_nil (L : List Int) (a : Nat) (h : L.length < a + 8) : MInv (.map []) L a :=
  ⟨isMap_empty, fun k hk => by simp [Maps.has] at hk, fun h2 => absurd h2 (by omega)⟩
theorem MInv_put {D : DataW Unit} {L : List Int} {a : Nat} (h : MInv D L (a + 1)) (ha : a + 8 ≤ L.length) : MInv (D.put (keyL (strOfNums (seg L a))) (.lit (.int .i64 a))) L a := by
  obtain ⟨hm, h1, _⟩ := h
  have hs := has_put_same hm (keyL_key (strOfNums (seg L a))) (.lit (.int .i64 a))
  have hk := atKey_put_same hm (keyL_key (strOfNums (seg L a))) (.lit (.int .i64 a)) (.lit (.int .i64 0))
  refine ⟨hm.put _ _, fun k hk2 => ?_, fun _ => ⟨hs, hk⟩⟩
  by_cases e : k = strOfNums (seg L a)
  · subst e; exact ⟨a, ha, rfl, hk⟩
  · have hne : keyL k ≠ keyL (strOfNums (seg L a)) := fun h => e (keyL_inj h)
    rw [has_put_other hne] at hk2
    obtain ⟨i, h2, h3, h4⟩ := h1 k hk2
    exact ⟨i, h2, h3, by rw [atKey_put_other hne]; exact h4⟩
theorem ownsMap_keep {w w' : World} {b n : Nat} {D : DataW Unit} (h : w.ownsMap Try.prog 9 (plainElem Try.prog 3) b n D) (he : ∀ o, w.heap[b]? = some o → ¬ isRow5 o → w'.heap[b]? = some o) : w'.ownsMap Try.prog 9 (plainElem Try.prog 3) b n D := by
  obtain ⟨es, clock, hb, r⟩ := h
  exact ⟨es, clock, he _ hb (by rintro ⟨c, fr, e⟩; cases e), r⟩

def insQ (T : List Int) (bg en : Nat) : List Q := if bg < en then [⟨false, 0, strOfNums ((T.drop bg).take (en - bg)), 0⟩] else []
theorem cut_len (T : List Int) (bg en : Nat) (h : en ≤ T.length) (hb : bg ≤ en) : ((T.drop bg).take (en - bg)).length = en - bg := by rw [List.length_take, List.length_drop]; omega
theorem cut_u8 {T : List Int} (h : ∀ c ∈ T, 0 ≤ c ∧ c < 256) (k n : Nat) : ∀ c ∈ (T.drop k).take n, 0 ≤ c ∧ c < 256 := fun c hc => h c (List.mem_of_mem_drop (List.mem_of_mem_take hc))
theorem insQ_B {T : List Int} (hT : ∀ c ∈ T, 0 ≤ c ∧ c < 256) (bg en : Nat) (he : en ≤ T.length) : pB (insQ T bg en) = insB T bg en := by
  unfold insQ insB
  by_cases h : bg < en
  · rw [if_pos h, if_pos h]
    simp only [pB, List.flatMap_cons, List.flatMap_nil, List.append_nil]
    show grp (2 * (strOfNums ((T.drop bg).take (en - bg))).size) 64 ++ bl (strOfNums ((T.drop bg).take (en - bg))) = _
    rw [strOfNums_size', bl_strOf _ (cut_u8 hT bg (en - bg)), cut_len T bg en he (by omega)]
  · rw [if_neg h, if_neg h]; rfl
theorem insQ_V {T L : List Int} (hT : ∀ c ∈ T, 0 ≤ c ∧ c < 256) (bg en : Nat) : pV L (insQ T bg en) = (T.drop bg).take (en - bg) := by
  unfold insQ
  by_cases h : bg < en
  · rw [if_pos h]
    simp only [pV, List.flatMap_cons, List.flatMap_nil, List.append_nil]
    show bl (strOfNums ((T.drop bg).take (en - bg))) = _
    exact bl_strOf _ (cut_u8 hT bg (en - bg))
  · rw [if_neg h, show en - bg = 0 by omega]; simp [pV]
theorem insQ_ok {T L : List Int} (bg en : Nat) (he : en ≤ T.length) : ∀ q ∈ insQ T bg en, q.Ok L := by
  unfold insQ
  by_cases h : bg < en
  · rw [if_pos h]
    intro q hq
    obtain rfl := List.mem_singleton.1 hq
    show 0 < (strOfNums ((T.drop bg).take (en - bg))).size
    rw [strOfNums_size', cut_len T bg en he (by omega)]; omega
  · rw [if_neg h]; intro q hq; cases hq
theorem take_cut (T : List Int) (bg en : Nat) (h : bg ≤ en) : T.take bg ++ (T.drop bg).take (en - bg) = T.take en := by
  conv => rhs; rw [show en = bg + (en - bg) by omega, List.take_add]
theorem grp_len3 (x : Nat) (h : x < 262144) (m : Int) : (grp x m).length ≤ 3 := by
  rw [grp_length]
  by_cases h2 : 2 < tops x
  · have := (tops_iff x 2).2 h2
    have e : (64 : Nat) ^ 2 = 4096 := by decide
    rw [e] at this
    omega
  · omega
theorem grp_len2 (x : Nat) (h : x < 4096) (m : Int) : (grp x m).length ≤ 2 := by
  rw [grp_length]
  by_cases h2 : 1 < tops x
  · have := (tops_iff x 1).2 h2
    have e : (64 : Nat) ^ 1 = 64 := by decide
    rw [e] at this
    omega
  · omega
theorem insB_len (T : List Int) (bg en : Nat) (he : en ≤ T.length) (hT : T.length ≤ 4096) : (insB T bg en).length ≤ en - bg + 3 := by
  unfold insB
  split
  · rw [List.length_append, cut_len T bg en he (by omega)]
    have := grp_len3 (2 * (en - bg)) (by omega) 64
    omega
  · exact Nat.zero_le _

/-- What stands at the head of a round: bg bytes of the target are made by the pieces ps. -/
structure MSt (L T : List Int) (at_ bg : Nat) (ps : List Q) : Prop where
  a : bg ≤ at_
  t : at_ ≤ T.length
  v : pV L ps = T.take bg
  ok : ∀ q ∈ ps, q.Ok L
  len : (pB ps).length ≤ bg
  same : L = T → 8 ≤ T.length → (at_ = 0 ∧ bg = 0 ∧ ps = []) ∨ (at_ = T.length ∧ bg = T.length ∧ ps = [⟨true, 0, { data := #[] }, (T.length : Int)⟩])
theorem MSt_start (L T : List Int) : MSt L T 0 0 [] := ⟨Nat.le_refl _, Nat.zero_le _, rfl, (fun q hq => by cases hq), Nat.le_refl _, fun _ _ => Or.inl ⟨rfl, rfl, rfl⟩⟩
theorem MSt_next {L T : List Int} {at_ bg : Nat} {ps : List Q} (h : MSt L T at_ bg ps) (hl : at_ < T.length) (hne : L = T → 8 ≤ T.length → at_ ≠ 0) : MSt L T (at_ + 1) bg ps :=
  ⟨by have := h.a; omega, hl, h.v, h.ok, h.len, fun e h8 => by
    rcases h.same e h8 with ⟨h1, _⟩ | ⟨h1, _⟩
    · exact absurd h1 (hne e h8)
    · omega⟩
theorem MSt_copy {L T : List Int} {at_ bg : Nat} {ps : List Q} (h : MSt L T at_ bg ps) (hT : ∀ c ∈ T, 0 ≤ c ∧ c < 256) (hT4 : T.length ≤ 4096) (hL4 : L.length ≤ 4096) (i n : Nat) (hn : 8 ≤ n) (ha : at_ + n ≤ T.length) (hi : i + n ≤ L.length)
    (he : (T.drop at_).take n = (L.drop i).take n) (hs : L = T → 8 ≤ T.length → at_ = 0 → i = 0 ∧ n = T.length) (tx : ByteArray) (htx : tx = { data := #[] }) :
    MSt L T (at_ + n) (at_ + n) (ps ++ (insQ T bg at_ ++ [⟨true, (i : Int), tx, (n : Int)⟩])) := by
  subst htx
  have hq : Q.Ok L ⟨true, (i : Int), { data := #[] }, (n : Int)⟩ := by
    show 0 ≤ (i : Int) ∧ 0 < (n : Int) ∧ (i : Int) + (n : Int) ≤ (L.length : Int)
    omega
  have hqV : Q.V L ⟨true, (i : Int), { data := #[] }, (n : Int)⟩ = (L.drop i).take n := rfl
  have hqB : Q.B ⟨true, (i : Int), { data := #[] }, (n : Int)⟩ = grp (2 * n + 1) 64 ++ grp i 64 := rfl
  refine ⟨Nat.le_refl _, ha, ?_, ?_, ?_, fun e h8 => ?_⟩
  · rw [pV_app, pV_snoc, insQ_V hT, h.v, hqV, ← he, ← List.append_assoc, take_cut T bg at_ h.a]
    have := take_cut T at_ (at_ + n) (by omega)
    rw [show at_ + n - at_ = n by omega] at this
    exact this
  · intro q hq2
    rcases List.mem_append.1 hq2 with h1 | h1
    · exact h.ok q h1
    · rcases List.mem_append.1 h1 with h2 | h2
      · exact insQ_ok bg at_ h.t q h2
      · obtain rfl := List.mem_singleton.1 h2; exact hq
  · rw [pB_app, pB_app, insQ_B hT bg at_ h.t, List.length_append, List.length_append]
    have h1 := insB_len T bg at_ h.t hT4
    have h2 : (pB [(⟨true, (i : Int), { data := #[] }, (n : Int)⟩ : Q)]).length ≤ 5 := by
      simp only [pB, List.flatMap_cons, List.flatMap_nil, List.append_nil, hqB, List.length_append]
      have e1 := grp_len3 (2 * n + 1) (by omega) 64
      have e2 := grp_len2 i (by omega) 64
      omega
    have h3 := h.len
    have h4 := h.a
    omega
  · right
    rcases h.same e h8 with ⟨h1, h2, h3⟩ | ⟨h1, _, _⟩
    · obtain ⟨rfl, hn2⟩ := hs e h8 h1
      subst h1 h2 h3
      refine ⟨by omega, by omega, ?_⟩
      rw [show insQ T 0 0 = [] from if_neg (by omega), hn2]; rfl
    · omega
theorem MSt_end {L T : List Int} {bg : Nat} {ps : List Q} (h : MSt L T T.length bg ps) (hT : ∀ c ∈ T, 0 ≤ c ∧ c < 256) (hT4 : T.length ≤ 4096) :
    pV L (ps ++ insQ T bg T.length) = T ∧ (∀ q ∈ ps ++ insQ T bg T.length, q.Ok L) ∧ (pB (ps ++ insQ T bg T.length)).length ≤ T.length + 3 ∧ (L = T → 8 ≤ T.length → ps ++ insQ T bg T.length = [⟨true, 0, { data := #[] }, (T.length : Int)⟩]) := by
  refine ⟨?_, ?_, ?_, fun e h8 => ?_⟩
  · rw [pV_app, insQ_V hT, h.v, take_cut T bg T.length h.a, List.take_length]
  · intro q hq
    rcases List.mem_append.1 hq with h1 | h1
    · exact h.ok q h1
    · exact insQ_ok bg _ (Nat.le_refl _) q h1
  · rw [pB_app, insQ_B hT bg _ (Nat.le_refl _), List.length_append]
    have h1 := insB_len T bg T.length (Nat.le_refl _) hT4
    have h3 := h.len
    have h4 := h.a
    omega
  · rcases h.same e h8 with ⟨h1, _⟩ | ⟨_, h2, h3⟩
    · omega
    · rw [h3, show insQ T bg T.length = [] from if_neg (by omega)]; rfl
end Go.Proofs.Ytkfjkipffklblaa
