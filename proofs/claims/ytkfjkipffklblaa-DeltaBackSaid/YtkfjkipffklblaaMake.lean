/-
  The walk of delta.Make.
-/
import Derived.Test.YtkfjkipffklblaaMakep
import Derived.Test.YtkfjkipffklblaaClass
import Derived.WalkLawsBesides
import Derived.BigQuiet
namespace Go.Proofs.Ytkfjkipffklblaa
open Go.RowKit Go.Maps
set_option linter.unusedVariables false

theorem take_snoc' (L : List Int) (a m : Nat) (h : a + m < L.length) : (L.drop a).take (m + 1) = (L.drop a).take m ++ [L.getD (a + m) 0] := by
  rw [List.take_succ_eq_append_getElem (by rw [List.length_drop]; omega), List.getElem_drop, List.getD_eq_getElem?_getD, List.getElem?_eq_getElem h]; rfl
theorem klaw : Keyed Try.prog 9 := string_keyed (by kernel_rfl)
theorem und46 : Try.prog.underlying 46 = some (.map 9 3) := by kernel_rfl
theorem zero3 (w : World) : (zeroValue 3).run Try.prog w = .ok (.int .i64 0) w := by kernel_rfl
theorem hkeyOf (s : ByteArray) (h : s.size ≤ maxLen) : keyOf Try.prog 9 (.string s) = some (keyL s) := WideMaps.keyOf_string_mk (by kernel_rfl) h

/-- The world at the head of a round of the second loop. -/
structure MW (w : World) (aT : Option Addr) (lT cT p B4 n : Nat) (D : DataW Unit) (A : List Int) (bg : Nat) (X : World) : Prop where
  bx : X.heap[w.heap.size]? = some (.cells #[.slice aT lT cT] 22 (0, 0))
  bw : X.heap[p + 1]? = some (.cells #[.pointer (some ⟨p, 0, none⟩)] 47 (0, 0))
  bb : X.heap[B4]? = some (.cells #[.int .i64 bg] 3 (0, 0))
  om : X.ownsMap Try.prog 9 (plainElem Try.prog 3) (w.heap.size + 1) n D
  wr : Wrt X p A
  be : Below w.heap.size w X
theorem Wrt.other {X : World} {p k : Nat} {A : List Int} {o : Obj} (h : Wrt X p A) (hk : k ≠ p) (ho : X.heap[k]? = some o) (hn : ¬ isRow5 o) (v : Value) : Wrt (X.setCell ⟨k, 0, none⟩ v) p A := by
  obtain ⟨ao, cap, h1, h2⟩ := h
  refine ⟨ao, cap, by rw [heap_setCell_other _ _ _ _ (Ne.symm hk)]; exact h1, ?_⟩
  refine World.ownsRow.kept (row := some k) h2 ⟨rfl, rfl, rfl, by simp, fun j hj hne => heap_setCell_other _ _ _ _ (fun e => hne (by rw [e]))⟩ ?_
  rcases h2.2 with ⟨hv, _⟩ | ⟨g, c, cur, hv, _, hh, _⟩
  · rw [hv]; exact Or.inl rfl
  · right
    rw [hv]
    intro e
    simp only [Value.ownBlock, Option.some.injEq] at e
    subst e
    rw [ho] at hh
    exact hn ⟨cur, (0, 0), Option.some.inj hh⟩
theorem MW.drewN {w X : World} {aT : Option Addr} {lT cT p B4 n : Nat} {D : DataW Unit} {A : List Int} {bg : Nat} (h : MW w aT lT cT p B4 n D A bg X) (k : Nat) : MW w aT lT cT p B4 n D A bg (X.drewN k) :=
  ⟨h.bx, h.bw, h.bb, h.om, h.wr, below_drewN h.be k⟩
theorem MW.keep {w X X' : World} {aT : Option Addr} {lT cT p B4 n : Nat} {D : DataW Unit} {A A' : List Int} {bg : Nat} (h : MW w aT lT cT p B4 n D A bg X) (h1 : w.heap.size + 1 < p) (h2 : p + 1 < B4) (hw : Wrt X' p A') (hb : Below p X X') (hk : KeepW p X X') : MW w aT lT cT p B4 n D A' bg X' :=
  ⟨hk _ _ (by omega) h.bx (notRow (by decide)), hk _ _ (by omega) h.bw (notRow (by decide)), hk _ _ (by omega) h.bb (notRow (by decide)), ownsMap_keep h.om (fun o ho hn => hk _ _ (by omega) ho hn), hw, h.be.trans (hb.mono (by omega))⟩
theorem MW.put {w X : World} {aT : Option Addr} {lT cT p B4 n : Nat} {D : DataW Unit} {A : List Int} {bg : Nat} (h : MW w aT lT cT p B4 n D A bg X) (h1 : w.heap.size + 1 < p) (h2 : p + 1 < B4) (m : Nat) : MW w aT lT cT p B4 n D A m (X.setCell ⟨B4, 0, none⟩ (.int .i64 m)) :=
  ⟨by rw [heap_setCell_other _ _ _ _ (show w.heap.size ≠ B4 by omega)]; exact h.bx, by rw [heap_setCell_other _ _ _ _ (show p + 1 ≠ B4 by omega)]; exact h.bw, by rw [heap_setCell_same X B4 0 _ 3 _ h.bb]; rfl,
    ownsMap_keep h.om (fun o ho hn => by rw [heap_setCell_other _ _ _ _ (show w.heap.size + 1 ≠ B4 by omega)]; exact ho), h.wr.other (by omega) h.bb (notRow (by decide)) _, h.be.setCell (show w.heap.size ≤ B4 by omega) _⟩

set_option maxRecDepth 100000 in
set_option maxHeartbeats 16000000 in
theorem make_any (w : World) (aB : Option Addr) (bB oB lB cB : Nat) (L : List Int) (hB : BytesArg w aB bB oB lB cB L) (aT : Option Addr) (bT oT lT cT : Nat) (T : List Int) (hT : BytesArg w aT bT oT lT cT T) (hl4 : lB ≤ 4096) (ht4 : lT ≤ 4096) :
    Calls Try.prog 9 #[.slice aB lB cB, .slice aT lT cT] w fun e w' => ∃ ps, e = .returned (.tuple #[.string (strOfNums (grp T.length 64 ++ pB ps)), .int .i64 0]) ∧ Below w.heap.size w w' ∧ pV L ps = T ∧ (∀ q ∈ ps, q.Ok L) ∧ (pB ps).length ≤ T.length + 3 ∧
      (L = T → 8 ≤ T.length → ps = [⟨true, 0, { data := #[] }, (T.length : Int)⟩]) := by
  have hLl := hB.size
  have hTl := hT.size
  have hBat : 0 < lB → bB < w.heap.size := fun h => (hB.at_ h).2
  have hTat : 0 < lT → bT < w.heap.size := fun h => (hT.at_ h).2
  have hL4 : L.length ≤ 4096 := by omega
  have hT4 : T.length ≤ 4096 := by omega
  have HBA := Lib.hid hB; have HTA := Lib.hid hT
  have HBat := Lib.hid hBat; have HTat := Lib.hid hTat
  have HLl := Lib.hid hLl; have HTl := Lib.hid hTl
  have hrB := hB.room
  have hrT := hT.room
  clear hB hT hBat hTat hLl hTl
  have hmm := @run_makeMap Try.prog
  have hbox := heap_alloc_new w (.cells #[.slice aT lT cT] 22)
  go_enter Try.func9, Try.ntmps9
  go_wp2_with fail
  go_loopg [7] (lB - 7) (fun g v wr => ∃ (at_ : Int) (n : Nat) (D : DataW Unit), v = .int .i64 at_ ∧ (0 ≤ at_ ∧ at_ + 1 = (g : Int) ∧ at_ + 8 ≤ (lB : Int) ∨ at_ < 0 ∧ g = 0) ∧ wr.heap[w.heap.size]? = some (.cells #[.slice aT lT cT] 22 (0, 0)) ∧
    wr.ownsMap Try.prog 9 (plainElem Try.prog 3) (w.heap.size + 1) n D ∧ n + g ≤ 8192 ∧ MInv D L g ∧ Below w.heap.size w wr)
  case atStart =>
    have hml := World.ownsMap_made (H := Unit) (w.alloc (.cells #[.slice aT lT cT] 22)) Try.prog 9 (plainElem Try.prog 3)
    rw [show (w.alloc (.cells #[.slice aT lT cT] 22)).heap.size = w.heap.size + 1 by simp] at hml
    refine ⟨(lB : Int) - 8, 0, .map [], rfl, by omega, ?_, hml, by omega, MInv_nil _ _ (by have := HLl.out; omega), ((Below.refl _ _).alloc (Nat.le_refl _) _).alloc (by simp) _⟩
    rw [← hbox]
    show ((w.alloc _).heap.push _)[w.heap.size]? = _
    rw [Array.getElem?_push, if_neg (by simp)]
  case round =>
    clear hbox
    obtain ⟨at_, n, D, rfl, hat, hbx, hom, hn, hmi, hb⟩ := hrel
    have HBX := Lib.hid hbx
    have HMI := Lib.hid hmi
    clear hbx hmi
    by_cases hge : 0 ≤ at_
    · obtain ⟨a, rfl⟩ := Int.eq_ofNat_of_zero_le hge
      obtain ⟨hg1, hg8⟩ : a + 1 = gk ∧ a + 8 ≤ lB := by rcases hat with ⟨_, h1, h2⟩ | ⟨h1, _⟩ <;> omega
      clear hat
      obtain ⟨rfl, hbw⟩ := HBA.out.at_ (by omega)
      have hA2 := HBA.out.below hb HBat.out
      have hcv := bytes_cut hA2 a 8 hg8 (cB - a)
      have hz1 : (a : Int) ≤ (a : Int) + 8 := by omega
      have hz2 : (a : Int) + 8 ≤ (cB : Int) := by omega
      have hz3 : ¬ (cB = a) := by omega
      have hz4 : ((a : Int) + 8).toNat - a = 8 := by omega
      have hlen := hkeyOf (strOfNums (seg L a)) (by rw [strOfNums_size']; unfold seg maxLen; rw [List.length_take]; omega)
      have hcv' : (convert 22 9 (.slice (some ⟨bB, oB + a, none⟩) 8 (cB - a))).run Try.prog wr = .ok (.string (strOfNums (seg L a))) wr := hcv
      obtain ⟨S, hS⟩ : ∃ S, strOfNums (seg L a) = S := ⟨_, rfl⟩
      rw [hS] at hcv' hlen
      have HS := Lib.hid hS
      have HK := Lib.hid hlen
      have HOM := Lib.hid hom
      clear hcv hA2 hlen hS hom
      go_wp2_with (first
        | (at_mapUpdate; refine wpList_mapUpdate_own _ rfl _ _ _ 46 rfl 9 3 klaw und46 _ (w.heap.size + 1) n _ rfl HOM.out (by unfold maxLen; omega) _ _ _ rfl rfl HK.out _ [] (plainElem_int (by kernel_rfl) (WalkArith.wf_i64 (by omega))) ?_; intro w1 hown1 hgrow1))
      have hb1 : Below w.heap.size w w1 := hb.grown hgrow1 hb.size (fun j hj => by cases hj; omega)
      have hbx1 : w1.heap[w.heap.size]? = some (.cells #[.slice aT lT cT] 22 (0, 0)) := (hgrow1.block _ (keep_lt HBX.out) (by intro e; simp at e)).trans HBX.out
      have hmi1 := MInv_put (hg1.symm ▸ HMI.out) (by have := HLl.out; omega)
      rw [HS.out] at hmi1
      go_roundg a
      case measure => omega
      case rel => exact ⟨(a : Int) - 1, n + 1, _, by go_num, by omega, hbx1, hown1, by omega, hmi1, hb1⟩
    · have hg0 : gk = 0 := by rcases hat with ⟨h, _⟩ | ⟨_, h⟩; exact absurd h hge; exact h
      have hneg : ¬ (0 ≤ at_) := hge
      obtain ⟨w1, rfl⟩ : ∃ w1 : World, w1 = wr := ⟨_, rfl⟩
      have HG0 := Lib.hid hg0
      have HOM := Lib.hid hom
      clear hat hg0 hge hom
      go_wp2_with fail
      refine (new_any _).mono ?_
      rintro e w2 ⟨rfl, hw2, hb2, hs2⟩
      have hb3 : Below w1.heap.size w1 (w2.alloc (.cells #[.pointer (some ⟨w1.heap.size, 0, none⟩)] 47)) := hb2.alloc hb2.size _
      have hbx3 := (hb3.block _ (keep_lt HBX.out)).trans HBX.out
      have hom3 := ownsMap_keep HOM.out (w' := w2.alloc (.cells #[.pointer (some ⟨w1.heap.size, 0, none⟩)] 47)) (fun o ho _ => (hb3.block _ (keep_lt ho)).trans ho)
      have hbw3 := heap_alloc_new w2 (.cells #[.pointer (some ⟨w1.heap.size, 0, none⟩)] 47)
      rw [hs2] at hbw3
      have hw3 : Wrt (w2.alloc (.cells #[.pointer (some ⟨w1.heap.size, 0, none⟩)] 47)) w1.heap.size [] := hw2.below ((Below.refl _ _).alloc (Nat.le_refl _) _)
      have hb3' := hb.trans (hb3.mono hb.size)
      have c3 := cell_of_row _ w.heap.size 0 _ _ _ hbx3
      have c4 := cell_of_row _ (w1.heap.size + 1) 0 _ _ _ hbw3
      have hp2 : w.heap.size + 1 < w1.heap.size := by
        obtain ⟨es, cl, h, _⟩ := HOM.out
        exact keep_lt h
      have hs3 : w1.heap.size + 2 ≤ (w2.alloc (.cells #[.pointer (some ⟨w1.heap.size, 0, none⟩)] 47)).heap.size := by simp; omega
      have C := count_keep hw3 lT (by omega) (by simp)
      have HC := Lib.hid C
      have HBX3 := Lib.hid hbx3; have HBW3 := Lib.hid hbw3; have HOM3 := Lib.hid hom3
      clear hbx3 hbw3 hom3 hw3 C hb3 hb2 hw2
      go_wp2_with (go_at_call 17; refine HC.out.mono ?_; rintro e w4 ⟨rfl, hw4, hb4, hk4⟩)
      rw [List.nil_append] at hw4
      have hp4 : w1.heap.size + 1 < w4.heap.size := by have := hb4.size; omega
      have hM : MW w aT lT cT w1.heap.size w4.heap.size n D (grp lT 64 ++ pB []) 0 (w4.alloc (.cells #[.int .i64 0] 3)) := by
        have hba : Below w4.heap.size w4 (w4.alloc (.cells #[.int .i64 0] 3)) := (Below.refl _ _).alloc (Nat.le_refl _) _
        have k1 := hk4 _ _ (by omega) HBX3.out (notRow (by decide))
        have k2 := hk4 _ _ (by omega) HBW3.out (notRow (by decide))
        have k3 := ownsMap_keep HOM3.out (w' := w4) (fun o ho hn => hk4 _ _ (by omega) ho hn)
        refine ⟨(hba.block _ (keep_lt k1)).trans k1, (hba.block _ (keep_lt k2)).trans k2, heap_alloc_new _ _, ownsMap_keep k3 (fun o ho hn => (hba.block _ (keep_lt ho)).trans ho), ?_, (hb3'.trans (hb4.mono (by omega))).trans (hba.mono (by omega))⟩
        rw [show grp lT 64 ++ pB [] = grp lT 64 from by simp [pB]]
        exact hw4.below hba
      have hMI0 := HMI.out
      rw [HG0.out] at hMI0
      have HMI0 := Lib.hid hMI0
      obtain ⟨p, hp⟩ : ∃ p, w1.heap.size = p := ⟨_, rfl⟩
      obtain ⟨B4, hB4⟩ : ∃ B, w4.heap.size = B := ⟨_, rfl⟩
      rw [hp, hB4] at hM hp4
      rw [hp] at hp2
      clear hMI0 hw4 hb4 hk4 c3 c4 HBX3 HBW3 HOM3 hb3' hs3
      rw [hp, hB4]
      clear hp hB4 hs2
      go_loopg [11] T.length (fun g v X => ∃ (at_ bg : Nat) (ps : List Q), v = .int .i64 at_ ∧ at_ + g = T.length ∧ MSt L T at_ bg ps ∧ MW w aT lT cT p B4 n D (grp lT 64 ++ pB ps) bg X)
      case atStart => exact ⟨0, 0, [], rfl, by omega, MSt_start L T, hM⟩
      case round =>
        clear hM
        obtain ⟨at_, bg, ps, rfl, hag, hst, hM⟩ := hrel
        have cX3 := cell_of_row wr w.heap.size 0 _ _ _ hM.bx
        have cX8 := cell_of_row wr (p + 1) 0 _ _ _ hM.bw
        have cX9 := cell_of_row wr B4 0 _ _ _ hM.bb
        have fX9 := frozen_of_row wr B4 0 _ _ hM.bb
        have hbe := hM.be
        have HM := Lib.hid hM
        have HST := Lib.hid hst
        have HOMX := Lib.hid hM.om
        have hTl2 : T.length ≤ lT := Nat.le_of_eq HTl.out.symm
        have hTl3 : lT ≤ T.length := Nat.le_of_eq HTl.out
        by_cases hlt : at_ < T.length
        · obtain ⟨rfl, hbwT⟩ := HTA.out.at_ (by have := HTl.out; omega)
          have hAT := HTA.out.below hbe HTat.out
          have hlti : (at_ : Int) < (lT : Int) := by omega
          have hb8 := hst.a
          by_cases h8 : at_ + 8 ≤ T.length
          · have hmin : min ((at_ : Int) + 8) (lT : Int) = (at_ : Int) + 8 := by omega
            have hcv := bytes_cut hAT at_ 8 (by omega) (cT - at_)
            have hcv' : (convert 22 9 (.slice (some ⟨bT, oT + at_, none⟩) 8 (cT - at_))).run Try.prog wr = .ok (.string (strOfNums (seg T at_))) wr := hcv
            have hz1 : (at_ : Int) ≤ (at_ : Int) + 8 := by omega
            have hz2 : (at_ : Int) + 8 ≤ (cT : Int) := by omega
            have hz3 : ¬ (cT = at_) := by omega
            have hz4 : ((at_ : Int) + 8).toNat - at_ = 8 := by omega
            have hlen := hkeyOf (strOfNums (seg T at_)) (by rw [strOfNums_size']; unfold seg maxLen; rw [List.length_take]; omega)
            cases hhas : Maps.has D (keyL (strOfNums (seg T at_))) with
            | false =>
              have hne : L = T → 8 ≤ T.length → at_ ≠ 0 := fun e h8' h0 => by
                subst h0
                have := (HMI0.out.2.2 (by rw [e]; omega)).1
                rw [e, hhas] at this
                exact absurd this (by decide)
              have hst2 := Lib.hid (MSt_next hst hlt hne)
              have HK := Lib.hid hlen
              clear hcv hAT hlen hst hM hne
              go_wp2_with (first
                | (at_lookup; refine wpList_lookup_own_ok_int _ rfl _ _ 46 rfl 9 3 .i64 klaw und46 (by kernel_rfl) (zero3 _) (w.heap.size + 1) n D rfl HOMX.out _ _ rfl HK.out ?_; intro c hatc hwc))
              go_roundg (T.length - (at_+1))
              case measure => omega
              case rel => exact ⟨at_+1, bg, ps, by go_num, by omega, hst2.out, HM.out⟩
            | true =>
              obtain ⟨i, hi8, hseg, hik⟩ := HMI0.out.2.1 _ hhas
              have hsegE : seg T at_ = seg L i := by
                have h1 := bl_strOf (seg L i) (cut_u8 HBA.out.byte i 8)
                have h2 := bl_strOf (seg T at_) (cut_u8 HTA.out.byte at_ 8)
                rw [← h1, ← h2, hseg]
              have hs0 : L = T → 8 ≤ T.length → at_ = 0 → i = 0 := fun e h8' h0 => by
                subst h0
                have h3 := (HMI0.out.2.2 (by rw [e]; omega)).2
                rw [e] at h3
                have h4 := h3.symm.trans hik
                simp at h4
                omega
              have HSG := Lib.hid hsegE
              have HIK := Lib.hid hik
              have HS0 := Lib.hid hs0
              have HK := Lib.hid hlen
              have hLl2 := HLl.out
              obtain ⟨rfl, hbwB⟩ := HBA.out.at_ (by omega)
              have hlB : (lB : Int) = (L.length : Int) := by rw [hLl2]
              have HLB := Lib.hid hlB
              have hi8' : i + 8 ≤ lB := by omega
              have HBE := Lib.hid hbe
              clear hcv hAT hlen hst hM hseg hsegE hik hs0 hlB hLl2 hi8
              go_wp2_with (first
                | (at_lookup; refine wpList_lookup_own_ok_int _ rfl _ _ 46 rfl 9 3 .i64 klaw und46 (by kernel_rfl) (zero3 _) (w.heap.size + 1) n D rfl HOMX.out _ _ rfl HK.out ?_; intro c hatc hwc; obtain rfl : c = (i : Int) := (by have := hatc.symm.trans HIK.out; simpa using this)))
              have hgt : ¬ ((lT : Int) < (at_ : Int) + 8) := by omega
              have hLl3 : L.length ≤ lB := Nat.le_of_eq HLl.out.symm
              have hLl4 : lB ≤ L.length := Nat.le_of_eq HLl.out
              clear cX3 cX8 cX9 fX9 hbe hz1 hz2 hz3 hz4 hmin hcv' hlti
              obtain ⟨X0, rfl⟩ : ∃ X0 : World, X0 = wr := ⟨_, rfl⟩
              go_wp2_with fail
              go_loopg [14] (T.length - at_) (fun g v X => ∃ (m k : Nat), v = .int .i64 m ∧ 8 ≤ m ∧ at_ + m + g = T.length + 8 ∧ at_ + m ≤ T.length ∧ i + m ≤ L.length ∧ (T.drop at_).take m = (L.drop i).take m ∧ X = X0.drewN k)
              case atStart => exact ⟨8, 0, rfl, Nat.le_refl _, by omega, h8, by omega, HSG.out, rfl⟩
              case round =>
                obtain ⟨m, k, rfl, hm8, hmg, hmT, hmL, hmE, rfl⟩ := hrel
                have HME := Lib.hid hmE
                clear hmE
                have hM2 := HM.out.drewN k
                have cX3 := cell_of_row X0 w.heap.size 0 _ _ _ HM.out.bx
                have hAT := HTA.out.below HM.out.be HTat.out
                have hAB := HBA.out.below HM.out.be HBat.out
                by_cases c1 : at_ + m < T.length
                · have d1 : (at_ : Int) + (m : Int) < (lT : Int) := by omega
                  by_cases c2 : i + m < L.length
                  · have d2 : (i : Int) + (m : Int) < (lB : Int) := by omega
                    have x1 := hAT.cell (at_ + m) (by omega)
                    have x2 := hAB.cell (i + m) (by omega)
                    have hsT := take_snoc' T at_ m c1
                    have hsL := take_snoc' L i m c2
                    obtain ⟨u, hu⟩ : ∃ u, T.getD (at_ + m) 0 = u := ⟨_, rfl⟩
                    obtain ⟨v, hv⟩ : ∃ v, L.getD (i + m) 0 = v := ⟨_, rfl⟩
                    rw [hu] at x1 hsT
                    rw [hv] at x2 hsL
                    have HsT := Lib.hid hsT; have HsL := Lib.hid hsL
                    have HU := Lib.hid hu; have HV := Lib.hid hv
                    have hz1 : (0 : Int) ≤ (at_ : Int) + (m : Int) := by omega
                    have hz2 : (0 : Int) ≤ (i : Int) + (m : Int) := by omega
                    clear hsT hsL hu hv hAT hAB hM2
                    by_cases c3 : u = v
                    · subst c3
                      go_wp2_with fail
                      go_quiet (fail)
                      go_wp2_with fail
                      go_roundg (gk - 1)
                      case measure => omega
                      case rel => exact ⟨m + 1, _, by go_num, by omega, by omega, by omega, by omega, by rw [HsT.out, HsL.out, HME.out], rfl⟩
                    · have c3' : (u == v) = false := by rw [beq_eq_false_iff_ne]; exact c3
                      have hex : L = T → at_ = 0 → m = T.length := fun e h0 => by
                        have h1 := HS0.out e (by omega) h0
                        subst h0 h1
                        exact absurd (by rw [← HU.out, ← HV.out, e]) c3
                      have HEX0 := Lib.hid hex
                      clear hex c3
                      go_wp2_with fail
                      go_quiet (fail)
                      go_wp2_with fail
                      have hMY := HM.out.drewN (k + nq)
                      refine (ins_any w.heap.size (p + 1) B4 p _ bT oT lT cT T (grp lT 64 ++ pB ps) bg at_ hMY.bb hMY.bw hMY.bx (HTA.out.below hMY.be HTat.out) (fun _ => by omega) hMY.wr (by omega) (by omega) (by omega) (by omega) (by omega) (by rw [List.length_append]; have := HST.out.len; have := grp_len3 lT (by omega) 64; omega)).mono ?_
                      rintro e w5 ⟨rfl, hw5, hb5, hk5⟩
                      have hM5 := hMY.keep hp2 hp4 hw5 hb5 hk5
                      have cX8 := cell_of_row w5 (p + 1) 0 _ _ _ hM5.bw
                      have hA5 : ((grp lT 64 ++ pB ps) ++ insB T bg at_).length ≤ 1048576 := by
                        rw [List.length_append, List.length_append]; have := HST.out.len; have := HST.out.a; have := grp_len3 lT (by omega) 64; have := insB_len T bg at_ (by omega) hT4; omega
                      have C5 := count_keep hM5.wr (2 * m + 1) (by omega) (by omega)
                      rw [show ((2 * m + 1 : Nat) : Int) = 2 * (m : Int) + 1 by omega] at C5
                      have HC5 := Lib.hid C5
                      have HM5 := Lib.hid hM5
                      have HEX := Lib.hid (HEX0.out : L = T → at_ = 0 → m = T.length)
                      clear C5 hw5 hb5 hk5 hM5 hMY
                      go_wp2_with (go_at_call 17; (with_reducible refine HC5.out.mono ?_); rintro e w6 ⟨rfl, hw6, hb6, hk6⟩; have hM6 := HM5.out.keep hp2 hp4 hw6 hb6 hk6; have cX8' := cell_of_row w6 (p + 1) 0 _ _ _ hM6.bw)
                      have C6 := count_keep hM6.wr i (by omega) (by rw [List.length_append]; have := grp_len3 (2 * m + 1) (by omega) 64; omega)
                      have HC6 := Lib.hid C6
                      have HM6 := Lib.hid hM6
                      clear C6 hw6 hb6 hk6 hM6 cX8
                      refine HC6.out.mono ?_
                      rintro e w7 ⟨rfl, hw7, hb7, hk7⟩
                      have hM7 := HM6.out.keep hp2 hp4 hw7 hb7 hk7
                      have cX9 := cell_of_row w7 B4 0 _ _ _ hM7.bb
                      have fX9 := frozen_of_row w7 B4 0 _ _ hM7.bb
                      go_wp2_with fail
                      have hM8 := hM7.put hp2 hp4 (at_ + m)
                      rw [show ((at_ + m : Nat) : Int) = (at_ : Int) + (m : Int) by omega] at hM8
                      have hBq : grp lT 64 ++ pB (ps ++ (insQ T bg at_ ++ [⟨true, (i : Int), { data := #[] }, (m : Int)⟩])) = (((grp lT 64 ++ pB ps) ++ insB T bg at_) ++ grp (2 * m + 1) 64) ++ grp i 64 := by
                        rw [pB_app, pB_app, insQ_B HTA.out.byte bg at_ (by omega)]
                        simp only [List.append_assoc]
                        rw [show pB [(⟨true, (i : Int), { data := #[] }, (m : Int)⟩ : Q)] = grp (2 * m + 1) 64 ++ grp i 64 from by simp [pB]; rfl]
                      rw [← hBq] at hM8
                      go_roundg (T.length - (at_ + m))
                      case measure => omega
                      case rel => exact ⟨at_ + m, at_ + m, _, by go_num, by omega, MSt_copy HST.out HTA.out.byte hT4 hL4 i m hm8 hmT hmL HME.out (fun e h8' h0 => ⟨HS0.out e h8' h0, HEX.out e h0⟩) _ rfl, hM8⟩
                  · have d2 : decide ((i : Int) + (m : Int) < (lB : Int)) = false := decide_eq_false (by omega)
                    have hex : L = T → at_ = 0 → m = T.length := fun e h0 => by
                      have h1 := HS0.out e (by omega) h0
                      have h2 : L.length = T.length := by rw [e]
                      omega
                    have HEX0 := Lib.hid hex
                    clear hex hAT hAB hM2
                    go_wp2_with fail
                    go_quiet (fail)
                    go_wp2_with fail
                    have hMY := HM.out.drewN (k + nq)
                    refine (ins_any w.heap.size (p + 1) B4 p _ bT oT lT cT T (grp lT 64 ++ pB ps) bg at_ hMY.bb hMY.bw hMY.bx (HTA.out.below hMY.be HTat.out) (fun _ => by omega) hMY.wr (by omega) (by omega) (by omega) (by omega) (by omega) (by rw [List.length_append]; have := HST.out.len; have := grp_len3 lT (by omega) 64; omega)).mono ?_
                    rintro e w5 ⟨rfl, hw5, hb5, hk5⟩
                    have hM5 := hMY.keep hp2 hp4 hw5 hb5 hk5
                    have cX8 := cell_of_row w5 (p + 1) 0 _ _ _ hM5.bw
                    have hA5 : ((grp lT 64 ++ pB ps) ++ insB T bg at_).length ≤ 1048576 := by
                      rw [List.length_append, List.length_append]; have := HST.out.len; have := HST.out.a; have := grp_len3 lT (by omega) 64; have := insB_len T bg at_ (by omega) hT4; omega
                    have C5 := count_keep hM5.wr (2 * m + 1) (by omega) (by omega)
                    rw [show ((2 * m + 1 : Nat) : Int) = 2 * (m : Int) + 1 by omega] at C5
                    have HC5 := Lib.hid C5
                    have HM5 := Lib.hid hM5
                    have HEX := Lib.hid (HEX0.out : L = T → at_ = 0 → m = T.length)
                    clear C5 hw5 hb5 hk5 hM5 hMY
                    go_wp2_with (go_at_call 17; (with_reducible refine HC5.out.mono ?_); rintro e w6 ⟨rfl, hw6, hb6, hk6⟩; have hM6 := HM5.out.keep hp2 hp4 hw6 hb6 hk6; have cX8' := cell_of_row w6 (p + 1) 0 _ _ _ hM6.bw)
                    have C6 := count_keep hM6.wr i (by omega) (by rw [List.length_append]; have := grp_len3 (2 * m + 1) (by omega) 64; omega)
                    have HC6 := Lib.hid C6
                    have HM6 := Lib.hid hM6
                    clear C6 hw6 hb6 hk6 hM6 cX8
                    refine HC6.out.mono ?_
                    rintro e w7 ⟨rfl, hw7, hb7, hk7⟩
                    have hM7 := HM6.out.keep hp2 hp4 hw7 hb7 hk7
                    have cX9 := cell_of_row w7 B4 0 _ _ _ hM7.bb
                    have fX9 := frozen_of_row w7 B4 0 _ _ hM7.bb
                    go_wp2_with fail
                    have hM8 := hM7.put hp2 hp4 (at_ + m)
                    rw [show ((at_ + m : Nat) : Int) = (at_ : Int) + (m : Int) by omega] at hM8
                    have hBq : grp lT 64 ++ pB (ps ++ (insQ T bg at_ ++ [⟨true, (i : Int), { data := #[] }, (m : Int)⟩])) = (((grp lT 64 ++ pB ps) ++ insB T bg at_) ++ grp (2 * m + 1) 64) ++ grp i 64 := by
                      rw [pB_app, pB_app, insQ_B HTA.out.byte bg at_ (by omega)]
                      simp only [List.append_assoc]
                      rw [show pB [(⟨true, (i : Int), { data := #[] }, (m : Int)⟩ : Q)] = grp (2 * m + 1) 64 ++ grp i 64 from by simp [pB]; rfl]
                    rw [← hBq] at hM8
                    go_roundg (T.length - (at_ + m))
                    case measure => omega
                    case rel => exact ⟨at_ + m, at_ + m, _, by go_num, by omega, MSt_copy HST.out HTA.out.byte hT4 hL4 i m hm8 hmT hmL HME.out (fun e h8' h0 => ⟨HS0.out e h8' h0, HEX.out e h0⟩) _ rfl, hM8⟩
                · have d1 : decide ((at_ : Int) + (m : Int) < (lT : Int)) = false := decide_eq_false (by omega)
                  have hex : L = T → at_ = 0 → m = T.length := fun e h0 => by omega
                  have HEX0 := Lib.hid hex
                  clear hex hAT hAB hM2
                  go_wp2_with fail
                  go_quiet (fail)
                  go_wp2_with fail
                  have hMY := HM.out.drewN (k + nq)
                  refine (ins_any w.heap.size (p + 1) B4 p _ bT oT lT cT T (grp lT 64 ++ pB ps) bg at_ hMY.bb hMY.bw hMY.bx (HTA.out.below hMY.be HTat.out) (fun _ => by omega) hMY.wr (by omega) (by omega) (by omega) (by omega) (by omega) (by rw [List.length_append]; have := HST.out.len; have := grp_len3 lT (by omega) 64; omega)).mono ?_
                  rintro e w5 ⟨rfl, hw5, hb5, hk5⟩
                  have hM5 := hMY.keep hp2 hp4 hw5 hb5 hk5
                  have cX8 := cell_of_row w5 (p + 1) 0 _ _ _ hM5.bw
                  have hA5 : ((grp lT 64 ++ pB ps) ++ insB T bg at_).length ≤ 1048576 := by
                    rw [List.length_append, List.length_append]; have := HST.out.len; have := HST.out.a; have := grp_len3 lT (by omega) 64; have := insB_len T bg at_ (by omega) hT4; omega
                  have C5 := count_keep hM5.wr (2 * m + 1) (by omega) (by omega)
                  rw [show ((2 * m + 1 : Nat) : Int) = 2 * (m : Int) + 1 by omega] at C5
                  have HC5 := Lib.hid C5
                  have HM5 := Lib.hid hM5
                  have HEX := Lib.hid (HEX0.out : L = T → at_ = 0 → m = T.length)
                  clear C5 hw5 hb5 hk5 hM5 hMY
                  go_wp2_with (go_at_call 17; (with_reducible refine HC5.out.mono ?_); rintro e w6 ⟨rfl, hw6, hb6, hk6⟩; have hM6 := HM5.out.keep hp2 hp4 hw6 hb6 hk6; have cX8' := cell_of_row w6 (p + 1) 0 _ _ _ hM6.bw)
                  have C6 := count_keep hM6.wr i (by omega) (by rw [List.length_append]; have := grp_len3 (2 * m + 1) (by omega) 64; omega)
                  have HC6 := Lib.hid C6
                  have HM6 := Lib.hid hM6
                  clear C6 hw6 hb6 hk6 hM6 cX8
                  refine HC6.out.mono ?_
                  rintro e w7 ⟨rfl, hw7, hb7, hk7⟩
                  have hM7 := HM6.out.keep hp2 hp4 hw7 hb7 hk7
                  have cX9 := cell_of_row w7 B4 0 _ _ _ hM7.bb
                  have fX9 := frozen_of_row w7 B4 0 _ _ hM7.bb
                  go_wp2_with fail
                  have hM8 := hM7.put hp2 hp4 (at_ + m)
                  rw [show ((at_ + m : Nat) : Int) = (at_ : Int) + (m : Int) by omega] at hM8
                  have hBq : grp lT 64 ++ pB (ps ++ (insQ T bg at_ ++ [⟨true, (i : Int), { data := #[] }, (m : Int)⟩])) = (((grp lT 64 ++ pB ps) ++ insB T bg at_) ++ grp (2 * m + 1) 64) ++ grp i 64 := by
                    rw [pB_app, pB_app, insQ_B HTA.out.byte bg at_ (by omega)]
                    simp only [List.append_assoc]
                    rw [show pB [(⟨true, (i : Int), { data := #[] }, (m : Int)⟩ : Q)] = grp (2 * m + 1) 64 ++ grp i 64 from by simp [pB]; rfl]
                  rw [← hBq] at hM8
                  go_roundg (T.length - (at_ + m))
                  case measure => omega
                  case rel => exact ⟨at_ + m, at_ + m, _, by go_num, by omega, MSt_copy HST.out HTA.out.byte hT4 hL4 i m hm8 hmT hmL HME.out (fun e h8' h0 => ⟨HS0.out e h8' h0, HEX.out e h0⟩) _ rfl, hM8⟩
          · have hne : L = T → 8 ≤ T.length → at_ ≠ 0 := fun e h8' => by omega
            have hst2 := Lib.hid (MSt_next hst hlt hne)
            have hmin : min ((at_ : Int) + 8) (lT : Int) = (lT : Int) := by omega
            have hcv := bytes_cut hAT at_ (lT - at_) (by omega) (cT - at_)
            have hz1 : (at_ : Int) ≤ (lT : Int) := by omega
            have hz2 : (lT : Int) ≤ (cT : Int) := by omega
            have hz3 : ¬ (cT = at_) := by omega
            have hgt : (lT : Int) < (at_ : Int) + 8 := by omega
            have hlen := hkeyOf (strOfNums ((T.drop at_).take (lT - at_))) (by rw [strOfNums_size']; unfold maxLen; rw [List.length_take]; omega)
            obtain ⟨S, hS⟩ : ∃ S, strOfNums ((T.drop at_).take (lT - at_)) = S := ⟨_, rfl⟩
            rw [hS] at hcv hlen
            have HK := Lib.hid hlen
            clear hAT hlen hst hM hne hS
            cases hhas : Maps.has D (keyL S) with
            | false =>
              go_wp2_with (first
                | (at_lookup; refine wpList_lookup_own_ok_int _ rfl _ _ 46 rfl 9 3 .i64 klaw und46 (by kernel_rfl) (zero3 _) (w.heap.size + 1) n D rfl HOMX.out _ _ rfl HK.out ?_; intro c hatc hwc))
              go_roundg (T.length - (at_+1))
              case measure => omega
              case rel => exact ⟨at_+1, bg, ps, by go_num, by omega, hst2.out, HM.out⟩
            | true =>
              go_wp2_with (first
                | (at_lookup; refine wpList_lookup_own_ok_int _ rfl _ _ 46 rfl 9 3 .i64 klaw und46 (by kernel_rfl) (zero3 _) (w.heap.size + 1) n D rfl HOMX.out _ _ rfl HK.out ?_; intro c hatc hwc))
              go_roundg (T.length - (at_+1))
              case measure => omega
              case rel => exact ⟨at_+1, bg, ps, by go_num, by omega, hst2.out, HM.out⟩
        · have hat : at_ = T.length := by omega
          have hlti : ¬ ((at_ : Int) < (lT : Int)) := by omega
          have hst2 := hst
          rw [hat] at hst2
          have HEND := Lib.hid (MSt_end hst2 HTA.out.byte hT4)
          have HST2 := Lib.hid hst2
          clear hst2 hat hst hM cX9 fX9
          go_wp2_with fail
          refine (ins_any w.heap.size (p + 1) B4 p aT bT oT lT cT T (grp lT 64 ++ pB ps) bg lT HM.out.bb HM.out.bw HM.out.bx (HTA.out.below hbe HTat.out) (fun h => by have := HTat.out h; omega) HM.out.wr (by omega) (by omega) (by omega) (Nat.le_refl _) (by omega) (by rw [List.length_append]; have := HST.out.len; have := HST.out.t; have := HST.out.a; have := grp_len3 lT (by omega) 64; omega)).mono ?_
          rintro e w5 ⟨rfl, hw5, hb5, hk5⟩
          have hM5 := HM.out.keep hp2 hp4 hw5 hb5 hk5
          have cX8' := cell_of_row w5 (p + 1) 0 _ _ _ hM5.bw
          have BY0 := bytes_any hM5.wr
          have HBE5 := Lib.hid hM5.be
          have hq : (grp lT 64 ++ pB ps) ++ insB T bg lT = grp T.length 64 ++ pB (ps ++ insQ T bg T.length) := by
            rw [pB_app, insQ_B HTA.out.byte bg _ (Nat.le_refl _), List.append_assoc]
            rw [show lT = T.length by omega]
          rw [hq] at BY0
          obtain ⟨Z, hZ⟩ : ∃ Z, strOfNums (grp T.length 64 ++ pB (ps ++ insQ T bg T.length)) = Z := ⟨_, rfl⟩
          rw [hZ] at BY0
          have BY := Lib.hid BY0
          have HZ := Lib.hid hZ
          clear hM5 hw5 hb5 hk5 hq hbe BY0 hZ
          go_wp2_with (go_at_call 20; refine BY.out.mono ?_; rintro e w6 ⟨rfl, rfl⟩)
          go_ret2
          exact ⟨ps ++ insQ T bg T.length, by rw [HZ.out]; rfl, HBE5.out, HEND.out.1, HEND.out.2.1, HEND.out.2.2.1, HEND.out.2.2.2⟩
end Go.Proofs.Ytkfjkipffklblaa
