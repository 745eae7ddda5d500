/-
  The walks of sha.Parse, siloref03.digit, siloref03.Parse: the key with these digits, or none.
-/
import Derived.Test.YtoijdiokomineaaDoorEq
import Derived.Lib.OthersKept
namespace Go.Proofs.YtoijdiokomineaaDoor
open Go.RowKit
set_option linter.unusedVariables false

/-- What a digit stands for; 16, if it is none. -/
def dv (c : Int) : Int := if 48 ≤ c ∧ c ≤ 57 then c - 48 else if 97 ≤ c ∧ c ≤ 102 then c - 87 else 16
theorem dv_u (c : Int) : 0 ≤ dv c ∧ dv c ≤ 16 := by unfold dv; split <;> (try split) <;> omega
/-- A text's byte. -/
def ch (s : ByteArray) (j : Nat) : Int := ((s.data.toList.getD j 0).toNat : Int)
theorem ch_get (s : ByteArray) (j : Nat) (h : j < s.size) : ((s[j]'h).toNat : Int) = ch s j := by
  unfold ch
  rw [List.getD_eq_getElem?_getD, List.getElem?_eq_getElem (by simpa using h)]
  simp
  rfl
theorem ch_u8 (s : ByteArray) (j : Nat) : U8 (ch s j) := by
  unfold ch U8
  have := (s.data.toList.getD j 0).toNat_lt
  omega
/-- Are the first n bytes digits? -/
def digN (s : ByteArray) (n : Nat) : Bool := (List.range n).all fun j => dv (ch s j) != 16
theorem digN_succ (s : ByteArray) (n : Nat) : digN s (n + 1) = (digN s n && (dv (ch s n) != 16)) := by
  unfold digN
  rw [List.range_succ, List.all_append]
  simp
theorem digN_iff (s : ByteArray) (n : Nat) : digN s n = true ↔ ∀ j, j < n → dv (ch s j) ≠ 16 := by
  unfold digN
  rw [List.all_eq_true]
  simp
/-- Is the text a key's digits? -/
def okS (s : ByteArray) : Bool := s.size == 64 && digN s 64
theorem okS_bad (s : ByteArray) (j : Nat) (hj : j < 64) (h : dv (ch s j) = 16) : okS s = false := by
  unfold okS
  rw [Bool.and_eq_false_iff]
  right
  rw [Bool.eq_false_iff]
  intro h2
  exact (digN_iff s 64).1 h2 j hj h
/-- The bytes of which the first i digits tell. -/
def pcell (s : ByteArray) (i j : Nat) : Int := if 2 * j + 1 < i then dv (ch s (2 * j)) * 16 + dv (ch s (2 * j + 1)) else if 2 * j < i then dv (ch s (2 * j)) else 0
def pkS (s : ByteArray) (j : Nat) : Int := if okS s = true then pcell s 64 j else 0

theorem u8_join (x y : Int) (h0 : 0 ≤ x) (h1 : x < 16) (h2 : 0 ≤ y) (h3 : y < 16) : bits BinOp.or IntKind.u8 (x * 16 % 256) y = x * 16 + y := by
  rw [show x * 16 % 256 = x * 16 by omega]
  exact bits_join .u8 8 (by decide) (fun n h0 h1 => by rw [IntKind.wrap_u8]; omega) 4 (x * 16) y (by omega) (by omega) (by omega) h2 (by omega) (by omega)

theorem pcell_step (s : ByteArray) (i : Nat) (hd : digN s (i + 1) = true) (j : Nat) : (if j = i / 2 then pcell s i (i / 2) * 16 + dv (ch s i) else pcell s i j) = pcell s (i + 1) j := by
  unfold pcell
  by_cases e : j = i / 2
  · subst e
    rw [if_pos rfl]
    by_cases hp : i % 2 = 0
    · rw [if_neg (by omega), if_neg (by omega), if_neg (by omega), if_pos (by omega), show 2 * (i / 2) = i by omega]
      omega
    · rw [if_neg (by omega), if_pos (by omega), if_pos (by omega), show 2 * (i / 2) + 1 = i by omega]
  · rw [if_neg e]
    by_cases l : 2 * j + 1 < i
    · rw [if_pos l, if_pos (by omega)]
    · rw [if_neg l, if_neg (by omega), if_neg (by omega), if_neg (by omega)]
theorem pcell_half (s : ByteArray) (i : Nat) (hd : digN s i = true) : 0 ≤ pcell s i (i / 2) ∧ pcell s i (i / 2) < 16 := by
  unfold pcell
  rw [if_neg (by omega)]
  by_cases hp : 2 * (i / 2) < i
  · rw [if_pos hp]
    have := dv_u (ch s (2 * (i / 2)))
    have := (digN_iff s i).1 hd (2 * (i / 2)) hp
    omega
  · rw [if_neg hp]; omega

theorem results_cell_row_tmp {P : Program} {fn : Func} {p u : Tmp} {ty : TypeId} (h : fn.results = #[.cell p ty, .tmp u]) (tmps : Array Value) (w : World) (g : Nat) (t : TypeId) (cs : Array Value) (fr : Nat × Nat) (d : TypeDesc)
    (hp : tmps.getD p undef = .pointer (some ⟨g, 0, none⟩)) (hg : w.heap[g]? = some (.cells cs t fr))
    (hu : P.underlying ty = some d) (hd : (match d with | .struct _ | .array _ _ => true | _ => false) = true) (hi : (P.info? ty).map (·.size) = some cs.size) :
    (results fn tmps).run P w = .ok (.tuple #[.agg cs, tmps.getD u undef]) w := by
  have hp' : tmps[p]?.getD undef = .pointer (some ⟨g, 0, none⟩) := by simpa using hp
  simp [results, h, hp', asAddr, run_loadVar_row w g t ty cs fr d hg hu hd hi]

theorem und33 : Tryd.prog.underlying 33 = some (.int .i64) := by kernel_rfl

structure ParW (w wr : World) (s : ByteArray) (i : Nat) : Prop where
  hr : wr.heap[w.heap.size]? = some (.cells (nums .u8 (fun _ => 0) 32) 25 (0,0))
  hk : wr.heap[w.heap.size+1]? = some (.cells (nums .u8 (pcell s i) 32) 25 (0,0))
  dg : digN s i = true
  below : Below w.heap.size w wr

theorem ParW.store {w wr : World} {s : ByteArray} {i : Nat} (h : ParW w wr s i) (hd : dv (ch s i) ≠ 16) (x : Int) (hx : x = pcell s i (i / 2) * 16 + dv (ch s i)) :
    ParW w (wr.setCell ⟨w.heap.size+1, i / 2, none⟩ (.int .u8 x)) s (i + 1) := by
  have hdg : digN s (i+1) = true := by rw [digN_succ, h.dg]; simp [hd]
  refine ⟨by rw [heap_setCell_other _ _ _ _ (by simp)]; exact h.hr, ?_, hdg, h.below.setCell (by simp) _⟩
  rw [nums_store h.hk (i / 2) x, nums_congr .u8 _ (pcell s (i+1)) 32 (fun j _ => ?_)]
  rw [hx]; exact pcell_step s i hdg j

theorem u8_join' (x y : Int) (h0 : 0 ≤ x) (h1 : x < 16) (h2 : 0 ≤ y) (h3 : y < 16) : bits BinOp.or IntKind.u8 (x * 16) y = x * 16 + y := by
  have := u8_join x y h0 h1 h2 h3
  rwa [show x * 16 % 256 = x * 16 by omega] at this
theorem ParW.iter {w wr : World} {s : ByteArray} {i : Nat} (h : ParW w wr s i) (pos : Nat) : ParW w (wr.iterAt (w.heap.size+1+1) s pos) s i :=
  ⟨by rw [Lib.iterAt_other _ _ _ _ _ (by omega)]; exact h.hr, by rw [Lib.iterAt_other _ _ _ _ _ (by omega)]; exact h.hk, h.dg, Lib.below_iterAt h.below (by omega) s pos⟩
theorem decode_width (s : ByteArray) (pos : Nat) (h : pos < s.size) (ha : ch s pos < 128) : (Utf8.decode s pos).2 = 1 := by
  rw [← ch_get s pos h] at ha
  rw [decode_ascii s pos h (by omega)]
def errS (s : ByteArray) : Int := if okS s = true then 0 else 3
theorem pks_bad (s : ByteArray) (h : okS s = false) : nums .u8 (fun _ => 0) 32 = nums .u8 (pkS s) 32 := nums_congr _ _ _ _ fun j _ => by unfold pkS; rw [h]; rfl
theorem pks_good (s : ByteArray) (h : okS s = true) : nums .u8 (pcell s 64) 32 = nums .u8 (pkS s) 32 := nums_congr _ _ _ _ fun j _ => by unfold pkS; rw [if_pos h]
theorem Z32 : #[Value.int .u8 0, Value.int .u8 0, Value.int .u8 0, Value.int .u8 0, Value.int .u8 0, Value.int .u8 0, Value.int .u8 0, Value.int .u8 0, Value.int .u8 0, Value.int .u8 0, Value.int .u8 0, Value.int .u8 0, Value.int .u8 0, Value.int .u8 0, Value.int .u8 0, Value.int .u8 0, Value.int .u8 0, Value.int .u8 0, Value.int .u8 0, Value.int .u8 0, Value.int .u8 0, Value.int .u8 0, Value.int .u8 0, Value.int .u8 0, Value.int .u8 0, Value.int .u8 0, Value.int .u8 0, Value.int .u8 0, Value.int .u8 0, Value.int .u8 0, Value.int .u8 0, Value.int .u8 0] = nums .u8 (fun _ => 0) 32 := rfl

set_option maxRecDepth 100000 in
set_option maxHeartbeats 1000000 in
theorem parse_any (s : ByteArray) (w : World) :
    Calls Tryd.prog 14 #[.string s] w fun e w' => e = .returned (.tuple #[.agg (nums .u8 (pkS s) 32), .int .i64 (errS s)]) ∧ Below w.heap.size w w' := by
  by_cases h64 : s.size = 64
  · have hn : ((s.size : Int) != 64) = false := by rw [bne_eq_false_iff_eq]; omega
    go_enter Tryd.func14, Tryd.ntmps14
    go_wp2_with fail
    go_loopg [] 64 (fun g wr => ∃ i : Nat, i + g = 64 ∧ wr.heap[w.heap.size+1+1]? = some (.stringIter s i) ∧ ParW w wr s i)
    case atStart =>
      refine ⟨0, rfl, heap_new' _ _ _ (by simp), ?_, ?_, rfl, (((Below.refl _ _).alloc (Nat.le_refl _) _).alloc (by simp) _).alloc (by simp <;> omega) _⟩
      · show (World.alloc _ _).heap[_]? = _
        rw [heap_old _ _ _ (by simp <;> omega), heap_old _ _ _ (by simp), heap_new]; rfl
      · show (World.alloc _ _).heap[_]? = _
        rw [heap_old _ _ _ (by simp), heap_new' _ _ _ (by simp), nums_congr _ (pcell s 0) (fun _ => 0) 32 (fun j _ => by unfold pcell; rw [if_neg (by omega), if_neg (by omega)])]; rfl
    case round =>
      obtain ⟨i, hi, hit, hP⟩ := hrel
      by_cases hl : i < 64
      · have hls : i < s.size := by omega
        have hnx : ∀ ty, (Instr.next (.pointer (some ⟨w.heap.size+1+1, 0, none⟩)) true ty).run Tryd.prog wr = _ := fun ty => Lib.run_next_any_at wr (w.heap.size+1+1) s i ty hit hls
        have hget := ch_get s i hls
        have hu := ch_u8 s i
        unfold U8 at hu
        have htd : Int.tdiv (i : Int) 2 = ((i / 2 : Nat) : Int) := by rw [Int.tdiv_eq_ediv_of_nonneg (by omega)]; omega
        have hlen := hP.below.size
        by_cases hA : 48 ≤ ch s i ∧ ch s i ≤ 57
        · have hd : dv (ch s i) = ch s i - 48 := by unfold dv; rw [if_pos hA]
          have hne : dv (ch s i) ≠ 16 := by omega
          have hhalf := pcell_half s i hP.dg
          have hor := u8_join' (pcell s i (i / 2)) (ch s i - 48) (by omega) (by omega) (by omega) (by omega)
          rw [decode_width s i hls (by omega)] at hnx
          have hst := (hP.iter (i + 1)).store hne (pcell s i (i / 2) * 16 + (ch s i - 48)) (by rw [hd])
          have ck := nums_cell (hP.iter (i+1)).hk (i / 2) (by omega)
          have fk := frozen_of_row _ _ (i / 2) _ _ (hP.iter (i+1)).hk
          have hit2 : ((wr.iterAt (w.heap.size+1+1) s (i+1)).setCell ⟨w.heap.size+1, i/2, none⟩ (.int .u8 (pcell s i (i / 2) * 16 + (ch s i - 48)))).heap[w.heap.size+1+1]? = some (.stringIter s (i+1)) := by
            rw [heap_setCell_other _ _ _ _ (by simp)]; exact Lib.iterAt_heap _ _ _ _ _ hit
          have HST := Lib.hid (And.intro hit2 hst)
          obtain ⟨W, hW⟩ : ∃ W, wr.iterAt (w.heap.size+1+1) s (i+1) = W := ⟨_, rfl⟩
          rw [hW] at hnx HST ck fk
          obtain ⟨C, hC⟩ : ∃ C, ch s i = C := ⟨_, rfl⟩
          rw [hC] at hget hA hor HST hu
          clear hst hit2 hd hne hW hit hP
          obtain ⟨hA1, hA2⟩ := hA
          go_wp2_with fail
          go_roundg (64 - (i+1))
          case measure => omega
          case rel => exact ⟨i+1, by omega, HST.out.1, HST.out.2⟩
        · by_cases hA' : 97 ≤ ch s i ∧ ch s i ≤ 102
          · have hd : dv (ch s i) = ch s i - 87 := by unfold dv; rw [if_neg hA, if_pos hA']
            have hne : dv (ch s i) ≠ 16 := by omega
            have hhalf := pcell_half s i hP.dg
            have hor := u8_join' (pcell s i (i / 2)) (ch s i - 87) (by omega) (by omega) (by omega) (by omega)
            rw [decode_width s i hls (by omega)] at hnx
            have hst := (hP.iter (i + 1)).store hne (pcell s i (i / 2) * 16 + (ch s i - 87)) (by rw [hd])
            have ck := nums_cell (hP.iter (i+1)).hk (i / 2) (by omega)
            have fk := frozen_of_row _ _ (i / 2) _ _ (hP.iter (i+1)).hk
            have hit2 : ((wr.iterAt (w.heap.size+1+1) s (i+1)).setCell ⟨w.heap.size+1, i/2, none⟩ (.int .u8 (pcell s i (i / 2) * 16 + (ch s i - 87)))).heap[w.heap.size+1+1]? = some (.stringIter s (i+1)) := by
              rw [heap_setCell_other _ _ _ _ (by simp)]; exact Lib.iterAt_heap _ _ _ _ _ hit
            have HST := Lib.hid (And.intro hit2 hst)
            obtain ⟨W, hW⟩ : ∃ W, wr.iterAt (w.heap.size+1+1) s (i+1) = W := ⟨_, rfl⟩
            rw [hW] at hnx HST ck fk
            obtain ⟨C, hC⟩ : ∃ C, ch s i = C := ⟨_, rfl⟩
            rw [hC] at hget hA hA' hor HST hu
            clear hst hit2 hd hne hW hit hP
            obtain ⟨hA1, hA2⟩ := hA'
            have hA3 : 57 < C := by omega
            clear hA
            go_wp2_with fail
            go_roundg (64 - (i+1))
            case measure => omega
            case rel => exact ⟨i+1, by omega, HST.out.1, HST.out.2⟩
          · have hd : dv (ch s i) = 16 := by unfold dv; rw [if_neg hA, if_neg hA']
            have bad := okS_bad s i hl hd
            have hit2 := Lib.iterAt_heap _ _ _ _ (i + (Utf8.decode s i).2) hit
            have hP2 := hP.iter (i + (Utf8.decode s i).2)
            obtain ⟨W, hW⟩ : ∃ W, wr.iterAt (w.heap.size+1+1) s (i + (Utf8.decode s i).2) = W := ⟨_, rfl⟩
            rw [hW] at hnx hit2 hP2
            obtain ⟨C, hC⟩ : ∃ C, ch s i = C := ⟨_, rfl⟩
            rw [hC] at hget hA hA' hu
            have hr2 := hP2.hr
            have BAD := Lib.hid bad
            have hb2 := hP2.below
            clear hit2 hd hW hit hP bad hP2
            have hc : C < 48 ∨ (57 < C ∧ C < 97) ∨ 102 < C := by omega
            clear hA hA'
            rcases hc with hc | ⟨hc, hc2⟩ | hc
            all_goals
              go_wp2_with (first
                | ((with_reducible refine at_op (.store 25 (.tmp 2) (.tmp 19)) rfl ?_); go_must (refine store_nums rfl 25 (.tmp 2) (.tmp 19) rfl w.heap.size rfl (by exact congrArg Value.agg Z32) hr2 inf25 ?_)))
              refine bodyPost_ret (results_cell_row_tmp (P := Tryd.prog) (p := 2) (u := 3) (ty := 25) rfl _ _ w.heap.size 25 _ (0, 0) _ rfl (setRow_heap _ _ _ _ _ _ hr2) und25 rfl (by rw [nums_size]; exact inf25)) rfl ?_
              refine ⟨?_, below_setRow' hb2 _ (by omega) _⟩
              rw [pks_bad s BAD.out, show errS s = 3 by unfold errS; rw [BAD.out]; rfl]; rfl
      · have hnx : ∀ ty, (Instr.next (.pointer (some ⟨w.heap.size+1+1, 0, none⟩)) true ty).run Tryd.prog wr = _ := fun ty => Lib.run_next_end_at wr (w.heap.size+1+1) s i ty hit (by omega)
        obtain rfl : i = 64 := by omega
        have ok : okS s = true := by unfold okS; rw [hP.dg, h64]; rfl
        have OK := Lib.hid ok; clear ok
        have hk2 := hP.hk
        have hr2 := hP.hr
        go_wp2_with (first
          | ((with_reducible refine at_op (.load 25 (.tmp 4)) rfl ?_); go_must (refine load_nums rfl 25 (.tmp 4) rfl (w.heap.size+1) rfl hk2 und25 inf25 ?_))
          | ((with_reducible refine at_op (.store 25 (.tmp 2) (.tmp 48)) rfl ?_); go_must (refine store_nums rfl 25 (.tmp 2) (.tmp 48) rfl w.heap.size rfl rfl hr2 inf25 ?_)))
        refine bodyPost_ret (results_cell_row_tmp (P := Tryd.prog) (p := 2) (u := 3) (ty := 25) rfl _ _ w.heap.size 25 _ (0, 0) _ rfl (setRow_heap _ _ _ _ _ _ hr2) und25 rfl (by rw [nums_size]; exact inf25)) rfl ?_
        refine ⟨?_, below_setRow' hP.below _ (by omega) _⟩
        rw [pks_good s OK.out, show errS s = 0 by unfold errS; rw [if_pos OK.out]]; rfl
  · have hn : ((s.size : Int) != 64) = true := by rw [bne_iff_ne]; omega
    have bad : okS s = false := by unfold okS; rw [Bool.and_eq_false_iff]; left; rw [beq_eq_false_iff_ne]; exact h64
    have BAD := Lib.hid bad; clear bad
    have r0 : ∀ a b : Obj, ((w.alloc a).alloc b).heap[w.heap.size]? = some a := fun a b => by rw [heap_old _ _ _ (by simp), heap_new]
    have r1 : ∀ a b : Obj, ((w.alloc a).alloc b).heap[w.heap.size+1]? = some b := fun a b => heap_new' _ _ _ (by simp)
    go_enter Tryd.func14, Tryd.ntmps14
    go_wp2_with (first
      | ((with_reducible refine at_op (.load 25 (.tmp 4)) rfl ?_); go_must (refine load_nums rfl 25 (.tmp 4) rfl (w.heap.size+1) rfl ((r1 _ _).trans (congrArg (fun z => some (Obj.cells z 25 (0,0))) Z32)) und25 inf25 ?_))
      | ((with_reducible refine at_op (.store 25 (.tmp 2) (.tmp 10)) rfl ?_); go_must (refine store_nums rfl 25 (.tmp 2) (.tmp 10) rfl w.heap.size rfl rfl ((r0 _ _).trans (congrArg (fun z => some (Obj.cells z 25 (0,0))) Z32)) inf25 ?_)))
    refine bodyPost_ret (results_cell_row_tmp (P := Tryd.prog) (p := 2) (u := 3) (ty := 25) rfl _ _ w.heap.size 25 _ (0, 0) _ rfl (setRow_heap _ _ _ _ _ _ ((r0 _ _).trans (congrArg (fun z => some (Obj.cells z 25 (0,0))) Z32))) und25 rfl (by rw [nums_size]; exact inf25)) rfl ?_
    refine ⟨?_, below_setRow' (((Below.refl _ _).alloc (Nat.le_refl _) _).alloc (by simp) _) _ (by omega) _⟩
    rw [pks_bad s BAD.out, show errS s = 3 by unfold errS; rw [BAD.out]; rfl]; rfl
end Go.Proofs.YtoijdiokomineaaDoor
