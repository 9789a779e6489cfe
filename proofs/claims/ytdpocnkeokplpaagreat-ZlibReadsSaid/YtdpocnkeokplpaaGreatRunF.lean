/- The document's inflate: the fixed codes' lengths; the row. -/
import Derived.Test.YtdpocnkeokplpaaGreatRunE
import Derived.Test.YtdpocnkeokplpaaGreatQl
namespace Go.Proofs.YtdpocnkeokplpaaGreat
open Go.RowKit Go.Hal
set_option linter.unusedVariables false
set_option linter.unusedSimpArgs false

theorem fixL_at : ∀ k, k < 288 → fixL[k]? = some (if k < 144 then 8 else if k < 256 then 9 else if k < 280 then 7 else 8) := by decide +kernel
theorem fixD_at : ∀ k, k < 32 → fixD[k]? = some 5 := by decide +kernel
/-- The first k are as they should be. -/
def UpTo (L : List Nat) (k : Nat) (xs : List Int) : Prop := xs.length = L.length ∧ ∀ j, j < k → xs[j]? = (natsV L)[j]?
theorem UpTo.step {L : List Nat} {k : Nat} {xs : List Int} (h : UpTo L k xs) (v : Int) (hk : k < L.length) (hv : (natsV L)[k]? = some v) : UpTo L (k + 1) (xs.set k v) := by
  refine ⟨by rw [List.length_set]; exact h.1, fun j hj => ?_⟩
  rw [List.getElem?_set]
  by_cases hjk : k = j
  · subst hjk
    rw [if_pos rfl, if_pos (by rw [h.1]; exact hk), hv]
  · rw [if_neg hjk]
    exact h.2 j (by omega)
theorem UpTo.all {L : List Nat} {xs : List Int} (h : UpTo L L.length xs) : xs = natsV L := by
  refine List.ext_getElem? fun j => ?_
  by_cases hj : j < L.length
  · exact h.2 j hj
  · rw [List.getElem?_eq_none (by rw [h.1]; omega), List.getElem?_eq_none (by unfold natsV; rw [List.length_map]; omega)]
theorem map_set_int (xs : List Int) (k : Nat) (v : Int) : (xs.map intV).set k (.int .i64 v) = (xs.set k v).map intV := by
  rw [List.map_set]; rfl

set_option maxRecDepth 100000 in
set_option maxHeartbeats 4000000 in
theorem fixed_ref {w : World} {Rs : List Res} (hS : Sat w Rs) :
    Calls Tryz.prog 48 #[] w fun e' w' => ∃ a c d f, e' = .returned (.tuple #[.slice a 288 c, .slice d 32 f]) ∧ Sat w' (sl 3 1 288 (.slice a 288 c) ((natsV fixL).map intV) :: sl 3 1 32 (.slice d 32 f) ((natsV fixD).map intV) :: Rs) := by
  have hmk : (Instr.makeSlice 45 (.int .i64 288) (.int .i64 288)).run Tryz.prog w = .ok (.slice (some ⟨w.heap.size, 0, none⟩) 288 288) (w.alloc (.cells (madeCells #[.int .i64 0] 288) 3)) := make_ints 288 (by omega) w
  have h1 := hS.sl_made (e := 3) (size := 1) (n := 288) (cap := 288) (cur := madeCells #[.int .i64 0] 288) (xs := (List.replicate 288 (0 : Int)).map intV) (by omega) (by decide) (by rw [List.length_map, List.length_replicate]) (by rw [size_madeCells]; omega) (fun j u hu => madeInts 288 j u hu)
  go_enter Tryz.func48, Tryz.ntmps48
  go_wp2
  generalize w.heap.size = lb at h1 ⊢
  generalize w.alloc (.cells (madeCells #[.int .i64 0] 288) 3) = W at h1 ⊢
  clear hmk
  go_loopw [3] (fun z wr => ∃ (k : Nat) (xs : List Int), k ≤ 288 ∧ z = .int .i64 (k : Nat) ∧ Hid (UpTo fixL k xs) ∧ Sat wr (sl 3 1 288 (.slice (some ⟨lb, 0, none⟩) 288 288) (xs.map intV) :: Rs)) (fun z _ => 288 - (intOf z).toNat)
  case atStart => exact ⟨0, _, by omega, rfl, ⟨by decide, fun j hj => by omega⟩, h1⟩
  case round =>
    obtain ⟨k, xs, hk, rfl, HU, hS1⟩ := hrel
    have hxl : xs.length = 288 := HU.out.1
    have Hxl := Lib.hid hxl
    by_cases hlt : k < 288
    · obtain ⟨u, Hu⟩ : ∃ u, Hid ((xs.map intV)[k]? = some u) := ⟨_, Lib.hid (List.getElem?_eq_getElem (by rw [List.length_map, hxl]; exact hlt))⟩
      have g1 := slr_cell hS1.sl_read Hu.out
      rw [Nat.zero_add] at g1
      have g2 := sl_frozen hS1 (by omega) k
      rw [Nat.zero_add] at g2
      have HS1 := Lib.hid hS1
      have hfx := fixL_at k hlt
      have Hfx := Lib.hid hfx
      clear hS1 hxl h1 hfx
      have hset : ∀ v : Int, Sat (wr.setCell ⟨lb, k, none⟩ (.int .i64 v)) (sl 3 1 288 (.slice (some ⟨lb, 0, none⟩) 288 288) ((xs.set k v).map intV) :: Rs) := by
        intro v
        have h5 := HS1.out.sl_set k (by rw [List.length_map, Hxl.out]; exact hlt) (.int .i64 v)
        rw [Nat.zero_add, map_set_int] at h5
        exact h5
      have hset2 : ∀ v z : Int, Sat ((wr.setCell ⟨lb, k, none⟩ (.int .i64 v)).setCell ⟨lb, k, none⟩ (.int .i64 z)) (sl 3 1 288 (.slice (some ⟨lb, 0, none⟩) 288 288) ((xs.set k z).map intV) :: Rs) := by
        intro v z
        have h5 := (hset v).sl_set k (by rw [List.length_map, List.length_set, Hxl.out]; exact hlt) (.int .i64 z)
        rw [Nat.zero_add, map_set_int, List.set_set] at h5
        exact h5
      have Hset := Lib.hid hset
      have Hset2 := Lib.hid hset2
      clear hset hset2
      rcases (by omega : k < 144 ∨ (144 ≤ k ∧ k < 256) ∨ (256 ≤ k ∧ k < 280) ∨ 280 ≤ k) with h | h | h | h
      · have d1 : decide (144 ≤ k) = false := decide_eq_false (by omega)
        have d2 : decide (256 ≤ k) = false := decide_eq_false (by omega)
        have hv : fixL[k]? = some 8 := by rw [Hfx.out, if_pos h]
        have Hv := Lib.hid hv
        clear hv
        go_wp2
        refine ⟨⟨k + 1, xs.set k 8, by omega, vi (by omega), HU.out.step 8 hlt (by unfold natsV; rw [List.getElem?_map, Hv.out]; rfl), Hset.out 8⟩, by simp [intOf]; omega⟩
      · obtain ⟨ha, hb⟩ := h
        have d1 : decide (144 ≤ k) = true := decide_eq_true (by omega)
        have d2 : decide (256 ≤ k) = false := decide_eq_false (by omega)
        have d3 : decide (k < 256) = true := decide_eq_true (by omega)
        have hv : fixL[k]? = some 9 := by rw [Hfx.out, if_neg (by omega), if_pos hb]
        have Hv := Lib.hid hv
        clear hv
        go_wp2
        refine ⟨⟨k + 1, xs.set k 9, by omega, vi (by omega), HU.out.step 9 hlt (by unfold natsV; rw [List.getElem?_map, Hv.out]; rfl), by first | exact Hset2.out 8 9 | exact Hset.out 9⟩, by simp [intOf]; omega⟩
      · obtain ⟨ha, hb⟩ := h
        have d1 : decide (144 ≤ k) = true := decide_eq_true (by omega)
        have d2 : decide (256 ≤ k) = true := decide_eq_true (by omega)
        have d3 : decide (k < 256) = false := decide_eq_false (by omega)
        have d4 : decide (k < 280) = true := decide_eq_true (by omega)
        have hv : fixL[k]? = some 7 := by rw [Hfx.out, if_neg (by omega), if_neg (by omega), if_pos hb]
        have Hv := Lib.hid hv
        clear hv
        go_wp2
        refine ⟨⟨k + 1, xs.set k 7, by omega, vi (by omega), HU.out.step 7 hlt (by unfold natsV; rw [List.getElem?_map, Hv.out]; rfl), by first | exact Hset2.out 8 7 | exact Hset.out 7⟩, by simp [intOf]; omega⟩
      · have d1 : decide (144 ≤ k) = true := decide_eq_true (by omega)
        have d2 : decide (256 ≤ k) = true := decide_eq_true (by omega)
        have d3 : decide (k < 256) = false := decide_eq_false (by omega)
        have d4 : decide (k < 280) = false := decide_eq_false (by omega)
        have hv : fixL[k]? = some 8 := by rw [Hfx.out, if_neg (by omega), if_neg (by omega), if_neg (by omega)]
        have Hv := Lib.hid hv
        clear hv
        go_wp2
        refine ⟨⟨k + 1, xs.set k 8, by omega, vi (by omega), HU.out.step 8 hlt (by unfold natsV; rw [List.getElem?_map, Hv.out]; rfl), Hset.out 8⟩, by simp [intOf]; omega⟩
    · obtain rfl : k = 288 := by omega
      have hxe : xs = natsV fixL := UpTo.all (L := fixL) HU.out
      subst hxe
      have hmk2 : (Instr.makeSlice 45 (.int .i64 32) (.int .i64 32)).run Tryz.prog wr = .ok (.slice (some ⟨wr.heap.size, 0, none⟩) 32 32) (wr.alloc (.cells (madeCells #[.int .i64 0] 32) 3)) := make_ints 32 (by omega) wr
      have h2 := hS1.sl_made (e := 3) (size := 1) (n := 32) (cap := 32) (cur := madeCells #[.int .i64 0] 32) (xs := (List.replicate 32 (0 : Int)).map intV) (by omega) (by decide) (by rw [List.length_map, List.length_replicate]) (by rw [size_madeCells]; omega) (fun j u hu => madeInts 32 j u hu)
      clear hxl Hxl hS1 h1 HU
      go_wp2
      generalize wr.heap.size = lc at h2 ⊢
      generalize wr.alloc (.cells (madeCells #[.int .i64 0] 32) 3) = W2 at h2 ⊢
      clear hmk2
      go_loopw [5] (fun z wq => ∃ (j : Nat) (ys : List Int), j ≤ 32 ∧ z = .int .i64 (j : Nat) ∧ Hid (UpTo fixD j ys) ∧ Sat wq (sl 3 1 32 (.slice (some ⟨lc, 0, none⟩) 32 32) (ys.map intV) :: sl 3 1 288 (.slice (some ⟨lb, 0, none⟩) 288 288) ((natsV fixL).map intV) :: Rs)) (fun z _ => 32 - (intOf z).toNat)
      case atStart => exact ⟨0, _, by omega, rfl, ⟨by decide, fun j hj => by omega⟩, h2⟩
      case round =>
        obtain ⟨j, ys, hj, rfl, HU, hS2⟩ := hrel
        have hyl : ys.length = 32 := HU.out.1
        by_cases hlt : j < 32
        · obtain ⟨u, Hu⟩ : ∃ u, Hid ((ys.map intV)[j]? = some u) := ⟨_, Lib.hid (List.getElem?_eq_getElem (by rw [List.length_map, hyl]; exact hlt))⟩
          have g1 := slr_cell hS2.sl_read Hu.out
          rw [Nat.zero_add] at g1
          have g2 := sl_frozen hS2 (by omega) j
          rw [Nat.zero_add] at g2
          have h5 := hS2.sl_set j (by rw [List.length_map, hyl]; exact hlt) (.int .i64 5)
          rw [Nat.zero_add, map_set_int] at h5
          have H5 := Lib.hid h5
          clear hS2 hyl h2 h5
          go_wp2
          exact ⟨⟨j + 1, ys.set j 5, by omega, vi (by omega), HU.out.step 5 hlt (by unfold natsV; rw [List.getElem?_map, fixD_at j hlt]; rfl), H5.out⟩, by simp [intOf]; omega⟩
        · obtain rfl : j = 32 := by omega
          have hye : ys = natsV fixD := UpTo.all (L := fixD) HU.out
          subst hye
          have H2 := Lib.hid hS2.swap
          clear hS2 hyl h2
          go_wp2
          go_ret2
          exact ⟨_, _, _, _, rfl, H2.out⟩

set_option maxHeartbeats 400000 in
theorem row_ref {w : World} {Rs : List Res} (hS : Sat w Rs) :
    Calls Tryz.prog 84 #[] w fun e' w' => ∃ a c, e' = .returned (.slice a 19 c) ∧ Sat w' (sl 3 1 19 (.slice a 19 c) ((natsV ord19).map intV) :: Rs) := by
  have hA := hS.sl_made (e := 3) (size := 1) (n := 19) (cap := 19) (cur := ((natsV ord19).map intV).toArray) (xs := (natsV ord19).map intV) (by omega) (by decide) rfl (by decide) (fun j u hu => by simpa using hu)
  have HA := Lib.hid hA
  clear hA hS
  go_enter Tryz.func84, Tryz.ntmps84
  go_wp2
  go_ret
  exact ⟨_, _, rfl, HA.out⟩

theorem words_few {L : List Nat} {T : List (Nat × Value)} (hT : T.map (·.1) = ord L 15) (hx : ∀ x ∈ L, x ≤ 15) (hl : L.length ≤ 288) : T.length ≤ 288 := by
  have h1 : T.length = (ord L 15).length := by rw [← hT, List.length_map]
  have h2 := ws_le L
  rw [ord_ws _ hx] at h1
  omega

end Go.Proofs.YtdpocnkeokplpaaGreat
