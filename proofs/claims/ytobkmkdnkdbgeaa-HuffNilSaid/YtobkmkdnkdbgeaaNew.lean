/- huff.New: its walk. -/
import Derived.Test.YtobkmkdnkdbgeaaCode
namespace Go.Proofs.Ytobkmkdnkdbgeaa
open Go.RowKit Go.Hal
set_option linter.unusedVariables false
set_option linter.unusedSimpArgs false

def natsV (L : List Nat) : List Int := L.map fun n : Nat => (n : Int)

set_option maxRecDepth 100000 in
set_option maxHeartbeats 400000 in
/-- Lengths that may not be. -/
theorem new_bad {w : World} {Rs : List Res} (hS : Sat w Rs) (v : Value) (xs : List Int) (hv : IntsR w v xs) (hx : 288 < xs.length ∨ ∃ x ∈ xs, x < 0 ∨ 15 < x) :
    Calls Try.prog 16 #[v] w fun e w' => e = .returned (.tuple #[.pointer none, .int .i64 1]) ∧ w = w' := by
  obtain ⟨ao, cap, rfl, h1, h2, -⟩ := hv.cell
  have hc := containsFunc_any _ xs w hv
  by_cases hl : 288 < xs.length
  · clear hc
    go_enter Try.func16, Try.ntmps16
    go_wp2
    go_ret2
    exact ⟨rfl, rfl⟩
  · have hx' : decide (∃ x ∈ xs, x < 0 ∨ 15 < x) = true := decide_eq_true (hx.resolve_left hl)
    rw [hx'] at hc
    have Hc := Lib.hid hc
    clear hc hx hx'
    go_enter Try.func16, Try.ntmps16
    go_wp2_with (go_at_call 43; refine Hc.out.mono ?_; rintro e w' ⟨rfl, rfl⟩)
    go_ret2
    exact ⟨rfl, rfl⟩

/-- Round k's head: all words of length k or less are laid. -/
def OutRel (L : List Nat) (Rs : List Res) (c m1 m2 b : Nat) (next free n : Value) (wr : World) : Prop :=
  ∃ k x f, k ≤ 15 ∧ (∀ m, m ≤ k → ends L m ≤ 2 ^ m) ∧ Hid (x = ends L k) ∧ Hid (f = (2 : Int) ^ k - (x : Nat)) ∧ x ≤ 32768 ∧ 0 ≤ f ∧ f ≤ 32768 ∧ n = .int .i64 ((k : Nat) + 1) ∧ next = .int .i64 (x : Nat) ∧ free = .int .i64 f ∧
    Sat wr (newRes L (ord L k) c m1 m2 (.slice (some ⟨b, 0, none⟩) L.length L.length) (D2of L (ord L k)) ++ Rs)

/-- .. within round k + 1, at symbol s. -/
def InRel (L : List Nat) (Rs : List Res) (c m1 m2 b k : Nat) (next free i : Value) (wr : World) : Prop :=
  ∃ s x f, s ≤ L.length ∧ Hid (x = 2 * ends L k + rank L (k + 1) s) ∧ Hid (f = (2 : Int) ^ (k + 1) - (x : Nat)) ∧ x ≤ 65536 + s ∧ -65536 - (s : Int) ≤ f ∧ f ≤ 65536 ∧ i = .int .i64 (s : Nat) ∧ next = .int .i64 (x : Nat) ∧ free = .int .i64 f ∧
    Sat wr (newRes L (ord L k ++ symsOf L (k + 1) s) c m1 m2 (.slice (some ⟨b, 0, none⟩) L.length L.length) (D2of L (ord L k ++ symsOf L (k + 1) s)) ++ Rs)

def NewPost (L : List Nat) (Rs : List Res) (e : Ending) (w' : World) : Prop :=
  (okL L ∧ ∃ c, e = .returned (.tuple #[.pointer (some ⟨c, 0, none⟩), .int .i64 0]) ∧ Sat w' (code c L :: Rs)) ∨
  (¬ okL L ∧ e = .returned (.tuple #[.pointer none, .int .i64 5]) ∧ Sat w' Rs)

attribute [local simp, local go_sem] putMap_cell putMap_frozen putMap_size heap_drew

set_option maxRecDepth 100000 in
set_option maxHeartbeats 1000000 in
theorem new_good {w : World} {Rs : List Res} (hS : Sat w Rs) (v : Value) (L : List Nat) (hv : ∀ w', Sat w' Rs → IntsR w' v (natsV L)) (hl : L.length ≤ 288) (hx : ∀ x ∈ L, x ≤ 15) :
    Calls Try.prog 16 #[v] w (NewPost L Rs) := by
  have hlen : (natsV L).length = L.length := by simp [natsV]
  have hcf := containsFunc_any _ _ w (hv w hS)
  have hx' : decide (∃ x ∈ natsV L, x < 0 ∨ 15 < x) = false := by
    rw [decide_eq_false_iff_not]
    rintro ⟨x, h1, h2⟩
    obtain ⟨n, h3, rfl⟩ := List.mem_map.1 h1
    have := hx n h3
    omega
  rw [hx'] at hcf
  have Hc := Lib.hid hcf
  obtain ⟨ao, cap, rfl, h1, h2, -⟩ := (hv w hS).cell
  rw [hlen] at Hc hv h1
  have Hv := Lib.hid hv
  have Hlen := Lib.hid hlen
  have Hx := Lib.hid hx
  clear hcf hx' hlen hv hx
  have hmm := @run_makeMap Try.prog
  have hmk := make_words L.length hl
  rw [Hlen.out]
  go_enter Try.func16, Try.ntmps16
  go_wp2_with (go_at_call 43; refine Hc.out.mono ?_; rintro e w' ⟨rfl, rfl⟩)
  have hW : Sat ((((w.alloc (.map #[] 0)).alloc (.cells (madeCells #[.int .i64 0, .int .i64 0] (L.length * 2)) 88)).alloc (.map #[] 0)).alloc
      (.cells #[.map (some w.heap.size), .slice (some ⟨w.heap.size + 1, 0, none⟩) L.length L.length, .map (some (w.heap.size + 1 + 1))] 85))
      (newRes L [] (w.heap.size + 1 + 1 + 1) w.heap.size (w.heap.size + 1 + 1) (.slice (some ⟨w.heap.size + 1, 0, none⟩) L.length L.length) [] ++ Rs) := by
    have g1 := hS.mp_new encW
    have g2 := g1.sl_made (e := 88) (size := 2) (n := L.length) (cap := L.length) (cur := madeCells #[.int .i64 0, .int .i64 0] (L.length * 2)) (xs := rowC (wsof L [])) (Nat.le_refl _) (by unfold maxLen; omega) (by rw [rowC_length, wsof_length]) (by rw [size_madeCells]; omega)
      (fun j u hu => by rw [← Array.getElem?_toList, madeRow]; exact hu)
    have g3 := g2.mp_new encW
    have g4 := g3.alloc (.cells #[.map (some w.heap.size), .slice (some ⟨w.heap.size + 1, 0, none⟩) L.length L.length, .map (some (w.heap.size + 1 + 1))] 85)
    simp only [World.size_alloc] at g4
    exact Sat.perm (As := [_, _, _, _]) g4 [0, 3, 2, 1] _ rfl (by simp)
  generalize ((((w.alloc (.map #[] 0)).alloc (.cells (madeCells #[.int .i64 0, .int .i64 0] (L.length * 2)) 88)).alloc (.map #[] 0)).alloc
      (.cells #[.map (some w.heap.size), .slice (some ⟨w.heap.size + 1, 0, none⟩) L.length L.length, .map (some (w.heap.size + 1 + 1))] 85)) = W at hW ⊢
  generalize w.heap.size + 1 + 1 + 1 = c at hW ⊢
  generalize w.heap.size + 1 + 1 = m2 at hW ⊢
  generalize w.heap.size + 1 = b at hW ⊢
  generalize w.heap.size = m1 at hW ⊢
  clear hmm hmk
  go_loopw [5, 6, 7] (fun next free n wr => OutRel L Rs c m1 m2 b next free n wr) (fun _ _ n _ => 17 - (intOf n).toNat)
  case atStart => exact ⟨0, 0, 1, by omega, fun m hm => by obtain rfl : m = 0 := by omega
                                                           simp [ends], rfl, by unfold Hid; simp, by omega, by omega, by omega, rfl, rfl, rfl, hW⟩
  case round =>
    obtain ⟨k, x, f, hk, he, Hx1, Hf1, hx1, hf1, hf2, rfl, rfl, rfl, hS1⟩ := hrel
    have He := Lib.hid he
    clear he
    by_cases hlt : k < 15
    · have hd15 : decide ((k : Int) + 1 ≤ 15) = true := decide_eq_true (by omega)
      go_wp2
      go_loopw [5, 6, 36] (fun next free i wr => InRel L Rs c m1 m2 b k next free i wr) (fun _ _ i _ => L.length - (intOf i).toNat)
      case atStart =>
        refine ⟨0, 2 * x, 2 * f, by omega, ?_, ?_, by omega, by omega, by omega, rfl, vi (by omega), vi (by omega), ?_⟩
        · unfold Hid; rw [Hx1.out]; simp [rank, symsOf]
        · unfold Hid; rw [Hf1.out]; simp [Int.pow_succ]; omega
        · simpa [symsOf] using hS1
      case round =>
        obtain ⟨s, y, g, hs, Hy, Hg, hy, hg1, hg2, rfl, rfl, rfl, hS2⟩ := hrel
        by_cases hlt2 : s < L.length
        · obtain ⟨ao', cap', heq, -, -, hc⟩ := (Hv.out wr (Sat.perm (As := newRes L _ c m1 m2 _ _) (Bs := []) hS2 [] rfl (by simp))).cell
          simp only [Value.slice.injEq] at heq
          obtain ⟨rfl, -, rfl⟩ := heq
          obtain ⟨ba, oa, rfl, -, hcs⟩ := hc s (by rw [Hlen.out]; exact hlt2)
          have hLs : (natsV L)[s]'(by rw [Hlen.out]; exact hlt2) = (L[s] : Nat) := by simp [natsV]
          rw [hLs] at hcs
          have hx15 := Hx.out L[s] (List.getElem_mem _)
          clear hc hLs
          by_cases hn : L[s] = k + 1
          · have Hn := Lib.hid hn
            have hne : (((L[s] : Nat) : Int) != (k : Int) + 1) = false := by simp; omega
            clear hn
            go_wp2_with (go_at_call 45; rw [show ((k : Int) + 1) = ((k + 1 : Nat) : Int) by omega]; refine (turned_any y (k + 1) _ (by omega) (by omega)).mono ?_; rintro e w' ⟨rfl, rfl⟩)
            have hz := rev_lt (k + 1) y
            have hpk1 : 2 ^ (k + 1) ≤ 2 ^ 15 := Nat.pow_le_pow_right (by omega) (by omega)
            obtain ⟨z, Hz⟩ : ∃ z, Hid (z = rev (k + 1) y) := ⟨_, rfl⟩
            rw [← Hz.out] at hz ⊢
            have hz15 : z < 32768 := by omega
            clear hz hpk1
            have hA := hS2.alloc (.cells #[.int .i64 ((k : Int) + 1), .int .i64 (z : Nat)] 88)
            have hwb : wr.heap.size < (wr.alloc (.cells #[.int .i64 ((k : Int) + 1), .int .i64 (z : Nat)] 88)).heap.size := by simp
            have hblk := (hA.at_ 0 _ rfl).choose_spec.2
            have hcb := (hA.at_ 1 _ rfl).choose_spec.2
            obtain ⟨es, cl, u, st, es', hme, hes, hma⟩ := run_entry_enc keyW (hA.front 2 _ rfl).mp_at 81 3 Try.underlying81 (.int .i64 0) (fun w => by kernel_rfl) (k + 1, z) (.int .i64 (s : Nat))
            have hsl := (hA.front 3 _ rfl).sl_cells (by omega)
            generalize (wr.alloc (.cells #[.int .i64 ((k : Int) + 1), .int .i64 (z : Nat)] 88)) = WA at hA hwb hblk hcb hme hes hma hsl ⊢
            generalize wr.heap.size = wb at hA hwb hblk ⊢
            obtain ⟨b0, off0, cap0, heq, -, -, hbW, hbc, hbf⟩ := hsl
            simp only [Value.slice.injEq, Option.some.injEq, Addr.mk.injEq, and_true, true_and] at heq
            obtain ⟨⟨rfl, rfl⟩, rfl⟩ := heq
            have hr0 := hbc (s * 2) _ (rowC_get _ s (by rw [wsof_length]; exact hlt2)).1
            have hr1 := hbc (s * 2 + 1) _ (rowC_get _ s (by rw [wsof_length]; exact hlt2)).2
            have hf0 := hbf (s * 2)
            have hf1' := hbf (s * 2 + 1)
            simp only [Nat.zero_add] at hr0 hr1 hf0 hf1'
            have q0 : WA.cell? ⟨c, 0, none⟩ = some (.map (some m1)) := by rw [cell_of_row WA c 0 _ _ _ hcb]; rfl
            have q1 : WA.cell? ⟨c, 1, none⟩ = some (.slice (some ⟨b, 0, none⟩) L.length L.length) := by rw [cell_of_row WA c 1 _ _ _ hcb]; rfl
            have q2 : WA.cell? ⟨wb, 0, none⟩ = some (.int .i64 ((k : Int) + 1)) := by rw [cell_of_row WA wb 0 _ _ _ hblk]; rfl
            have q3 : WA.cell? ⟨wb, 1, none⟩ = some (.int .i64 (z : Nat)) := by rw [cell_of_row WA wb 1 _ _ _ hblk]; rfl
            have nbc : b ≠ c := hA.apart 3 1 rfl rfl (by omega) (sl_owns _ _ _ _ _ _ _ (by omega)) (blk_owns _ _)
            have nbw : b ≠ wb := hA.apart 3 0 rfl rfl (by omega) (sl_owns _ _ _ _ _ _ _ (by omega)) (blk_owns _ _)
            have Hma := Lib.hid hma
            have hm1 := (hA.front 2 _ rfl).mp_at
            obtain ⟨-, es0, c0, hm1h, -⟩ := hm1
            have hme' : (Instr.mapEntry 81 (.map (some m1)) (.agg #[.int .i64 ((k : Int) + 1), .int .i64 (z : Nat)])).run Try.prog WA.drew = .ok (.tuple #[u, .int .i64 st]) (putMap WA.drew m1 es cl) := hme WA.drew rfl
            have hes' : (Instr.entryStore 81 (.map (some m1)) (.int .i64 st) (.int .i64 (s : Nat))).run Try.prog (putMap WA.drew m1 es cl) = .ok () (putMap WA.drew m1 es' cl) := by
              rw [hes (putMap WA.drew m1 es cl) (putMap_heap WA.drew m1 es cl hm1h), putMap_twice]
            have Hm1 := Lib.hid hm1h
            clear hbc hbf hma hme hes hm1h
            have hs0 : (0 : Int) ≤ (s : Int) := by omega
            have hs1 : (s : Int) < (L.length : Int) := by omega
            go_region_held3 (fun w' => w'.cell? ⟨c, 0, none⟩ = some (.map (some m1)) ∧ w'.cell? ⟨c, 1, none⟩ = some (.slice (some ⟨b, 0, none⟩) L.length L.length) ∧ w'.cell? ⟨wb, 0, none⟩ = some (.int .i64 ((k : Int) + 1)) ∧ w'.cell? ⟨wb, 1, none⟩ = some (.int .i64 (z : Nat))) (go_keep) (fail)
            have hwd : wd L s = (k + 1, z) := by
              rw [wd_eq L s k (by rw [List.getElem?_eq_getElem hlt2, Hn.out]), Hz.out, ← Hy.out]
            have hB : Sat (((putMap WA.drew m1 es' cl).setCell ⟨b, s * 2, none⟩ (.int .i64 ((k : Int) + 1))).setCell ⟨b, s * 2 + 1, none⟩ (.int .i64 (z : Nat)))
                (blk wb (.cells #[.int .i64 ((k : Int) + 1), .int .i64 (z : Nat)] 88) :: (newRes L ((ord L k ++ symsOf L (k + 1) s) ++ [s]) c m1 m2 (.slice (some ⟨b, 0, none⟩) L.length L.length) (begs (k + 1, z) (D2of L (ord L k ++ symsOf L (k + 1) s)) 0) ++ Rs)) := by
              have r1 := (Sat.perm (As := [_, _, _, _, _]) hA.drew [2, 0, 1, 3, 4] [_, _, _, _, _] rfl (by simp))
              have r2 := r1.mp_put es' cl (Hma.out _ (putMap_heap WA.drew m1 es' cl Hm1.out))
              have r3 := (Sat.perm (As := [_, _, _, _, _]) r2 [3, 0, 1, 2, 4] [_, _, _, _, _] rfl (by simp))
              have r4 := (r3.sl_set (s * 2) (by rw [rowC_length, wsof_length]; omega) (.int .i64 ((k : Int) + 1))).sl_set (s * 2 + 1) (by rw [List.length_set, rowC_length, wsof_length]; omega) (.int .i64 (z : Nat))
              have e := rowC_set (wsof L (ord L k ++ symsOf L (k + 1) s)) s (k + 1, z) (by rw [wsof_length]; exact hlt2)
              simp only [Int.natCast_add, Int.natCast_one] at e
              rw [e] at r4
              have r5 := (Sat.perm (As := [_, _, _, _, _]) r4 [2, 3, 1, 0, 4] [_, _, _, _, _] rfl (by simp))
              simp only [Nat.zero_add] at r5
              unfold newRes
              rw [D1of_snoc, wsof_snoc, hwd]
              exact r5
            clear hA hblk hcb hbW hr0 hr1 hf0 hf1' q0 q1 q2 q3 hme' hes' hwb
            generalize (((putMap WA.drew m1 es' cl).setCell ⟨b, s * 2, none⟩ (.int .i64 ((k : Int) + 1))).setCell ⟨b, s * 2 + 1, none⟩ (.int .i64 (z : Nat))) = WB at hB ⊢
            have Hwd := Lib.hid hwd
            clear hwd
            go_wp2
            go_loopw [65] (fun i wq => ∃ j : Nat, j ≤ k + 1 ∧ i = .int .i64 (j : Nat) ∧ Sat wq (blk wb (.cells #[.int .i64 ((k : Int) + 1), .int .i64 (z : Nat)] 88) :: (newRes L ((ord L k ++ symsOf L (k + 1) s) ++ [s]) c m1 m2 (.slice (some ⟨b, 0, none⟩) L.length L.length) (begs (k + 1, z) (D2of L (ord L k ++ symsOf L (k + 1) s)) j) ++ Rs)))
              (fun i _ => k + 1 - (intOf i).toNat)
            case atStart => exact ⟨0, by omega, rfl, hB⟩
            case round =>
              obtain ⟨j, hj, rfl, hS3⟩ := hrel
              by_cases hj2 : j < k + 1
              · have hblk := (hS3.at_ 0 _ rfl).choose_spec.2
                have hcb := (hS3.at_ 1 _ rfl).choose_spec.2
                obtain ⟨es2, cl2, hmu, hma2⟩ := run_mapUpdate_enc keyW (hS3.drew.front 4 _ rfl).mp_at 83 4 Try.underlying83 (j, z % 2 ^ j) (.bool true)
                have q0 : wr.cell? ⟨c, 2, none⟩ = some (.map (some m2)) := by rw [cell_of_row wr c 2 _ _ _ hcb]; rfl
                have q3 : wr.cell? ⟨wb, 1, none⟩ = some (.int .i64 (z : Nat)) := by rw [cell_of_row wr wb 1 _ _ _ hblk]; rfl
                have hmu' : (Instr.mapUpdate 83 (.map (some m2)) (.agg #[.int .i64 (j : Nat), .int .i64 (bits .and .i64 (z : Int) (IntKind.i64.wrap (IntKind.i64.wrap (2 ^ min (IntKind.u64.wrap (j : Int)).toNat 64) - 1)))]) (.bool true)).run Try.prog wr.drew = .ok () (putMap wr.drew m2 es2 cl2) := by
                  rw [mask_var z j (by omega) (by omega)]; exact hmu
                have Hma2 := Lib.hid hma2
                clear hmu
                clear hblk hcb hma2
                go_wp2_with fail
                go_region_held3 (fun w' => w'.cell? ⟨c, 2, none⟩ = some (.map (some m2)) ∧ w'.cell? ⟨wb, 1, none⟩ = some (.int .i64 (z : Nat))) (go_keep) (fail)
                go_wp2
                refine ⟨⟨j + 1, by omega, vi (by omega), ?_⟩, by simp [intOf]; omega⟩
                have r1 := (Sat.perm (As := [_, _, _, _, _]) hS3.drew [4, 0, 1, 2, 3] [_, _, _, _, _] rfl (by simp))
                have r2 := r1.mp_put es2 cl2 Hma2.out
                rw [begs_succ]
                exact (Sat.perm (As := [_, _, _, _, _]) r2 [1, 2, 3, 4, 0] [_, _, _, _, _] rfl (by simp))
              · obtain rfl : j = k + 1 := by omega
                go_wp2
                have e : L[s]? = some (k + 1) := by rw [List.getElem?_eq_getElem hlt2, Hn.out]
                refine ⟨⟨s + 1, y + 1, g - 1, by omega, ?_, ?_, by omega, by omega, by omega, vi (by omega), vi (by omega), vi (by omega), ?_⟩, by simp [intOf]; omega⟩
                · unfold Hid
                  rw [Hy.out, rank_succ, if_pos e]; rfl
                · unfold Hid
                  rw [Hg.out]; omega
                · rw [symsOf_succ, if_pos e]
                  have r1 := hS3.tail
                  rw [← List.append_assoc, D2of_snoc, Hwd.out]
                  exact r1
          · have Hn := Lib.hid hn
            have hne : (((L[s] : Nat) : Int) != (k : Int) + 1) = true := by simp; omega
            clear hn
            go_wp2
            refine ⟨⟨s + 1, y, g, by omega, ?_, Hg, by omega, by omega, by omega, vi (by omega), rfl, rfl, ?_⟩, by simp [intOf]; omega⟩
            · unfold Hid
              have e : L[s]? ≠ some (k + 1) := by rw [List.getElem?_eq_getElem hlt2]; simpa using Hn.out
              rw [Hy.out, rank_succ, if_neg e]; rfl
            · rw [symsOf_succ, if_neg]
              · exact hS2
              · rw [List.getElem?_eq_getElem hlt2]; simpa using Hn.out
        · obtain rfl : s = L.length := by omega
          have hend : y = ends L (k + 1) := by rw [Hy.out]; rfl
          by_cases hg0 : g < 0
          · have hno : ¬ okL L := by
              rintro ⟨h, -⟩
              have h2 := h (k + 1) (by omega)
              rw [← hend] at h2
              have h3 := Hg.out
              have e2 : ((2 : Int) ^ (k + 1)) = ((2 ^ (k + 1) : Nat) : Int) := by simp
              rw [e2] at h3
              omega
            have Hno := Lib.hid hno
            clear hno hend
            go_wp2
            go_ret2
            exact .inr ⟨Hno.out, rfl, Sat.perm (As := newRes L _ c m1 m2 _ _) (Bs := []) hS2 [] rfl (by simp)⟩
          · have hle : y ≤ 2 ^ (k + 1) := by
              have h3 := Hg.out
              have e2 : ((2 : Int) ^ (k + 1)) = ((2 ^ (k + 1) : Nat) : Int) := by simp
              rw [e2] at h3
              omega
            have hpk : 2 ^ (k + 1) ≤ 2 ^ 15 := Nat.pow_le_pow_right (by omega) (by omega)
            have hy15 : y ≤ 32768 := by omega
            have hg15 : g ≤ 32768 := by
              have h3 := Hg.out
              have e2 : ((2 : Int) ^ (k + 1)) = ((2 ^ (k + 1) : Nat) : Int) := by simp
              rw [e2] at h3
              omega
            have Hend := Lib.hid hend
            have Hle := Lib.hid hle
            clear hend hle hpk
            go_wp2
            refine ⟨⟨k + 1, y, g, by omega, ?_, Hend.out, Hg, hy15, by omega, hg15, vi (by omega), rfl, rfl, hS2⟩, by simp [intOf]; omega⟩
            intro m hm
            by_cases hmk : m = k + 1
            · subst hmk; rw [← Hend.out]; exact Hle.out
            · exact He.out m (by omega)
    · obtain rfl : k = 15 := by omega
      have hcb := (hS1.at_ 0 _ rfl).choose_spec.2
      have q0 : wr.cell? ⟨c, 0, none⟩ = some (.map (some m1)) := by rw [cell_of_row wr c 0 _ _ _ hcb]; rfl
      have hln := run_len_mp (P := Try.prog) (hS1.front 1 _ rfl).mp_at 81 _ _ Try.underlying81
      have hfin : ∀ (h : okL L), NewPost L Rs (.returned (.tuple #[.pointer (some ⟨c, 0, none⟩), .int .i64 0])) wr := by
        intro h
        refine .inl ⟨h, c, rfl, ?_⟩
        exact Sat.ex_in (m1, m2, .slice (some ⟨b, 0, none⟩) L.length L.length) hS1.bag_in
      have hno : ∀ (h : ¬ okL L), NewPost L Rs (.returned (.tuple #[.pointer none, .int .i64 5])) wr := fun h => .inr ⟨h, rfl, Sat.perm (As := newRes L _ c m1 m2 _ _) (Bs := []) hS1 [] rfl (by simp)⟩
      have hend : ends L 15 = 2 ^ 15 ↔ f = 0 := by
        have h3 := Hf1.out
        rw [← Hx1.out]
        have e2 : ((2 : Int) ^ 15) = ((2 ^ 15 : Nat) : Int) := by simp
        rw [e2] at h3
        omega
      have hco := contains_any 1 _ _ wr (Hv.out wr (Sat.perm (As := newRes L _ c m1 m2 _ _) (Bs := []) hS1 [] rfl (by simp)))
      obtain ⟨n, Hn⟩ : ∃ n, Hid (n = (D1of L (ord L 15)).length) := ⟨_, rfl⟩
      rw [← Hn.out] at hln
      have Hco := Lib.hid hco
      have Hfin := Lib.hid hfin
      have Hno := Lib.hid hno
      have Hend := Lib.hid hend
      clear hco hfin hno hend hcb
      by_cases hf0 : f = 0
      · have hok : okL L := ⟨He.out, .inl (Hend.out.2 hf0)⟩
        subst hf0
        have Hok := Lib.hid hok
        clear hok
        go_wp2
        go_ret2
        exact Hfin.out Hok.out
      · have hne : ends L 15 ≠ 2 ^ 15 := fun h => hf0 (Hend.out.1 h)
        have Hne := Lib.hid hne
        have hfp : 0 < f := by omega
        clear hne hf0
        rcases Nat.lt_trichotomy n 1 with hn1 | rfl | hn1
        · obtain rfl : n = 0 := by omega
          go_wp2
          go_ret2
          exact Hfin.out ⟨He.out, .inr (.inl Hn.out.symm)⟩
        · by_cases hmem : 1 ∈ L
          · have hd : decide ((1 : Int) ∈ natsV L) = true := decide_eq_true (List.mem_map.2 ⟨1, hmem, rfl⟩)
            have Hd := Lib.hid hd
            have Hm := Lib.hid hmem
            clear hd hmem
            go_wp2_with (go_at_call 46; refine Hco.out.mono ?_; rw [Hd.out]; rintro e w' ⟨rfl, rfl⟩)
            go_ret2
            exact Hfin.out ⟨He.out, .inr (.inr ⟨Nat.le_of_eq Hn.out.symm, Hm.out⟩)⟩
          · have hd : decide ((1 : Int) ∈ natsV L) = false := by
              rw [decide_eq_false_iff_not]
              intro h
              obtain ⟨x, h1, h2⟩ := List.mem_map.1 h
              obtain rfl : x = 1 := by omega
              exact hmem h1
            have Hd := Lib.hid hd
            have Hm := Lib.hid hmem
            clear hd hmem
            go_wp2_with (go_at_call 46; refine Hco.out.mono ?_; rw [Hd.out]; rintro e w' ⟨rfl, rfl⟩)
            go_ret2
            refine Hno.out ?_
            rintro ⟨-, h | h | h⟩
            · exact Hne.out h
            · rw [← Hn.out] at h; omega
            · exact Hm.out h.2
        · go_wp2
          go_ret2
          refine Hno.out ?_
          rintro ⟨-, h | h | h⟩
          · exact Hne.out h
          · rw [← Hn.out] at h; omega
          · have := h.1; rw [← Hn.out] at this; omega

end Go.Proofs.Ytobkmkdnkdbgeaa
