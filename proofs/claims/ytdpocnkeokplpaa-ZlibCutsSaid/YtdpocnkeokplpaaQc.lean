/- huff.New: its walk. huff: Word and Next: their walks. A range over a function, as a law of owned memory; a region in a round. slices.SortStableFunc at huff's parcels: insertion. -/
import Derived.Test.YtdpocnkeokplpaaQb
import Derived.Deep.LoopGhost
import Derived.Test.YtdpocnkeokplpaaQa
import Derived.RangeFuncWrites
import Derived.RangeFuncCalls
import Derived.RangeFuncLeaves
import Derived.Shelf.Abstract
import Derived.OwnWalkIn
import Derived.TacticsInMore
import Derived.LoopNIn
import Derived.LoopIn
import Derived.OrdersHeld
import Derived.OrdersIn
import Derived.Deep.RegionHeld
import Derived.Deep.RegionHeld3
namespace Go.Proofs.Ytdpocnkeokplpaa
open Go.RowKit Go.Hal
set_option linter.unusedVariables false
set_option linter.unusedSimpArgs false

def natsV (L : List Nat) : List Int := L.map fun n : Nat => (n : Int)

set_option maxRecDepth 100000 in
set_option maxHeartbeats 400000 in
/-- Lengths that may not be. -/
theorem new_bad {w : World} {Rs : List Res} (hS : Sat w Rs) (v : Value) (xs : List Int) (hv : IntsR w v xs) (hx : 288 < xs.length ∨ ∃ x ∈ xs, x < 0 ∨ 15 < x) :
    Calls Try.prog 74 #[v] w fun e w' => e = .returned (.tuple #[.pointer none, .int .i64 1]) ∧ w = w' := by
  obtain ⟨ao, cap, rfl, h1, h2, -⟩ := hv.cell
  have hc := containsFunc_any _ xs w hv
  by_cases hl : 288 < xs.length
  · clear hc
    go_enter Try.func74, Try.ntmps74
    go_wp2
    go_ret2
    exact ⟨rfl, rfl⟩
  · have hx' : decide (∃ x ∈ xs, x < 0 ∨ 15 < x) = true := decide_eq_true (hx.resolve_left hl)
    rw [hx'] at hc
    have Hc := Lib.hid hc
    clear hc hx hx'
    go_enter Try.func74, Try.ntmps74
    go_wp2_with (go_at_call 99; refine Hc.out.mono ?_; rintro e w' ⟨rfl, rfl⟩)
    go_ret2
    exact ⟨rfl, rfl⟩

/-- Round k's head: all words of length k or less are laid. -/
def OutRel (L : List Nat) (Rs : List Res) (c m1 m2 b : Nat) (next free n : Value) (wr : World) : Prop :=
  ∃ k x f, k ≤ 15 ∧ (∀ m, m ≤ k → ends L m ≤ 2 ^ m) ∧ Hid (x = ends L k) ∧ Hid (f = (2 : Int) ^ k - (x : Nat)) ∧ x ≤ 32768 ∧ 0 ≤ f ∧ f ≤ 32768 ∧ n = .int .i64 ((k : Nat) + 1) ∧ next = .int .i64 (x : Nat) ∧ free = .int .i64 f ∧
    Sat wr (newRes L (ord L k) c m1 m2 (.slice (some ⟨b, 0, none⟩) L.length L.length) (D2of L (ord L k)) ++ Rs)

/-- .. within round k + 1, at symbol s. -/
def InRel (L : List Nat) (Rs : List Res) (c m1 m2 b k : Nat) (next free i : Value) (wr : World) : Prop :=
  ∃ s x f, s ≤ L.length ∧ Hid (x = 2 * ends L k + rank L (k + 1) s) ∧ Hid (f = (2 : Int) ^ (k + 1) - (x : Nat)) ∧ x ≤ 65536 + s ∧ -65536 - (s : Int) ≤ f ∧ f ≤ 65536 ∧ i = .int .i64 (s : Nat) ∧ next = .int .i64 (x : Nat) ∧ free = .int .i64 f ∧
    Sat wr (newRes L (ord L k ++ symsOf L (k + 1) s) c m1 m2 (.slice (some ⟨b, 0, none⟩) L.length L.length) (D2of L (ord L k ++ symsOf L (k + 1) s)) ++ Rs)

def NewPost (L : List Nat) (Rs : List Res) (e : Ending) (w' : World) : Prop :=
  (okL L ∧ ∃ c, e = .returned (.tuple #[.pointer (some ⟨c, 0, none⟩), .int .i64 0]) ∧ Sat w' (code c L :: Rs)) ∨
  (¬ okL L ∧ e = .returned (.tuple #[.pointer none, .int .i64 5]) ∧ Sat w' Rs)

attribute [local simp, local go_sem] putMap_cell putMap_frozen putMap_size heap_drew

set_option maxRecDepth 100000 in
set_option maxHeartbeats 1000000 in
theorem new_good {w : World} {Rs : List Res} (hS : Sat w Rs) (v : Value) (L : List Nat) (hv : ∀ w', Sat w' Rs → IntsR w' v (natsV L)) (hl : L.length ≤ 288) (hx : ∀ x ∈ L, x ≤ 15) :
    Calls Try.prog 74 #[v] w (NewPost L Rs) := by
  have hlen : (natsV L).length = L.length := by simp [natsV]
  have hcf := containsFunc_any _ _ w (hv w hS)
  have hx' : decide (∃ x ∈ natsV L, x < 0 ∨ 15 < x) = false := by
    rw [decide_eq_false_iff_not]
    rintro ⟨x, h1, h2⟩
    obtain ⟨n, h3, rfl⟩ := List.mem_map.1 h1
    have := hx n h3
    omega
  rw [hx'] at hcf
  have Hc := Lib.hid hcf
  obtain ⟨ao, cap, rfl, h1, h2, -⟩ := (hv w hS).cell
  rw [hlen] at Hc hv h1
  have Hv := Lib.hid hv
  have Hlen := Lib.hid hlen
  have Hx := Lib.hid hx
  clear hcf hx' hlen hv hx
  have hmm := @run_makeMap Try.prog
  have hmk := make_words L.length hl
  rw [Hlen.out]
  go_enter Try.func74, Try.ntmps74
  go_wp2_with (go_at_call 99; refine Hc.out.mono ?_; rintro e w' ⟨rfl, rfl⟩)
  have hW : Sat ((((w.alloc (.map #[] 0)).alloc (.cells (madeCells #[.int .i64 0, .int .i64 0] (L.length * 2)) 153)).alloc (.map #[] 0)).alloc
      (.cells #[.map (some w.heap.size), .slice (some ⟨w.heap.size + 1, 0, none⟩) L.length L.length, .map (some (w.heap.size + 1 + 1))] 150))
      (newRes L [] (w.heap.size + 1 + 1 + 1) w.heap.size (w.heap.size + 1 + 1) (.slice (some ⟨w.heap.size + 1, 0, none⟩) L.length L.length) [] ++ Rs) := by
    have g1 := hS.mp_new encW
    have g2 := g1.sl_made (e := 153) (size := 2) (n := L.length) (cap := L.length) (cur := madeCells #[.int .i64 0, .int .i64 0] (L.length * 2)) (xs := rowC (wsof L [])) (Nat.le_refl _) (by unfold maxLen; omega) (by rw [rowC_length, wsof_length]) (by rw [size_madeCells]; omega)
      (fun j u hu => by rw [← Array.getElem?_toList, madeRow]; exact hu)
    have g3 := g2.mp_new encW
    have g4 := g3.alloc (.cells #[.map (some w.heap.size), .slice (some ⟨w.heap.size + 1, 0, none⟩) L.length L.length, .map (some (w.heap.size + 1 + 1))] 150)
    simp only [World.size_alloc] at g4
    exact Sat.perm (As := [_, _, _, _]) g4 [0, 3, 2, 1] _ rfl (by simp)
  generalize ((((w.alloc (.map #[] 0)).alloc (.cells (madeCells #[.int .i64 0, .int .i64 0] (L.length * 2)) 153)).alloc (.map #[] 0)).alloc
      (.cells #[.map (some w.heap.size), .slice (some ⟨w.heap.size + 1, 0, none⟩) L.length L.length, .map (some (w.heap.size + 1 + 1))] 150)) = W at hW ⊢
  generalize w.heap.size + 1 + 1 + 1 = c at hW ⊢
  generalize w.heap.size + 1 + 1 = m2 at hW ⊢
  generalize w.heap.size + 1 = b at hW ⊢
  generalize w.heap.size = m1 at hW ⊢
  clear hmm hmk
  go_loopw [5, 6, 7] (fun next free n wr => OutRel L Rs c m1 m2 b next free n wr) (fun _ _ n _ => 17 - (intOf n).toNat)
  case atStart => exact ⟨0, 0, 1, by omega, fun m hm => by obtain rfl : m = 0 := by omega
                                                           simp [ends], rfl, by unfold Hid; simp, by omega, by omega, by omega, rfl, rfl, rfl, hW⟩
  case round =>
    obtain ⟨k, x, f, hk, he, Hx1, Hf1, hx1, hf1, hf2, rfl, rfl, rfl, hS1⟩ := hrel
    have He := Lib.hid he
    clear he
    by_cases hlt : k < 15
    · have hd15 : decide ((k : Int) + 1 ≤ 15) = true := decide_eq_true (by omega)
      go_wp2
      go_loopw [5, 6, 36] (fun next free i wr => InRel L Rs c m1 m2 b k next free i wr) (fun _ _ i _ => L.length - (intOf i).toNat)
      case atStart =>
        refine ⟨0, 2 * x, 2 * f, by omega, ?_, ?_, by omega, by omega, by omega, rfl, vi (by omega), vi (by omega), ?_⟩
        · unfold Hid; rw [Hx1.out]; simp [rank, symsOf]
        · unfold Hid; rw [Hf1.out]; simp [Int.pow_succ]; omega
        · simpa [symsOf] using hS1
      case round =>
        obtain ⟨s, y, g, hs, Hy, Hg, hy, hg1, hg2, rfl, rfl, rfl, hS2⟩ := hrel
        by_cases hlt2 : s < L.length
        · obtain ⟨ao', cap', heq, -, -, hc⟩ := (Hv.out wr (Sat.perm (As := newRes L _ c m1 m2 _ _) (Bs := []) hS2 [] rfl (by simp))).cell
          simp only [Value.slice.injEq] at heq
          obtain ⟨rfl, -, rfl⟩ := heq
          obtain ⟨ba, oa, rfl, -, hcs⟩ := hc s (by rw [Hlen.out]; exact hlt2)
          have hLs : (natsV L)[s]'(by rw [Hlen.out]; exact hlt2) = (L[s] : Nat) := by simp [natsV]
          rw [hLs] at hcs
          have hx15 := Hx.out L[s] (List.getElem_mem _)
          clear hc hLs
          by_cases hn : L[s] = k + 1
          · have Hn := Lib.hid hn
            have hne : (((L[s] : Nat) : Int) != (k : Int) + 1) = false := by simp; omega
            clear hn
            go_wp2_with (go_at_call 101; rw [show ((k : Int) + 1) = ((k + 1 : Nat) : Int) by omega]; refine (turned_any y (k + 1) _ (by omega) (by omega)).mono ?_; rintro e w' ⟨rfl, rfl⟩)
            have hz := rev_lt (k + 1) y
            have hpk1 : 2 ^ (k + 1) ≤ 2 ^ 15 := Nat.pow_le_pow_right (by omega) (by omega)
            obtain ⟨z, Hz⟩ : ∃ z, Hid (z = rev (k + 1) y) := ⟨_, rfl⟩
            rw [← Hz.out] at hz ⊢
            have hz15 : z < 32768 := by omega
            clear hz hpk1
            have hA := hS2.alloc (.cells #[.int .i64 ((k : Int) + 1), .int .i64 (z : Nat)] 153)
            have hwb : wr.heap.size < (wr.alloc (.cells #[.int .i64 ((k : Int) + 1), .int .i64 (z : Nat)] 153)).heap.size := by simp
            have hblk := (hA.at_ 0 _ rfl).choose_spec.2
            have hcb := (hA.at_ 1 _ rfl).choose_spec.2
            obtain ⟨es, cl, u, st, es', hme, hes, hma⟩ := run_entry_enc keyW (hA.front 2 _ rfl).mp_at 146 3 Try.underlying146 (.int .i64 0) (fun w => by kernel_rfl) (k + 1, z) (.int .i64 (s : Nat))
            have hsl := (hA.front 3 _ rfl).sl_cells (by omega)
            generalize (wr.alloc (.cells #[.int .i64 ((k : Int) + 1), .int .i64 (z : Nat)] 153)) = WA at hA hwb hblk hcb hme hes hma hsl ⊢
            generalize wr.heap.size = wb at hA hwb hblk ⊢
            obtain ⟨b0, off0, cap0, heq, -, -, hbW, hbc, hbf⟩ := hsl
            simp only [Value.slice.injEq, Option.some.injEq, Addr.mk.injEq, and_true, true_and] at heq
            obtain ⟨⟨rfl, rfl⟩, rfl⟩ := heq
            have hr0 := hbc (s * 2) _ (rowC_get _ s (by rw [wsof_length]; exact hlt2)).1
            have hr1 := hbc (s * 2 + 1) _ (rowC_get _ s (by rw [wsof_length]; exact hlt2)).2
            have hf0 := hbf (s * 2)
            have hf1' := hbf (s * 2 + 1)
            simp only [Nat.zero_add] at hr0 hr1 hf0 hf1'
            have q0 : WA.cell? ⟨c, 0, none⟩ = some (.map (some m1)) := by rw [cell_of_row WA c 0 _ _ _ hcb]; rfl
            have q1 : WA.cell? ⟨c, 1, none⟩ = some (.slice (some ⟨b, 0, none⟩) L.length L.length) := by rw [cell_of_row WA c 1 _ _ _ hcb]; rfl
            have q2 : WA.cell? ⟨wb, 0, none⟩ = some (.int .i64 ((k : Int) + 1)) := by rw [cell_of_row WA wb 0 _ _ _ hblk]; rfl
            have q3 : WA.cell? ⟨wb, 1, none⟩ = some (.int .i64 (z : Nat)) := by rw [cell_of_row WA wb 1 _ _ _ hblk]; rfl
            have nbc : b ≠ c := hA.apart 3 1 rfl rfl (by omega) (sl_owns _ _ _ _ _ _ _ (by omega)) (blk_owns _ _)
            have nbw : b ≠ wb := hA.apart 3 0 rfl rfl (by omega) (sl_owns _ _ _ _ _ _ _ (by omega)) (blk_owns _ _)
            have Hma := Lib.hid hma
            have hm1 := (hA.front 2 _ rfl).mp_at
            obtain ⟨-, es0, c0, hm1h, -⟩ := hm1
            have hme' : (Instr.mapEntry 146 (.map (some m1)) (.agg #[.int .i64 ((k : Int) + 1), .int .i64 (z : Nat)])).run Try.prog WA.drew = .ok (.tuple #[u, .int .i64 st]) (putMap WA.drew m1 es cl) := hme WA.drew rfl
            have hes' : (Instr.entryStore 146 (.map (some m1)) (.int .i64 st) (.int .i64 (s : Nat))).run Try.prog (putMap WA.drew m1 es cl) = .ok () (putMap WA.drew m1 es' cl) := by
              rw [hes (putMap WA.drew m1 es cl) (putMap_heap WA.drew m1 es cl hm1h), putMap_twice]
            have Hm1 := Lib.hid hm1h
            clear hbc hbf hma hme hes hm1h
            have hs0 : (0 : Int) ≤ (s : Int) := by omega
            have hs1 : (s : Int) < (L.length : Int) := by omega
            go_region_held3 (fun w' => w'.cell? ⟨c, 0, none⟩ = some (.map (some m1)) ∧ w'.cell? ⟨c, 1, none⟩ = some (.slice (some ⟨b, 0, none⟩) L.length L.length) ∧ w'.cell? ⟨wb, 0, none⟩ = some (.int .i64 ((k : Int) + 1)) ∧ w'.cell? ⟨wb, 1, none⟩ = some (.int .i64 (z : Nat))) (go_keep) (fail)
            have hwd : wd L s = (k + 1, z) := by
              rw [wd_eq L s k (by rw [List.getElem?_eq_getElem hlt2, Hn.out]), Hz.out, ← Hy.out]
            have hB : Sat (((putMap WA.drew m1 es' cl).setCell ⟨b, s * 2, none⟩ (.int .i64 ((k : Int) + 1))).setCell ⟨b, s * 2 + 1, none⟩ (.int .i64 (z : Nat)))
                (blk wb (.cells #[.int .i64 ((k : Int) + 1), .int .i64 (z : Nat)] 153) :: (newRes L ((ord L k ++ symsOf L (k + 1) s) ++ [s]) c m1 m2 (.slice (some ⟨b, 0, none⟩) L.length L.length) (begs (k + 1, z) (D2of L (ord L k ++ symsOf L (k + 1) s)) 0) ++ Rs)) := by
              have r1 := (Sat.perm (As := [_, _, _, _, _]) hA.drew [2, 0, 1, 3, 4] [_, _, _, _, _] rfl (by simp))
              have r2 := r1.mp_put es' cl (Hma.out _ (putMap_heap WA.drew m1 es' cl Hm1.out))
              have r3 := (Sat.perm (As := [_, _, _, _, _]) r2 [3, 0, 1, 2, 4] [_, _, _, _, _] rfl (by simp))
              have r4 := (r3.sl_set (s * 2) (by rw [rowC_length, wsof_length]; omega) (.int .i64 ((k : Int) + 1))).sl_set (s * 2 + 1) (by rw [List.length_set, rowC_length, wsof_length]; omega) (.int .i64 (z : Nat))
              have e := rowC_set (wsof L (ord L k ++ symsOf L (k + 1) s)) s (k + 1, z) (by rw [wsof_length]; exact hlt2)
              simp only [Int.natCast_add, Int.natCast_one] at e
              rw [e] at r4
              have r5 := (Sat.perm (As := [_, _, _, _, _]) r4 [2, 3, 1, 0, 4] [_, _, _, _, _] rfl (by simp))
              simp only [Nat.zero_add] at r5
              unfold newRes
              rw [D1of_snoc, wsof_snoc, hwd]
              exact r5
            clear hA hblk hcb hbW hr0 hr1 hf0 hf1' q0 q1 q2 q3 hme' hes' hwb
            generalize (((putMap WA.drew m1 es' cl).setCell ⟨b, s * 2, none⟩ (.int .i64 ((k : Int) + 1))).setCell ⟨b, s * 2 + 1, none⟩ (.int .i64 (z : Nat))) = WB at hB ⊢
            have Hwd := Lib.hid hwd
            clear hwd
            go_wp2
            go_loopw [65] (fun i wq => ∃ j : Nat, j ≤ k + 1 ∧ i = .int .i64 (j : Nat) ∧ Sat wq (blk wb (.cells #[.int .i64 ((k : Int) + 1), .int .i64 (z : Nat)] 153) :: (newRes L ((ord L k ++ symsOf L (k + 1) s) ++ [s]) c m1 m2 (.slice (some ⟨b, 0, none⟩) L.length L.length) (begs (k + 1, z) (D2of L (ord L k ++ symsOf L (k + 1) s)) j) ++ Rs)))
              (fun i _ => k + 1 - (intOf i).toNat)
            case atStart => exact ⟨0, by omega, rfl, hB⟩
            case round =>
              obtain ⟨j, hj, rfl, hS3⟩ := hrel
              by_cases hj2 : j < k + 1
              · have hblk := (hS3.at_ 0 _ rfl).choose_spec.2
                have hcb := (hS3.at_ 1 _ rfl).choose_spec.2
                obtain ⟨es2, cl2, hmu, hma2⟩ := run_mapUpdate_enc keyW (hS3.drew.front 4 _ rfl).mp_at 148 4 Try.underlying148 (j, z % 2 ^ j) (.bool true)
                have q0 : wr.cell? ⟨c, 2, none⟩ = some (.map (some m2)) := by rw [cell_of_row wr c 2 _ _ _ hcb]; rfl
                have q3 : wr.cell? ⟨wb, 1, none⟩ = some (.int .i64 (z : Nat)) := by rw [cell_of_row wr wb 1 _ _ _ hblk]; rfl
                have hmu' : (Instr.mapUpdate 148 (.map (some m2)) (.agg #[.int .i64 (j : Nat), .int .i64 (bits .and .i64 (z : Int) (IntKind.i64.wrap (IntKind.i64.wrap (2 ^ min (IntKind.u64.wrap (j : Int)).toNat 64) - 1)))]) (.bool true)).run Try.prog wr.drew = .ok () (putMap wr.drew m2 es2 cl2) := by
                  rw [mask_var z j (by omega) (by omega)]; exact hmu
                have Hma2 := Lib.hid hma2
                clear hmu
                clear hblk hcb hma2
                go_wp2_with fail
                go_region_held3 (fun w' => w'.cell? ⟨c, 2, none⟩ = some (.map (some m2)) ∧ w'.cell? ⟨wb, 1, none⟩ = some (.int .i64 (z : Nat))) (go_keep) (fail)
                go_wp2
                refine ⟨⟨j + 1, by omega, vi (by omega), ?_⟩, by simp [intOf]; omega⟩
                have r1 := (Sat.perm (As := [_, _, _, _, _]) hS3.drew [4, 0, 1, 2, 3] [_, _, _, _, _] rfl (by simp))
                have r2 := r1.mp_put es2 cl2 Hma2.out
                rw [begs_succ]
                exact (Sat.perm (As := [_, _, _, _, _]) r2 [1, 2, 3, 4, 0] [_, _, _, _, _] rfl (by simp))
              · obtain rfl : j = k + 1 := by omega
                go_wp2
                have e : L[s]? = some (k + 1) := by rw [List.getElem?_eq_getElem hlt2, Hn.out]
                refine ⟨⟨s + 1, y + 1, g - 1, by omega, ?_, ?_, by omega, by omega, by omega, vi (by omega), vi (by omega), vi (by omega), ?_⟩, by simp [intOf]; omega⟩
                · unfold Hid
                  rw [Hy.out, rank_succ, if_pos e]; rfl
                · unfold Hid
                  rw [Hg.out]; omega
                · rw [symsOf_succ, if_pos e]
                  have r1 := hS3.tail
                  rw [← List.append_assoc, D2of_snoc, Hwd.out]
                  exact r1
          · have Hn := Lib.hid hn
            have hne : (((L[s] : Nat) : Int) != (k : Int) + 1) = true := by simp; omega
            clear hn
            go_wp2
            refine ⟨⟨s + 1, y, g, by omega, ?_, Hg, by omega, by omega, by omega, vi (by omega), rfl, rfl, ?_⟩, by simp [intOf]; omega⟩
            · unfold Hid
              have e : L[s]? ≠ some (k + 1) := by rw [List.getElem?_eq_getElem hlt2]; simpa using Hn.out
              rw [Hy.out, rank_succ, if_neg e]; rfl
            · rw [symsOf_succ, if_neg]
              · exact hS2
              · rw [List.getElem?_eq_getElem hlt2]; simpa using Hn.out
        · obtain rfl : s = L.length := by omega
          have hend : y = ends L (k + 1) := by rw [Hy.out]; rfl
          by_cases hg0 : g < 0
          · have hno : ¬ okL L := by
              rintro ⟨h, -⟩
              have h2 := h (k + 1) (by omega)
              rw [← hend] at h2
              have h3 := Hg.out
              have e2 : ((2 : Int) ^ (k + 1)) = ((2 ^ (k + 1) : Nat) : Int) := by simp
              rw [e2] at h3
              omega
            have Hno := Lib.hid hno
            clear hno hend
            go_wp2
            go_ret2
            exact .inr ⟨Hno.out, rfl, Sat.perm (As := newRes L _ c m1 m2 _ _) (Bs := []) hS2 [] rfl (by simp)⟩
          · have hle : y ≤ 2 ^ (k + 1) := by
              have h3 := Hg.out
              have e2 : ((2 : Int) ^ (k + 1)) = ((2 ^ (k + 1) : Nat) : Int) := by simp
              rw [e2] at h3
              omega
            have hpk : 2 ^ (k + 1) ≤ 2 ^ 15 := Nat.pow_le_pow_right (by omega) (by omega)
            have hy15 : y ≤ 32768 := by omega
            have hg15 : g ≤ 32768 := by
              have h3 := Hg.out
              have e2 : ((2 : Int) ^ (k + 1)) = ((2 ^ (k + 1) : Nat) : Int) := by simp
              rw [e2] at h3
              omega
            have Hend := Lib.hid hend
            have Hle := Lib.hid hle
            clear hend hle hpk
            go_wp2
            refine ⟨⟨k + 1, y, g, by omega, ?_, Hend.out, Hg, hy15, by omega, hg15, vi (by omega), rfl, rfl, hS2⟩, by simp [intOf]; omega⟩
            intro m hm
            by_cases hmk : m = k + 1
            · subst hmk; rw [← Hend.out]; exact Hle.out
            · exact He.out m (by omega)
    · obtain rfl : k = 15 := by omega
      have hcb := (hS1.at_ 0 _ rfl).choose_spec.2
      have q0 : wr.cell? ⟨c, 0, none⟩ = some (.map (some m1)) := by rw [cell_of_row wr c 0 _ _ _ hcb]; rfl
      have hln := run_len_mp (P := Try.prog) (hS1.front 1 _ rfl).mp_at 146 _ _ Try.underlying146
      have hfin : ∀ (h : okL L), NewPost L Rs (.returned (.tuple #[.pointer (some ⟨c, 0, none⟩), .int .i64 0])) wr := by
        intro h
        refine .inl ⟨h, c, rfl, ?_⟩
        exact Sat.ex_in (m1, m2, .slice (some ⟨b, 0, none⟩) L.length L.length) hS1.bag_in
      have hno : ∀ (h : ¬ okL L), NewPost L Rs (.returned (.tuple #[.pointer none, .int .i64 5])) wr := fun h => .inr ⟨h, rfl, Sat.perm (As := newRes L _ c m1 m2 _ _) (Bs := []) hS1 [] rfl (by simp)⟩
      have hend : ends L 15 = 2 ^ 15 ↔ f = 0 := by
        have h3 := Hf1.out
        rw [← Hx1.out]
        have e2 : ((2 : Int) ^ 15) = ((2 ^ 15 : Nat) : Int) := by simp
        rw [e2] at h3
        omega
      have hco := contains_any 1 _ _ wr (Hv.out wr (Sat.perm (As := newRes L _ c m1 m2 _ _) (Bs := []) hS1 [] rfl (by simp)))
      obtain ⟨n, Hn⟩ : ∃ n, Hid (n = (D1of L (ord L 15)).length) := ⟨_, rfl⟩
      rw [← Hn.out] at hln
      have Hco := Lib.hid hco
      have Hfin := Lib.hid hfin
      have Hno := Lib.hid hno
      have Hend := Lib.hid hend
      clear hco hfin hno hend hcb
      by_cases hf0 : f = 0
      · have hok : okL L := ⟨He.out, .inl (Hend.out.2 hf0)⟩
        subst hf0
        have Hok := Lib.hid hok
        clear hok
        go_wp2
        go_ret2
        exact Hfin.out Hok.out
      · have hne : ends L 15 ≠ 2 ^ 15 := fun h => hf0 (Hend.out.1 h)
        have Hne := Lib.hid hne
        have hfp : 0 < f := by omega
        clear hne hf0
        rcases Nat.lt_trichotomy n 1 with hn1 | rfl | hn1
        · obtain rfl : n = 0 := by omega
          go_wp2
          go_ret2
          exact Hfin.out ⟨He.out, .inr (.inl Hn.out.symm)⟩
        · by_cases hmem : 1 ∈ L
          · have hd : decide ((1 : Int) ∈ natsV L) = true := decide_eq_true (List.mem_map.2 ⟨1, hmem, rfl⟩)
            have Hd := Lib.hid hd
            have Hm := Lib.hid hmem
            clear hd hmem
            go_wp2_with (go_at_call 102; refine Hco.out.mono ?_; rw [Hd.out]; rintro e w' ⟨rfl, rfl⟩)
            go_ret2
            exact Hfin.out ⟨He.out, .inr (.inr ⟨Nat.le_of_eq Hn.out.symm, Hm.out⟩)⟩
          · have hd : decide ((1 : Int) ∈ natsV L) = false := by
              rw [decide_eq_false_iff_not]
              intro h
              obtain ⟨x, h1, h2⟩ := List.mem_map.1 h
              obtain rfl : x = 1 := by omega
              exact hmem h1
            have Hd := Lib.hid hd
            have Hm := Lib.hid hmem
            clear hd hmem
            go_wp2_with (go_at_call 102; refine Hco.out.mono ?_; rw [Hd.out]; rintro e w' ⟨rfl, rfl⟩)
            go_ret2
            refine Hno.out ?_
            rintro ⟨-, h | h | h⟩
            · exact Hne.out h
            · rw [← Hn.out] at h; omega
            · exact Hm.out h.2
        · go_wp2
          go_ret2
          refine Hno.out ?_
          rintro ⟨-, h | h | h⟩
          · exact Hne.out h
          · rw [← Hn.out] at h; omega
          · have := h.1; rw [← Hn.out] at this; omega

end Go.Proofs.Ytdpocnkeokplpaa

namespace Go.Proofs.Ytdpocnkeokplpaa
open Go.RowKit Go.Hal
set_option linter.unusedVariables false
set_option linter.unusedSimpArgs false

theorem code_open {w : World} {c : Nat} {L : List Nat} {Rs : List Res} (hS : Sat w (code c L :: Rs)) : ∃ m1 m2 vw, Sat w (newRes L (ord L 15) c m1 m2 vw (D2of L (ord L 15)) ++ Rs) := by
  obtain ⟨⟨m1, m2, vw⟩, h⟩ := hS.ex_out
  exact ⟨m1, m2, vw, h.bag_out⟩
theorem code_shut {w : World} {c m1 m2 : Nat} {vw : Value} {L : List Nat} {Rs : List Res} (hS : Sat w (newRes L (ord L 15) c m1 m2 vw (D2of L (ord L 15)) ++ Rs)) : Sat w (code c L :: Rs) :=
  Sat.ex_in (m1, m2, vw) hS.bag_in

/-- A symbol's word, as the code has it. -/
def wordOf (L : List Nat) (s : Int) : Nat × Nat := if 0 ≤ s then ((wsof L (ord L 15))[s.toNat]?).getD (0, 0) else (0, 0)

set_option maxHeartbeats 400000 in
theorem word_nil (s : Int) (w : World) : Calls Try.prog 75 #[.pointer none, .int .i64 s] w fun e w' => e = .returned (.tuple #[.int .i64 0, .int .i64 0]) ∧ w = w' := by
  go_enter Try.func75, Try.ntmps75
  go_wp2
  go_ret2
  exact ⟨rfl, rfl⟩

theorem ret2_ints {k l : IntKind} {a b c d : Int} (h : a = b) (h2 : c = d) : Ending.returned (.tuple #[.int k a, .int l c]) = .returned (.tuple #[.int k b, .int l d]) := by rw [h, h2]

set_option maxHeartbeats 400000 in
theorem word_code {w : World} {c : Nat} {L : List Nat} {Rs : List Res} (hS : Sat w (code c L :: Rs)) (hl : L.length ≤ 288) (s : Int) :
    Calls Try.prog 75 #[.pointer (some ⟨c, 0, none⟩), .int .i64 s] w fun e w' => e = .returned (.tuple #[.int .i64 ((wordOf L s).2 : Nat), .int .i64 ((wordOf L s).1 : Nat)]) ∧ ∃ n, w' = w.drewN n := by
  obtain ⟨m1, m2, vw, h⟩ := code_open hS
  have hcb := (h.at_ 0 _ rfl).choose_spec.2
  have q1 : w.cell? ⟨c, 1, none⟩ = some vw := by rw [cell_of_row w c 1 _ _ _ hcb]; rfl
  have hsl := h.front 2 _ rfl
  obtain ⟨F, ao, cap, rfl, k1, k2, k3, k4⟩ := hsl.first
  have hlen := wsof_length L (ord L 15)
  by_cases hr : 0 ≤ s ∧ s < L.length
  · obtain ⟨hr0, hr1⟩ := hr
    obtain ⟨n, rfl⟩ := Int.eq_ofNat_of_zero_le hr0
    have hn : n < L.length := by omega
    have hw : wordOf L (n : Int) = (wsof L (ord L 15))[n]'(by rw [hlen]; exact hn) := by
      unfold wordOf
      simp [hlen, hn]
    obtain ⟨b, off, cap', heq, -, -, hb, hc, -⟩ := hsl.sl_cells (by omega)
    simp only [Value.slice.injEq, true_and] at heq
    obtain ⟨rfl, rfl⟩ := heq
    have g0 := hc (n * 2) _ (rowC_get _ n (by rw [hlen]; exact hn)).1
    have g1 := hc (n * 2 + 1) _ (rowC_get _ n (by rw [hlen]; exact hn)).2
    rw [← hw] at g0 g1
    rw [← Nat.add_assoc] at g1
    have hn1 : (n : Int) < (L.length : Int) := by omega
    have Hk2 := Lib.hid k2
    clear hsl h hS hc k4 k3 k2 hcb hw hlen
    generalize wordOf L (n : Int) = x at *
    go_enter Try.func75, Try.ntmps75
    go_wp2
    go_quiet (fail)
    go_wp2
    go_ret2
    exact ⟨rfl, nq, rfl⟩
  · have hw : wordOf L s = (0, 0) := by
      unfold wordOf
      by_cases h0 : 0 ≤ s
      · rw [if_pos h0, List.getElem?_eq_none (by rw [hlen]; omega)]; rfl
      · rw [if_neg h0]
    have Hw := Lib.hid hw
    clear hsl h hS k4 k3 hcb hw hlen
    by_cases h0 : s < 0
    · go_enter Try.func75, Try.ntmps75
      go_wp2
      go_ret2
      exact ⟨ret2_ints (by rw [Hw.out]; rfl) (by rw [Hw.out]; rfl), 0, rfl⟩
    · have h3 : (L.length : Int) ≤ s := by omega
      clear hr
      go_enter Try.func75, Try.ntmps75
      go_wp2
      go_ret2
      exact ⟨ret2_ints (by rw [Hw.out]; rfl) (by rw [Hw.out]; rfl), 0, rfl⟩

/-- What Next comes to from n bits on: the symbol, the error, the bits that are taken. -/
def nextFrom (D1 D2 : List ((Nat × Nat) × Value)) (l : List Bool) : Nat → Nat → Value × Nat × Nat
  | 0, _ => (.int .i64 0, if l.length = 0 then 2 else 6, 0)
  | f + 1, n => match has (n, num (l.take n)) D1 with
    | some v => (v, 0, n)
    | none => if 0 < n ∧ has (n, num (l.take n)) D2 = none then (.int .i64 0, 6, 0) else if l.length ≤ n then (.int .i64 0, 2, 0) else nextFrom D1 D2 l f (n + 1)

def NextPost (D1 D2 : List ((Nat × Nat) × Value)) (l : List Bool) (Rs : List Res) (r c : Nat) (L : List Nat) (x : Value × Nat × Nat) (e : Ending) (w' : World) : Prop :=
  e = .returned (.tuple #[x.1, .int .i64 (x.2.1 : Nat)]) ∧ Sat w' (rd r (l.drop x.2.2) :: code c L :: Rs)

theorem num_take_succ (l : List Bool) (n : Nat) (h : n < l.length) : num (l.take (n + 1)) = num (l.take n) ||| l[n].toNat * 2 ^ n := by
  rw [List.take_succ_eq_append_getElem h, ← num_or]
  simp only [List.length_take, Nat.min_eq_left (Nat.le_of_lt h)]
  cases l[n] <;> simp [num]

set_option maxRecDepth 100000 in
set_option maxHeartbeats 4000000 in
theorem next_code {w : World} {r c : Nat} {l : List Bool} {L : List Nat} {Rs : List Res} (hS : Sat w (rd r l :: code c L :: Rs)) (hD : ∀ k v, has k (D1of L (ord L 15)) = some v → ∃ i : Int, v = .int .i64 i) (hD2 : ∀ k v, has k (D2of L (ord L 15)) = some v → v = .bool true)
    (hDk : ∀ n v x, has (n, v) (D1of L (ord L 15)) = some x → n ≤ 32) :
    Calls Try.prog 89 #[.pointer (some ⟨c, 0, none⟩), .pointer (some ⟨r, 0, none⟩)] w (NextPost (D1of L (ord L 15)) (D2of L (ord L 15)) l Rs r c L (nextFrom (D1of L (ord L 15)) (D2of L (ord L 15)) l 16 0)) := by
  obtain ⟨m1, m2, vw, h⟩ := code_open (hS.swap)
  have hl := rd_len hS
  have HD := Lib.hid hD
  have HD2 := Lib.hid hD2
  have HDk := Lib.hid hDk
  clear hD hD2 hDk
  go_enter Try.func89, Try.ntmps89
  go_wp2
  have h0 : Sat (w.alloc (.cells #[.int .i64 0, .int .i64 0] 153)) (blk w.heap.size (.cells #[.int .i64 (0 : Nat), .int .i64 (0 : Nat)] 153 (0, 0)) :: (newRes L (ord L 15) c m1 m2 vw (D2of L (ord L 15)) ++ rd r l :: Rs)) := h.alloc _
  generalize (w.alloc (.cells #[.int .i64 0, .int .i64 0] 153)) = W at h0 ⊢
  generalize w.heap.size = wb at h0 ⊢
  go_loopg [4] 16 (fun g z wr => ∃ n v : Nat, g + n = 16 ∧ n ≤ l.length ∧ Hid (v = num (l.take n)) ∧ v < 65536 ∧ Hid (nextFrom (D1of L (ord L 15)) (D2of L (ord L 15)) l 16 0 = nextFrom (D1of L (ord L 15)) (D2of L (ord L 15)) l g n) ∧
    Sat wr (blk wb (.cells #[.int .i64 (n : Nat), .int .i64 (v : Nat)] 153 (0, 0)) :: (newRes L (ord L 15) c m1 m2 vw (D2of L (ord L 15)) ++ rd r l :: Rs)))
  case atStart => exact ⟨0, 0, by omega, by omega, rfl, by omega, rfl, h0⟩
  case round =>
    obtain ⟨n, v, hg, hnl, Hv, hv, HN, hS1⟩ := hrel
    have hblk := (hS1.at_ 0 _ rfl).choose_spec.2
    have hcb := (hS1.at_ 1 _ rfl).choose_spec.2
    have q0 : wr.cell? ⟨wb, 0, none⟩ = some (.int .i64 (n : Nat)) := by rw [cell_of_row wr wb 0 _ _ _ hblk]; rfl
    have q1 : wr.cell? ⟨wb, 1, none⟩ = some (.int .i64 (v : Nat)) := by rw [cell_of_row wr wb 1 _ _ _ hblk]; rfl
    have f0 := frozen_of_row wr wb 0 _ _ hblk
    have f1 := frozen_of_row wr wb 1 _ _ hblk
    have q2 : wr.cell? ⟨c, 0, none⟩ = some (.map (some m1)) := by rw [cell_of_row wr c 0 _ _ _ hcb]; rfl
    have q3 : wr.cell? ⟨c, 2, none⟩ = some (.map (some m2)) := by rw [cell_of_row wr c 2 _ _ _ hcb]; rfl
    clear hblk hcb
    by_cases hn16 : n < 16
    · have hd15 : decide ((n : Int) ≤ 15) = true := decide_eq_true (by omega)
      have hlk := run_lookup_enc keyW (hS1.drew.front 2 _ rfl).mp_at 146 3 Try.underlying146 (.int .i64 0) (fun w => by kernel_rfl) (n, v) true
      cases hh : has (n, v) (D1of L (ord L 15)) with
      | some x =>
        obtain ⟨i, rfl⟩ := HD.out _ _ hh
        simp only [hh, if_true, Option.getD_some, Option.isSome_some] at hlk
        have hlk' : (Instr.lookup 146 (.map (some m1)) (.agg #[.int .i64 (n : Nat), .int .i64 (v : Nat)]) true).run Try.prog wr.drew = .ok (.tuple #[.int .i64 i, .bool true]) wr.drew := hlk
        have hfin : nextFrom (D1of L (ord L 15)) (D2of L (ord L 15)) l 16 0 = (.int .i64 i, 0, n) := by
          rw [HN.out]
          obtain ⟨g', rfl⟩ : ∃ g', gk = g' + 1 := ⟨gk - 1, by omega⟩
          have hh' := hh
          rw [Hv.out] at hh'
          simp only [nextFrom, hh']
        have Hfin := Lib.hid hfin
        clear hlk hfin hh
        go_wp2_with fail
        go_region_held3 (fun w' => w'.cell? ⟨wb, 0, none⟩ = some (.int .i64 (n : Nat)) ∧ w'.cell? ⟨wb, 1, none⟩ = some (.int .i64 (v : Nat)) ∧ w'.cell? ⟨c, 0, none⟩ = some (.map (some m1)) ∧ w'.cell? ⟨c, 2, none⟩ = some (.map (some m2))) (go_keep) (fail)
        have g1 := (Sat.perm (As := [_, _, _, _, _, _]) hS1.drew [5, 1, 2, 3, 4] [_, _, _, _, _] rfl (by simp))
        go_wp2_with (go_at_call 48; refine (take_rd g1 n (by omega) hnl).mono ?_; rintro e w' ⟨rfl, g2⟩)
        go_ret2
        unfold NextPost
        rw [Hfin.out]
        exact ⟨rfl, (code_shut (Sat.perm (As := [_, _, _, _, _]) g2 [1, 2, 3, 4, 0] [_, _, _, _, _] rfl (by simp))).swap⟩
      | none =>
        simp only [hh, if_true, Option.getD_none, Option.isSome_none] at hlk
        have hlk' : (Instr.lookup 146 (.map (some m1)) (.agg #[.int .i64 (n : Nat), .int .i64 (v : Nat)]) true).run Try.prog wr.drew = .ok (.tuple #[.int .i64 0, .bool false]) wr.drew := hlk
        have hlk2 := fun k => run_lookup_enc keyW (hS1.drewN k |>.front 4 _ rfl).mp_at 148 4 Try.underlying148 (.bool false) (fun w => by kernel_rfl) (n, v) false
        obtain ⟨g', rfl⟩ : ∃ g', gk = g' + 1 := ⟨gk - 1, by omega⟩
        have hstep : nextFrom (D1of L (ord L 15)) (D2of L (ord L 15)) l (g' + 1) n = if 0 < n ∧ has (n, v) (D2of L (ord L 15)) = none then (.int .i64 0, 6, 0) else if l.length ≤ n then (.int .i64 0, 2, 0) else nextFrom (D1of L (ord L 15)) (D2of L (ord L 15)) l g' (n + 1) := by
          have hh' := hh
          rw [Hv.out] at hh'
          simp only [nextFrom, hh']
          rw [Hv.out]
        have Hstep := Lib.hid hstep
        have Hh := Lib.hid hh
        clear hlk hstep hh
        have hend : ∀ (k : Nat) (x : Value × Nat × Nat), x.2.2 = 0 → Sat (wr.drewN k) (rd r (l.drop x.2.2) :: code c L :: Rs) := by
          intro k x hx
          rw [hx]
          exact (code_shut (Sat.perm (As := [_, _, _, _, _, _]) (hS1.drewN k) [1, 2, 3, 4, 5] [_, _, _, _, _] rfl (by simp))).swap
        have Hend := Lib.hid hend
        clear hend
        by_cases hno : 0 < n ∧ has (n, v) (D2of L (ord L 15)) = none
        · have hfin : nextFrom (D1of L (ord L 15)) (D2of L (ord L 15)) l 16 0 = (.int .i64 0, 6, 0) := by rw [HN.out, Hstep.out, if_pos hno]
          obtain ⟨hn0, hh2⟩ := hno
          simp only [hh2, Option.getD_none] at hlk2
          have hlk2' : (Instr.lookup 148 (.map (some m2)) (.agg #[.int .i64 (n : Nat), .int .i64 (v : Nat)]) false).run Try.prog wr.drew.drew = .ok (.bool false) wr.drew.drew := hlk2 2
          have Hfin := Lib.hid hfin
          have hd0 : decide (0 < n) = true := decide_eq_true (by omega)
          clear hlk2 hfin hh2
          go_wp2_with fail
          go_region_held3 (fun w' => w'.cell? ⟨wb, 0, none⟩ = some (.int .i64 (n : Nat)) ∧ w'.cell? ⟨wb, 1, none⟩ = some (.int .i64 (v : Nat)) ∧ w'.cell? ⟨c, 0, none⟩ = some (.map (some m1)) ∧ w'.cell? ⟨c, 2, none⟩ = some (.map (some m2))) (go_keep) (fail)
          go_wp2_with fail
          go_region_held3 (fun w' => w'.cell? ⟨wb, 0, none⟩ = some (.int .i64 (n : Nat)) ∧ w'.cell? ⟨wb, 1, none⟩ = some (.int .i64 (v : Nat)) ∧ w'.cell? ⟨c, 0, none⟩ = some (.map (some m1)) ∧ w'.cell? ⟨c, 2, none⟩ = some (.map (some m2))) (go_keep) (fail)
          go_wp2
          go_ret2
          unfold NextPost
          rw [Hfin.out]
          exact ⟨rfl, Hend.out 2 (.int .i64 0, 6, 0) rfl⟩
        · have hs2 : nextFrom (D1of L (ord L 15)) (D2of L (ord L 15)) l 16 0 = if l.length ≤ n then (.int .i64 0, 2, 0) else nextFrom (D1of L (ord L 15)) (D2of L (ord L 15)) l g' (n + 1) := by rw [HN.out, Hstep.out, if_neg hno]
          have Hs2 := Lib.hid hs2
          clear hs2
          have hgd : ∃ b : Bool, decide (0 < n) = b ∧ (b = true → has (n, v) (D2of L (ord L 15)) = some (.bool true)) := by
            by_cases h0 : 0 < n
            · cases hh2 : has (n, v) (D2of L (ord L 15)) with
              | none => exact (hno ⟨h0, hh2⟩).elim
              | some x => rw [HD2.out _ _ hh2] ; exact ⟨true, decide_eq_true (by omega), fun _ => rfl⟩
            · exact ⟨false, decide_eq_false (by omega), fun h => by cases h⟩
          obtain ⟨b, hd0, hb⟩ := hgd
          have hlk2' : b = true → (Instr.lookup 148 (.map (some m2)) (.agg #[.int .i64 (n : Nat), .int .i64 (v : Nat)]) false).run Try.prog wr.drew.drew = .ok (.bool true) wr.drew.drew := by
            intro h
            have := hlk2 2
            simp only [hb h, Option.getD_some] at this
            exact this
          clear hlk2 hno hb
          by_cases hln : l.length ≤ n
          · have hfin : nextFrom (D1of L (ord L 15)) (D2of L (ord L 15)) l 16 0 = (.int .i64 0, 2, 0) := by rw [Hs2.out, if_pos hln]
            have Hfin := Lib.hid hfin
            have Hl := Lib.hid (look_none hln)
            clear hfin
            cases b
            · clear hlk2'
              go_wp2_with fail
              go_region_held3 (fun w' => w'.cell? ⟨wb, 0, none⟩ = some (.int .i64 (n : Nat)) ∧ w'.cell? ⟨wb, 1, none⟩ = some (.int .i64 (v : Nat)) ∧ w'.cell? ⟨c, 0, none⟩ = some (.map (some m1)) ∧ w'.cell? ⟨c, 2, none⟩ = some (.map (some m2))) (go_keep) (fail)
              go_wp2_with fail
              go_quiet (fail)
              go_wp2_with (go_at_call 105; refine (look_rd ((hS1.drewN _).front 5 _ rfl) n (by omega)).mono ?_; rw [Hl.out]; rintro e w' ⟨rfl, k2, rfl⟩)
              go_ret2
              unfold NextPost
              rw [Hfin.out]
              exact ⟨rfl, Hend.out _ (.int .i64 0, 2, 0) rfl⟩
            · have hlk3 := hlk2' rfl
              clear hlk2'
              go_wp2_with fail
              go_region_held3 (fun w' => w'.cell? ⟨wb, 0, none⟩ = some (.int .i64 (n : Nat)) ∧ w'.cell? ⟨wb, 1, none⟩ = some (.int .i64 (v : Nat)) ∧ w'.cell? ⟨c, 0, none⟩ = some (.map (some m1)) ∧ w'.cell? ⟨c, 2, none⟩ = some (.map (some m2))) (go_keep) (fail)
              go_wp2_with fail
              go_region_held3 (fun w' => w'.cell? ⟨wb, 0, none⟩ = some (.int .i64 (n : Nat)) ∧ w'.cell? ⟨wb, 1, none⟩ = some (.int .i64 (v : Nat)) ∧ w'.cell? ⟨c, 0, none⟩ = some (.map (some m1)) ∧ w'.cell? ⟨c, 2, none⟩ = some (.map (some m2))) (go_keep) (fail)
              go_wp2_with (go_at_call 105; refine (look_rd (hS1.drew.drew.front 5 _ rfl) n (by omega)).mono ?_; rw [Hl.out]; rintro e w' ⟨rfl, k2, rfl⟩)
              go_ret2
              unfold NextPost
              rw [Hfin.out]
              exact ⟨rfl, Hend.out _ (.int .i64 0, 2, 0) rfl⟩
          · have hln' : n < l.length := by omega
            have hl0 : look l n = (l[n].toNat : Int) := look_some hln'
            obtain ⟨d, Hd⟩ : ∃ d, Hid (d = l[n].toNat) := ⟨l[n].toNat, Lib.hid rfl⟩
            have hd2 : d < 2 := by rw [Hd.out]; cases l[n] <;> simp
            rw [← Hd.out] at hl0
            have Hl := Lib.hid hl0
            have Hv1 : Hid (v ||| d * 2 ^ n = num (l.take (n + 1))) := by
              unfold Hid
              rw [num_take_succ l n hln', Hv.out, Hd.out]
            have hv1 : v ||| d * 2 ^ n < 65536 := by
              rw [Hv1.out]
              exact num_take_lt l (n + 1) 16 (by omega)
            have Hfin : Hid (nextFrom (D1of L (ord L 15)) (D2of L (ord L 15)) l 16 0 = nextFrom (D1of L (ord L 15)) (D2of L (ord L 15)) l g' (n + 1)) := by
              unfold Hid
              rw [Hs2.out, if_neg hln]
            have hp : d * 2 ^ n < 2 ^ 63 := by
              have h1 : 2 ^ n ≤ 2 ^ 15 := Nat.pow_le_pow_right (by omega) (by omega)
              have h2 : d * 2 ^ n ≤ 1 * 2 ^ 15 := Nat.mul_le_mul (by omega) h1
              omega
            have Hor := Lib.hid (or_shl_i64 v d n (by omega) hp)
            clear hl0 hln hp
            have hdn : decide ((d : Int) < 0) = false := decide_eq_false (by omega)
            cases b
            · clear hlk2'
              go_wp2_with fail
              go_region_held3 (fun w' => w'.cell? ⟨wb, 0, none⟩ = some (.int .i64 (n : Nat)) ∧ w'.cell? ⟨wb, 1, none⟩ = some (.int .i64 (v : Nat)) ∧ w'.cell? ⟨c, 0, none⟩ = some (.map (some m1)) ∧ w'.cell? ⟨c, 2, none⟩ = some (.map (some m2))) (go_keep) (fail)
              go_wp2_with fail
              go_quiet (fail)
              go_wp2_with (go_at_call 105; refine (look_rd ((hS1.drewN _).front 5 _ rfl) n (by omega)).mono ?_; rw [Hl.out]; rintro e w' ⟨rfl, k2, rfl⟩)
              go_roundg g'
              case measure => omega
              case rel =>
                refine ⟨n + 1, v ||| d * 2 ^ n, by omega, by omega, Hv1, hv1, Hfin, ?_⟩
                rw [Hor.out]
                exact ((hS1.drewN _).setCell (i := 1) _).setCell (i := 0) _
            · have hlk3 := hlk2' rfl
              clear hlk2'
              go_wp2_with fail
              go_region_held3 (fun w' => w'.cell? ⟨wb, 0, none⟩ = some (.int .i64 (n : Nat)) ∧ w'.cell? ⟨wb, 1, none⟩ = some (.int .i64 (v : Nat)) ∧ w'.cell? ⟨c, 0, none⟩ = some (.map (some m1)) ∧ w'.cell? ⟨c, 2, none⟩ = some (.map (some m2))) (go_keep) (fail)
              go_wp2_with fail
              go_region_held3 (fun w' => w'.cell? ⟨wb, 0, none⟩ = some (.int .i64 (n : Nat)) ∧ w'.cell? ⟨wb, 1, none⟩ = some (.int .i64 (v : Nat)) ∧ w'.cell? ⟨c, 0, none⟩ = some (.map (some m1)) ∧ w'.cell? ⟨c, 2, none⟩ = some (.map (some m2))) (go_keep) (fail)
              go_wp2_with (go_at_call 105; refine (look_rd (hS1.drew.drew.front 5 _ rfl) n (by omega)).mono ?_; rw [Hl.out]; rintro e w' ⟨rfl, k2, rfl⟩)
              go_roundg g'
              case measure => omega
              case rel =>
                refine ⟨n + 1, v ||| d * 2 ^ n, by omega, by omega, Hv1, hv1, Hfin, ?_⟩
                rw [Hor.out]
                exact ((hS1.drewN _).setCell (i := 1) _).setCell (i := 0) _
    · obtain rfl : gk = 0 := by omega
      obtain rfl : n = 16 := by omega
      have hd15 : decide (((16 : Nat) : Int) ≤ 15) = false := by decide
      have hfin : nextFrom (D1of L (ord L 15)) (D2of L (ord L 15)) l 16 0 = (.int .i64 0, 6, 0) := by
        rw [HN.out]; simp only [nextFrom]; rw [if_neg (by omega)]
      have Hfin := Lib.hid hfin
      have hl0 : ((l.length : Int) == 0) = false := beq_eq_false_iff_ne.2 (by omega)
      clear hfin
      go_wp2_with (go_at_call 50; refine (have_rd (hS1.front 5 _ rfl)).mono ?_; rintro e w' ⟨rfl, k2, rfl⟩)
      go_ret2
      unfold NextPost
      rw [Hfin.out]
      exact ⟨rfl, (code_shut (Sat.perm (As := [_, _, _, _, _, _]) (hS1.drewN k2) [1, 2, 3, 4, 5] [_, _, _, _, _] rfl (by simp))).swap⟩

end Go.Proofs.Ytdpocnkeokplpaa

namespace Go.Hal
open Go.RowKit
set_option linter.unusedVariables false
variable {P : Program}

theorem Sat.putObj {w : World} {b : Nat} {o o' : Obj} {Rs : List Res} (hS : Sat w (blk b o :: Rs)) : Sat (w.putObj b o') (blk b o' :: Rs) := by
  refine hS.upd (fun F hF => ⟨⟨rfl, rfl, rfl, by simp, fun k hk hn => ?_⟩, fun F' h1 _ => ⟨h1 _ hF.1, ?_⟩⟩)
  · exact World.putObj_heap_other (by rintro rfl; exact hn hF.1)
  · exact World.putObj_heap_same (Array.getElem?_eq_some_iff.1 hF.2).1

/-- A function that is ranged over: it hands over xs, one by one; It is its own memory. -/
def SeqSat {α : Type} (P : Program) (gf : Nat) (lb : Array Value) (encs : α → Array Value) (xs : List α) (It : Res) : Prop :=
  ∀ (l : Nat) (J : List α → List Res) (Jx : List α → World → Prop) (w : World),
    (∀ pre x, (pre ++ [x]) <+: xs → ∀ W, Sat W (It :: J pre) → YieldAt Fence.wide 0 P l (encs x) W fun e W' =>
      (e = .returned (.bool true) ∧ Sat W' (It :: J (pre ++ [x]))) ∨ (e = .returned (.bool false) ∧ Jx (pre ++ [x]) W')) →
    Sat w (It :: J []) →
    CallsIn Fence.wide 0 P gf (#[.func (.yield l) #[] #[]] ++ lb) w fun e w' => (∃ v, e = .returned v) ∧ (Sat w' (It :: J xs) ∨ ∃ pre, pre <+: xs ∧ Jx pre w')

/-- The mark of a loop over a function. -/
def loopMark (D : Nat) : Deferred := { target := .collected D, args := #[] }
/-- The blocks of such marks. -/
def marks (ds : List Nat) : List Res := ds.map fun D => blk D (.deferred (some []))

/-- How a round's body may be left. -/
def satPost {α : Type} (J : List α → Res) (Jx : Code → List α → Res) (xs : List α) (Rs : List Res) : Exit → Act → World → Prop
  | .normal, _, W => Sat W (J xs :: Rs)
  | .ret, _, W => Sat W (Jx .ret xs :: Rs)
  | .exit id, _, W => Sat W (Jx (.exit id) xs :: Rs)
  | .goto t, _, W => Sat W (Jx (.goto t) xs :: Rs)
  | .panic _, _, _ => False
  | .outgrown, _, _ => False

theorem wp_rangeFunc_sat {α : Type} {g : Operand} {ps : Array Tmp} {assign body : Code} {Q : Exit → Act → World → Prop} {a : Act} {w : World}
    {gf : Nat} {lb : Array Value} (hg : a.eval g = .func (.func gf) #[] lb) (eg : ∀ args w, (callFunc gf args).run P w = .ok (.enter gf args) w)
    {encs : α → Array Value} {xs : List α} {It : Res} (hseq : SeqSat P gf lb encs xs It) (hps : ∀ x, (encs x).size = ps.size)
    (J : List α → Res) (Jx : Code → List α → Res) (hS : Sat w [It, J []]) (a₁ : α → Act)
    (hassign : ∀ (l : Nat) (x : α) (W : World) (K : Act → World → Prop), K (a₁ x) W →
      assign.wpIn (Fence.wide.inRound l) 0 P (Exit.then K (fun _ _ _ => False)) { tmps := (ps.zip (encs x)).foldl (fun t (p, v) => t.setIfInBounds p v) a.tmps, defers := [] } W)
    (hbody : ∀ (l : Nat) (pre : List α) (x : α), (pre ++ [x]) <+: xs → ∀ (W : World) (Rs : List Res), Sat W (J pre :: Rs) → body.wpIn (Fence.wide.inRound l) 0 P (satPost J Jx (pre ++ [x]) Rs) (a₁ x) W)
    (hdone : ∀ (D : Nat) (W : World), Sat W [blk D (.deferred (some [])), It, J xs] → Q .normal { a with defers := loopMark D :: a.defers } W)
    (hstop : ∀ (D : Nat) (c : Code) (pre : List α) (W : World), pre <+: xs → Sat W [blk D (.deferred (some [])), It, Jx c pre] → c.wp P Q { a with defers := loopMark D :: a.defers } W) :
    (Code.rangeFunc g ps assign body).wp P Q a w := by
  refine (wpIn_wide (n := 0)).1 (wpIn_rangeFunc ?_)
  intro fn hfn
  obtain ⟨rec, hrec⟩ : ∃ rec : LoopState → Option Code → Loop, rec = fun st pe => { state := st, pending := pe, fn, tmps := a.tmps, params := ps, assign, body, defers := w.heap.size } := ⟨_, rfl⟩
  obtain ⟨W1, hW1⟩ : ∃ W1, (w.alloc (.deferred (some []))).alloc (.loop (rec .ready none)) = W1 := ⟨_, rfl⟩
  have hS1 : Sat W1 [It, J [], blk (w.heap.size + 1) (.loop (rec .ready none)), blk w.heap.size (.deferred (some []))] := by
    rw [← hW1]
    have := (hS.alloc (.deferred (some []))).alloc (.loop (rec .ready none))
    rw [World.size_alloc] at this
    exact this.pick [2, 3, 0, 1] _ rfl (by simp)
  refine ⟨w.heap.size + 1, [{ target := .collected w.heap.size, args := #[] }], W1, { target := .fn (.func gf) lb, args := #[.func (.yield (w.heap.size + 1)) #[] #[]] }, W1, gf,
    #[.func (.yield (w.heap.size + 1)) #[] #[]] ++ lb, W1, ?_, ?_, ?_, ?_, (fun h => by simp [Fence.wide] at h), ?_⟩
  · rw [← hW1, hrec]; exact run_enterLoop_outer _ _ _ _ _
  · simp only [resolve, hg]
    simp [go_sem]
  · intro f' hf'; trivial
  · simp [invoke, go_sem, eg]
  · refine (hseq (w.heap.size + 1)
      (fun pre => [J pre, blk (w.heap.size + 1) (.loop (rec .ready none)), blk w.heap.size (.deferred (some []))])
      (fun pre W => ∃ c, Sat W [It, Jx c pre, blk (w.heap.size + 1) (.loop (rec .done (some c))), blk w.heap.size (.deferred (some []))])
      W1 ?_ hS1).mono ?_
    · intro pre x hpre W hW
      have hl : W.heap[w.heap.size + 1]? = some (.loop (rec .ready none)) := (hW.at_ 2 _ rfl).choose_spec.2
      have hy := run_yield (P := P) (args := encs x) hl (by rw [hrec]; exact hps x)
      rw [hrec] at hy
      refine ⟨fn, _, assign, body, hy, roundIn_of_wpIn hfn (hassign _ x W _ ⟨_, run_beginRound hl (by rw [hrec]), ?_⟩)⟩
      have hW2 : Sat (W.putObj (w.heap.size + 1) (.loop { rec .ready none with state := .busy })) (J pre :: [It, blk (w.heap.size + 1) (.loop { rec .ready none with state := .busy }), blk w.heap.size (.deferred (some []))]) :=
        (Sat.putObj (o' := .loop { rec .ready none with state := .busy }) (hW.pick [2, 0, 1, 3] [_, _, _, _] rfl (by simp))).pick [2, 1, 0, 3] _ rfl (by simp)
      refine wpIn_mono (hbody _ pre x hpre _ _ hW2) ?_
      have fin : ∀ (R : Res) (jump : Option Code) (W3 : World), Sat W3 [R, It, blk (w.heap.size + 1) (.loop { rec .ready none with state := .busy }), blk w.heap.size (.deferred (some []))] →
          (Instr.endRound (w.heap.size + 1) jump).run P W3 = .ok (.bool jump.isNone) (W3.putObj (w.heap.size + 1) (.loop (rec (if jump.isNone then .ready else .done) jump))) ∧
          Sat (W3.putObj (w.heap.size + 1) (.loop (rec (if jump.isNone then .ready else .done) jump))) [It, R, blk (w.heap.size + 1) (.loop (rec (if jump.isNone then .ready else .done) jump)), blk w.heap.size (.deferred (some []))] := fun R jump W3 hk3 => by
        have hl3 : W3.heap[w.heap.size + 1]? = some (.loop { rec .ready none with state := .busy }) := (hk3.at_ 2 _ rfl).choose_spec.2
        have := run_endRound (P := P) jump hl3
        rw [hrec] at this hk3 ⊢
        refine ⟨this, ?_⟩
        exact (Sat.putObj (hk3.pick [2, 0, 1, 3] [_, _, _, _] rfl (by simp))).pick [2, 1, 0, 3] _ rfl (by simp)
      rintro e a3 W3 hp
      cases e with
      | normal =>
        obtain ⟨hr, hs⟩ := fin _ none W3 hp
        exact ⟨_, _, hr, .inl ⟨rfl, hs⟩⟩
      | ret =>
        obtain ⟨hr, hs⟩ := fin _ (some .ret) W3 hp
        exact ⟨_, _, hr, .inr ⟨rfl, .ret, hs⟩⟩
      | exit id =>
        obtain ⟨hr, hs⟩ := fin _ (some (.exit id)) W3 hp
        exact ⟨_, _, hr, .inr ⟨rfl, .exit id, hs⟩⟩
      | goto t =>
        obtain ⟨hr, hs⟩ := fin _ (some (.goto t)) W3 hp
        exact ⟨_, _, hr, .inr ⟨rfl, .goto t, hs⟩⟩
      | panic ch => exact hp.elim
      | outgrown => exact hp.elim
    · rintro e W2 ⟨⟨v, rfl⟩, (h | ⟨pre, hSp, c, h⟩)⟩
      · have hl : W2.heap[w.heap.size + 1]? = some (.loop (rec .ready none)) := (h.at_ 2 _ rfl).choose_spec.2
        refine ⟨none, _, by have := run_endLoop (P := P) hl (by rw [hrec]; simp); rw [hrec] at this; exact this, hdone _ _ ?_⟩
        exact (Sat.putObj (h.pick [2, 0, 1, 3] [_, _, _, _] rfl (by simp))).pick [3, 1, 2] _ rfl (by simp)
      · have hl : W2.heap[w.heap.size + 1]? = some (.loop (rec .done (some c))) := (h.at_ 2 _ rfl).choose_spec.2
        refine ⟨some c, _, by have := run_endLoop (P := P) hl (by rw [hrec]; simp); rw [hrec] at this; exact this, wpIn_wide.2 (hstop _ c pre _ hSp ?_)⟩
        exact (Sat.putObj (h.pick [2, 0, 1, 3] [_, _, _, _] rfl (by simp))).pick [3, 1, 2] _ rfl (by simp)

/-- The same, one value a round, in slot p, laid into slot q. -/
theorem wp_rangeFunc_sat1 (p q : Nat) {g : Operand} {assign body : Code} {Q : Exit → Act → World → Prop} {a : Act} {w : World}
    {gf : Nat} {lb : Array Value} (hg : a.eval g = .func (.func gf) #[] lb) (eg : ∀ args w, (callFunc gf args).run P w = .ok (.enter gf args) w)
    {xs : List Value} {It : Res} (hseq : SeqSat P gf lb (fun v : Value => #[v]) xs It)
    (J : List Value → Res) (Jx : Code → List Value → Res) (hS : Sat w [It, J []])
    (hassign : ∀ (l : Nat) (x : Value) (W : World) (K : Act → World → Prop), K { tmps := (a.tmps.setIfInBounds p x).setIfInBounds q x, defers := [] } W →
      assign.wpIn (Fence.wide.inRound l) 0 P (Exit.then K (fun _ _ _ => False)) { tmps := a.tmps.setIfInBounds p x, defers := [] } W)
    (hbody : ∀ (l : Nat) (pre : List Value) (x : Value), (pre ++ [x]) <+: xs → ∀ (W : World) (Rs : List Res), Sat W (J pre :: Rs) → body.wpIn (Fence.wide.inRound l) 0 P (satPost J Jx (pre ++ [x]) Rs) { tmps := (a.tmps.setIfInBounds p x).setIfInBounds q x, defers := [] } W)
    (hdone : ∀ (D : Nat) (W : World), Sat W [blk D (.deferred (some [])), It, J xs] → Q .normal { a with defers := loopMark D :: a.defers } W)
    (hstop : ∀ (D : Nat) (c : Code) (pre : List Value) (W : World), pre <+: xs → Sat W [blk D (.deferred (some [])), It, Jx c pre] → c.wp P Q { a with defers := loopMark D :: a.defers } W) :
    (Code.rangeFunc g #[p] assign body).wp P Q a w :=
  wp_rangeFunc_sat hg eg hseq (fun _ => rfl) J Jx hS (fun x => { tmps := (a.tmps.setIfInBounds p x).setIfInBounds q x, defers := [] }) (fun l x W K hK => by
    have e : (#[p].zip #[x]).foldl (fun t ((p, v) : Tmp × Value) => t.setIfInBounds p v) a.tmps = a.tmps.setIfInBounds p x := by simp
    exact (congrArg (fun t => assign.wpIn (Fence.wide.inRound l) 0 P (Exit.then K (fun _ _ _ => False)) { tmps := t, defers := [] } W) e).mpr (hassign l x W K hK)) hbody hdone hstop

theorem Sat.bag_tail {w : World} {A : Res} {As : List Res} (h : Sat w (A :: As)) : Sat w [A, bag As] := by
  have h1 := Sat.back h As.length (Nat.le_refl _)
  have e : As.insertIdx As.length A = As ++ [A] := by
    rw [List.insertIdx_length_self]
  rw [e] at h1
  exact (Sat.bag_in h1).swap
theorem Sat.bag_head {w : World} {A : Res} {As : List Res} (h : Sat w [A, bag As]) : Sat w (A :: As) := by
  have h1 := Sat.bag_out h.swap
  have h2 := h1.front As.length A (by simp)
  rw [List.eraseIdx_append_of_length_le (Nat.le_refl _)] at h2
  simpa using h2
theorem Sat.bag_cons {w : World} {A : Res} {As Rs : List Res} (h : Sat w (A :: bag As :: Rs)) : Sat w (bag (A :: As) :: Rs) := by
  have h1 := Sat.bag_out h.swap
  have h2 := h1.front As.length A (by simp)
  rw [List.eraseIdx_append_of_length_le (Nat.le_refl _)] at h2
  simp only [Nat.sub_self, List.eraseIdx_cons_zero] at h2
  exact Sat.bag_in (As := A :: As) h2

/-- A function that leaves with marks. -/
theorem leaves_marks {fn : Func} {tmps : Array Value} {R : Ending → World → Prop} : ∀ (ds : List Nat) (w : World) (Rs : List Res), Sat w (marks ds ++ Rs) →
    (∀ w', Sat w' Rs → ∃ v, (results fn tmps).run P w' = .ok v w' ∧ R (.returned v) w') → LeavesInM Fence.wide 0 P fn tmps R (ds.map loopMark) .returning w
  | [], w, Rs, hS, h => h w hS
  | D :: ds, w, Rs, hS, h => by
    have hD : w.heap[D]? = some (.deferred (some [])) := (hS.at_ 0 _ rfl).choose_spec.2
    refine ⟨by simp, .inl ⟨D, _, rfl, run_takeDeferred hD, ?_⟩⟩
    refine leaves_marks ds _ Rs ?_ h
    exact (Sat.putObj hS).tail

theorem bodyPost_marks {fn : Func} {R : Ending → World → Prop} {tmps : Array Value} {w : World} {Rs : List Res} (ds : List Nat) (hS : Sat w (marks ds ++ Rs))
    (h : ∀ w', Sat w' Rs → ∃ v, (results fn tmps).run P w' = .ok v w' ∧ R (.returned v) w') : bodyPostM Fence.wide 0 P fn R .ret { tmps := tmps, defers := ds.map loopMark } w := leaves_marks ds w Rs hS h
theorem bodyPost_marks_end {fn : Func} {R : Ending → World → Prop} {tmps : Array Value} {w : World} {Rs : List Res} (ds : List Nat) (hS : Sat w (marks ds ++ Rs))
    (h : ∀ w', Sat w' Rs → ∃ v, (results fn tmps).run P w' = .ok v w' ∧ R (.returned v) w') : bodyPostM Fence.wide 0 P fn R .normal { tmps := tmps, defers := ds.map loopMark } w := leaves_marks ds w Rs hS h

theorem calls_of_wp_marks {f : FuncId} {fn : Func} {c : Code} {args : Array Value} {w : World} {R : Ending → World → Prop}
    (hf : P.funcs[f]? = some fn) (hb : fn.body = some c) (h : c.wp P (bodyPostM Fence.wide 0 P fn R) { tmps := args ++ Array.replicate (fn.ntmps - args.size) undef, defers := [] } w) : Calls P f args w R :=
  callsIn_wide.1 (callsIn_of_wp_marks hf hb trivial (wpIn_wide.2 h))

/-- A region that draws its order, in a round: what is shown of it outside of rounds. -/
theorem wpIn_of_wp_op {l : Nat} {o : Oper} {a : Act} {w : World} {K : Act → World → Prop} {Q : Exit → Act → World → Prop} (hd : ∀ c, o.op ≠ .defer c) (h : o.wp P a w K Q) : o.wpIn (Fence.wide.inRound l) 0 P a w K Q := by
  refine ⟨fun _ _ => trivial, ?_⟩
  have e : o.semAt (Fence.wide.inRound l).round a.eval = execOp a.eval o := Oper.semAt_some l a.eval o hd
  rw [e]
  unfold Oper.wp at h
  generalize (execOp a.eval o).run P w = r at h ⊢
  cases r with
  | ok x w' =>
    cases x with
    | value v => exact h
    | skip => exact h
    | «defer» d => exact h
    | enter f args => exact ⟨fun h => by simp [Fence.inRound, Fence.wide] at h, CallsIn.inRound l (callsIn_wide.2 h)⟩
    | row row args =>
      refine ⟨fun h => by simp [Fence.inRound, Fence.wide] at h, fun c cs hr => ?_⟩
      obtain ⟨v, w'', hq, hs⟩ := h c cs
      refine ⟨v, w'', hq, ?_⟩
      exact (stepsIn_wide (P := P)).2 hs
    | _ => exact h.elim
  | halt x w' => cases x <;> exact h

theorem wpAnyIn_of_wpAny {l : Nat} {md : Region.Mode} {ops : Array Oper} {Q : Exit → Act → World → Prop} (hd : ∀ (i : Nat) (o : Oper) c, ops[i]? = some o → o.op ≠ .defer c) (hQ : ∀ a w, ¬ Q .outgrown a w) :
    ∀ (fuel : Nat) (listed : Array Bool) (a : Act) (w : World), wpAny P md ops Q fuel listed a w → wpAnyIn (Fence.wide.inRound l) 0 P md ops Q fuel listed a w
  | 0, _, _, _, h => h
  | fuel + 1, listed, a, w, h => by
    refine ⟨h.1, fun i hi => ?_⟩
    have h2 := h.2 i hi
    unfold wpOp at h2
    unfold wpOpIn
    cases ho : ops[i]? with
    | none => rw [ho] at h2; exact wpAnyIn_of_wpAny hd hQ fuel _ _ _ h2
    | some o =>
      rw [ho] at h2
      simp only at h2 ⊢
      split
      · rename_i hw
        rw [if_pos hw] at h2
        rcases h2 with h2 | ⟨-, a', w', h3⟩
        · exact Oper.wpIn_mono (fun a w h => wpAnyIn_of_wpAny hd hQ fuel _ _ _ h) (wpIn_of_wp_op (hd i o · ho) h2)
        · exact (hQ _ _ h3).elim
      · rename_i hw
        rw [if_neg hw] at h2
        exact ⟨fun _ _ => trivial, wpAnyIn_of_wpAny hd hQ fuel _ _ _ h2⟩

/-- No operation of a region defers. -/
def noDefer (ops : Array Oper) : Bool := ops.all fun o => match o.op with
  | .defer _ => false
  | _ => true
theorem noDefer_spec {ops : Array Oper} (h : noDefer ops = true) (i : Nat) (o : Oper) (c : Call) (hi : ops[i]? = some o) : o.op ≠ .defer c := by
  intro e
  have := (Array.all_eq_true_iff_forall_mem.1 h) o (Array.mem_of_getElem? hi)
  rw [e] at this
  cases this

/-- The beginning, in a round. -/
theorem wpIn_region_held {l id : Nat} {ops : Array Oper} {Q : Exit → Act → World → Prop} {S : World → Prop} {a : Act} {w : World} (hm : P.follows .mixedOrders = true) (hd : noDefer ops = true) (hQ : ∀ a w, ¬ Q .outgrown a w) (hS : S w.drew)
    (h : S w.drew → wpAnyH P .any ops Q S ops.size (Array.replicate ops.size false) a w.drew) : (Code.region id ops true).wpIn (Fence.wide.inRound l) 0 P Q a w :=
  wpIn_region_any hm (wpAnyIn_of_wpAny (noDefer_spec hd) hQ _ _ _ _ (wpAny_of_held _ _ _ _ (h hS)))

/-- Whatever order comes: S behind every operation but the one, z. -/
def wpHz (P : Program) (md : Region.Mode) (ops : Array Oper) (Q : Exit → Act → World → Prop) (S : World → Prop) (z : Nat) : Nat → Array Bool → Act → World → Prop
  | 0, listed, a, w => Region.ready md ops listed = [] ∧ Q .normal a w
  | fuel + 1, listed, a, w => (Region.ready md ops listed = [] → Q .normal a w) ∧
    ∀ i ∈ Region.ready md ops listed, wpOp P ops Q i (fun a' w' => (i ≠ z → S w') ∧ wpHz P md ops Q S z fuel (listed.setIfInBounds i true) a' w') a w

section
variable {md : Region.Mode} {ops : Array Oper} {Q : Exit → Act → World → Prop} {S : World → Prop} {z : Nat}

theorem wpAny_of_hz : ∀ (fuel : Nat) (listed : Array Bool) (a : Act) (w : World), wpHz P md ops Q S z fuel listed a w → wpAny P md ops Q fuel listed a w
  | 0, _, _, _, h => h
  | fuel + 1, _, _, _, h => ⟨h.1, fun i hi => wpOp_mono (fun a' w' h' => wpAny_of_hz fuel _ a' w' h'.2) (h.2 i hi)⟩

/-- z waits for i. -/
def waits (md : Region.Mode) (ops : Array Oper) (z i : Nat) : Bool := match ops[z]? with
  | some o => o.after.any fun e => Region.binds md e && e.on == i
  | none => false
theorem waits_spec {i : Nat} {oz : Oper} (h : waits md ops z i = true) (hz : ops[z]? = some oz) : ¬ ∀ e ∈ oz.after, Region.binds md e = true → e.on ≠ i := by
  unfold waits at h
  rw [hz] at h
  simp only [Array.any_eq_true, Bool.and_eq_true, beq_iff_eq] at h
  obtain ⟨k, hk, h1, h2⟩ := h
  exact fun hn => hn _ (Array.getElem_mem hk) h1 h2

theorem wpHz_first {i : Nat} {oi : Oper} {v : Value} (hi : ops[i]? = some oi) (hsel : ∀ (j : Nat) (o : Oper) cs b, ops[j]? = some o → o.op ≠ .select cs b)
    (hQ : ∀ c a w, Q (.panic c) (a.put oi.dst v) w → Q (.panic c) a w) (hz : waits md ops z i = true) :
    ∀ (fuel : Nat) (listed : Array Bool) (a : Act) (w : World),
      (∀ j oj, ops[j]? = some oj → j ≠ i → listed.getD j true = false → (∀ e ∈ oj.after, Region.binds md e = true → e.on ≠ i) → oi.apart ops oj = true) →
      i ∈ Region.ready md ops listed → YieldsIf P ops S oi v a → S w →
      wpHz P md ops Q S z fuel (listed.setIfInBounds i true) (a.put oi.dst v) w → wpHz P md ops Q S z (fuel + 1) listed a w := by
  intro fuel
  induction fuel with
  | zero =>
    intro listed a w _ hr hy hS H
    refine ⟨fun h => (by rw [h] at hr; cases hr), fun j hj => ?_⟩
    by_cases hji : j = i
    · subst hji; exact hy.wpOp hi hS ⟨fun _ => hS, H⟩
    · have := ready_mono hj hji
      rw [H.1] at this
      cases this
  | succ fuel ih =>
    intro listed a w hfree hr hy hS H
    refine ⟨fun h => (by rw [h] at hr; cases hr), fun j hj => ?_⟩
    by_cases hji : j = i
    · subst hji; exact hy.wpOp hi hS ⟨fun _ => hS, H⟩
    · have h1 := H.2 j (ready_mono hj hji)
      obtain ⟨hjun, oj, hoj, hall⟩ := mem_ready.1 hj
      have hnot : ∀ e ∈ oj.after, Region.binds md e = true → e.on ≠ i := fun e he hb heq => by
        have h1 := hall e he hb
        have h0 := (mem_ready.1 hr).1
        rw [heq] at h1
        rcases Nat.lt_or_ge i listed.size with h' | h'
        · simp [h'] at h0 h1; rw [h0] at h1; cases h1
        · simp [Array.getElem?_eq_none h'] at h1
      have hjz : j ≠ z := by
        rintro rfl
        exact waits_spec hz hoj hnot
      have h2 := wpOp_putIf hoj (hfree j oj hoj hji hjun hnot) (fun cs b => hsel i oi cs b hi) (fun cs b => hsel j oj cs b hoj) hQ hy h1
      have hfree' : ∀ k ok, ops[k]? = some ok → k ≠ i → (listed.setIfInBounds j true).getD k true = false →
          (∀ e ∈ ok.after, Region.binds md e = true → e.on ≠ i) → oi.apart ops ok = true := fun k ok hk hki hun hno => by
        refine hfree k ok hk hki ?_ hno
        by_cases hjk : j = k
        · subst hjk; exact hjun
        · rw [getD_set_ne true hjk] at hun; exact hun
      refine wpOp_mono (fun a' w' h3 => ⟨h3.2.1, ih (listed.setIfInBounds j true) a' w' hfree' (ready_mono hr (Ne.symm hji)) h3.1 (h3.2.1 hjz) ?_⟩) h2
      rw [Array.setIfInBounds_comm _ _ hji]
      exact h3.2.2

/-- An operation that only reads is taken first: its number and its slot told. -/
theorem wpHz_taken (i k : Nat) (v : Value) {fuel : Nat} {listed : Array Bool} {a : Act} {w : World} (hk : (ops[i]?).bind (·.dst) = some k)
    (hs : Region.noSelect ops = true) (hf : Region.free md ops listed i = true) (hr : (Region.ready md ops listed).contains i = true) (hz : waits md ops z i = true)
    (hQ : ∀ c a w, Q (.panic c) (a.put (some k) v) w → Q (.panic c) a w) (hw : (match ops[i]? with | some o => Region.wanted o (yielded ops a.tmps) | none => false) = true)
    (hy : ∀ w, S w → match ops[i]? with | some o => (execOp a.eval o).run P w = .ok (.value v) w | none => True) (hS : S w)
    (h : wpHz P md ops Q S z fuel (listed.setIfInBounds i true) (a.put (some k) v) w) : wpHz P md ops Q S z (fuel + 1) listed a w := by
  cases ho : ops[i]? with
  | none => rw [ho] at hk; cases hk
  | some o =>
    rw [ho] at hk hw hy
    simp only [Option.bind_some] at hk
    exact wpHz_first ho (Region.noSelect_spec hs) (by rw [hk]; exact hQ) hz fuel listed a w (Region.free_spec ho hf) (by simpa using hr) (.inl ⟨hw, hy⟩) hS (by rw [hk]; exact h)
/-- The one operation that may come up is carried out. -/
theorem wpHz_one (i : Nat) {fuel : Nat} {listed : Array Bool} {a : Act} {w : World} (hr : Region.ready md ops listed = [i])
    (hw : (match ops[i]? with | some o => Region.wanted o (yielded ops a.tmps) | none => false) = true)
    (h : ∀ K' : Act → World → Prop, Shut (∀ a w, (i ≠ z → S w) → ((i ≠ z → S w) → wpHz P md ops Q S z fuel (listed.setIfInBounds i true) a w) → K' a w) → match ops[i]? with | some o => Oper.wp P o a w K' Q | none => True) : wpHz P md ops Q S z (fuel + 1) listed a w := by
  refine ⟨fun h0 => (by rw [h0] at hr; cases hr), fun j hj => ?_⟩
  rw [hr] at hj
  simp only [List.mem_singleton] at hj
  subst hj
  cases ho : ops[j]? with
  | none => rw [ho] at hw; cases hw
  | some o =>
    rw [ho] at hw h
    exact wpOp_step ho (fun K' hK => by rw [if_pos hw]; exact h K' (fun a w hS hW => hK a w ⟨hS, hW hS⟩))
theorem wpHz_done {listed : Array Bool} {a : Act} {w : World} (hr : Region.ready md ops listed = []) (h : Q .normal a w) : ∀ fuel, wpHz P md ops Q S z fuel listed a w
  | 0 => ⟨hr, h⟩
  | _ + 1 => ⟨fun _ => h, by rw [hr]; simp⟩

/-- The beginning: in a round; outside of rounds. -/
theorem wpIn_region_hz {l id : Nat} {a : Act} {w : World} (hm : P.follows .mixedOrders = true) (hd : noDefer ops = true) (hQ : ∀ a w, ¬ Q .outgrown a w) (hS : S w.drew)
    (h : S w.drew → wpHz P .any ops Q S z ops.size (Array.replicate ops.size false) a w.drew) : (Code.region id ops true).wpIn (Fence.wide.inRound l) 0 P Q a w :=
  wpIn_region_any hm (wpAnyIn_of_wpAny (noDefer_spec hd) hQ _ _ _ _ (wpAny_of_hz _ _ _ _ (h hS)))
theorem wp_region_hz {id : Nat} {a : Act} {w : World} (hm : P.follows .mixedOrders = true) (hS : S w.drew)
    (h : S w.drew → wpHz P .any ops Q S z ops.size (Array.replicate ops.size false) a w.drew) : (Code.region id ops true).wp P Q a w :=
  wp_region_any hm (wpAny_of_hz _ _ _ _ (h hS))
end

end Go.Hal

namespace Go.Proofs.Ytdpocnkeokplpaa
open Go.RowKit Go.Hal
set_option linter.unusedVariables false
set_option linter.unusedSimpArgs false

/-- A parcel: what it costs, and where its symbols lie. -/
structure Par where
  cost : Int
  b : Nat
  off : Nat
  n : Nat
  cap : Nat

def Par.v (p : Par) : Value := .slice (some ⟨p.b, p.off, none⟩) p.n p.cap
def parC (ps : List Par) : List Value := ps.flatMap fun p => [.int .i64 p.cost, p.v]
theorem parC_length (ps : List Par) : (parC ps).length = ps.length * 2 := by
  induction ps with
  | nil => rfl
  | cons k r ih => simp only [parC, List.flatMap_cons, List.length_append, List.length_cons, List.length_nil] at *; omega
theorem parC_append (a b : List Par) : parC (a ++ b) = parC a ++ parC b := by simp [parC]
theorem parC_get (ps : List Par) : ∀ s (h : s < ps.length), (parC ps)[s * 2]? = some (.int .i64 ps[s].cost) ∧ (parC ps)[s * 2 + 1]? = some ps[s].v := by
  induction ps with
  | nil => intro s h; simp at h
  | cons k r ih =>
    intro s h
    cases s with
    | zero => simp [parC]
    | succ s =>
      have := ih s (by simpa using h)
      simp only [parC, List.flatMap_cons, List.getElem_cons_succ] at *
      rw [show (s + 1) * 2 = s * 2 + 2 by omega, show s * 2 + 2 + 1 = s * 2 + 1 + 2 by omega]
      exact this
theorem parC_get' {ps : List Par} {s : Nat} {p : Par} (h : ps[s]? = some p) : (parC ps)[s * 2]? = some (.int .i64 p.cost) ∧ (parC ps)[s * 2 + 1]? = some (.slice (some ⟨p.b, p.off, none⟩) p.n p.cap) := by
  obtain ⟨h1, h2⟩ := List.getElem?_eq_some_iff.1 h
  have := parC_get ps s h1
  rw [h2] at this
  exact this
theorem parC_set (ps : List Par) (s : Nat) (p : Par) (h : s < ps.length) : ((parC ps).set (s * 2) (.int .i64 p.cost)).set (s * 2 + 1) p.v = parC (ps.set s p) := by
  induction ps generalizing s with
  | nil => simp at h
  | cons x r ih =>
    cases s with
    | zero => simp [parC]
    | succ s =>
      have := ih s (by simpa using h)
      simp only [parC, List.flatMap_cons, List.set_cons_succ] at *
      rw [show (s + 1) * 2 = s * 2 + 1 + 1 by omega, ← this]
      simp
theorem parC_one (ps : List Par) : ∀ u ∈ parC ps, u.oneCell' = true := by
  intro u hu
  obtain ⟨p, -, h⟩ := List.mem_flatMap.1 hu
  simp only [List.mem_cons, List.not_mem_nil, or_false] at h
  rcases h with rfl | rfl <;> rfl

set_option maxHeartbeats 400000 in
theorem cmp1_any (a b : Int) (u v : Value) (w : World) (ha : 0 ≤ a) (ha2 : a ≤ 1152921504606846976) (hb : 0 ≤ b) (hb2 : b ≤ 1152921504606846976) :
    Calls Try.prog 94 #[.agg #[.int .i64 a, u], .agg #[.int .i64 b, v]] w fun e w' => e = .returned (.int .i64 (a - b)) ∧ Mods (fun _ => False) w w' := by
  go_enter Try.func94, Try.ntmps94
  go_wp2
  go_ret
  exact ⟨rfl, ((Mods.refl _ _).alloc _).alloc _⟩

set_option maxHeartbeats 400000 in
theorem cmp2_any (a b : Int) (u v : Value) (w : World) (ha : 0 ≤ a) (ha2 : a ≤ 1152921504606846976) (hb : 0 ≤ b) (hb2 : b ≤ 1152921504606846976) :
    Calls Try.prog 98 #[.agg #[.int .i64 a, u], .agg #[.int .i64 b, v]] w fun e w' => e = .returned (.int .i64 (a - b)) ∧ Mods (fun _ => False) w w' := by
  go_enter Try.func98, Try.ntmps98
  go_wp2
  go_ret
  exact ⟨rfl, ((Mods.refl _ _).alloc _).alloc _⟩

/-- A parcel goes to the left, past all that cost more. -/
def insR (x : Par) (l : List Par) : List Par := (l.reverse.dropWhile (fun y => decide (x.cost < y.cost))).reverse ++ x :: (l.reverse.takeWhile (fun y => decide (x.cost < y.cost))).reverse
/-- The parcels in the order of their costs; equal ones stay in their order. -/
def sortP (l : List Par) : List Par := l.foldl (fun acc x => insR x acc) []
theorem insR_length (x : Par) (l : List Par) : (insR x l).length = l.length + 1 := by
  unfold insR
  have h := congrArg List.length (List.takeWhile_append_dropWhile (p := fun y => decide (x.cost < y.cost)) (l := l.reverse))
  simp only [List.length_append, List.length_reverse, List.length_cons] at h ⊢
  omega
theorem sortP_snoc (l : List Par) (x : Par) : sortP (l ++ [x]) = insR x (sortP l) := by simp [sortP]
theorem sortP_length (l : List Par) : (sortP l).length = l.length := by
  unfold sortP
  suffices h : ∀ (l acc : List Par), (l.foldl (fun acc x => insR x acc) acc).length = acc.length + l.length by simpa using h l []
  intro l
  induction l with
  | nil => simp
  | cons y r ih => intro acc; simp only [List.foldl_cons, ih, insR_length, List.length_cons]; omega
/-- What the inner loop comes to. -/
theorem insR_of (x : Par) (l1 l2 : List Par) (h2 : ∀ y ∈ l2, x.cost < y.cost) (h1 : l1 = [] ∨ ∃ l y, l1 = l ++ [y] ∧ ¬ x.cost < y.cost) : insR x (l1 ++ l2) = l1 ++ x :: l2 := by
  unfold insR
  have e : ∀ y ∈ l2.reverse, decide (x.cost < y.cost) = true := fun y hy => decide_eq_true (h2 y (by simpa using hy))
  rw [List.reverse_append, List.dropWhile_append_of_pos e, List.takeWhile_append_of_pos e]
  rcases h1 with rfl | ⟨l, y, rfl, hy⟩
  · simp
  · simp [List.takeWhile_cons, hy]

theorem mem_insR (x y : Par) (l : List Par) : y ∈ insR x l ↔ y = x ∨ y ∈ l := by
  unfold insR
  have h : y ∈ l ↔ y ∈ (l.reverse.takeWhile (fun y => decide (x.cost < y.cost))) ∨ y ∈ (l.reverse.dropWhile (fun y => decide (x.cost < y.cost))) := by
    rw [← List.mem_append, List.takeWhile_append_dropWhile, List.mem_reverse]
  simp only [List.mem_append, List.mem_cons, List.mem_reverse, h]
  constructor
  · rintro (h | h | h)
    · exact .inr (.inr h)
    · exact .inl h
    · exact .inr (.inl h)
  · rintro (h | h | h)
    · exact .inr (.inl h)
    · exact .inr (.inr h)
    · exact .inl h
theorem mem_sortP (y : Par) (l : List Par) : y ∈ sortP l ↔ y ∈ l := by
  unfold sortP
  suffices h : ∀ (l acc : List Par), y ∈ l.foldl (fun acc x => insR x acc) acc ↔ y ∈ acc ∨ y ∈ l by simpa using h l []
  intro l
  induction l with
  | nil => simp
  | cons z r ih =>
    intro acc
    simp only [List.foldl_cons, ih, mem_insR, List.mem_cons]
    constructor
    · rintro ((h | h) | h)
      · exact .inr (.inl h)
      · exact .inl h
      · exact .inr (.inr h)
    · rintro (h | h | h)
      · exact .inl (.inr h)
      · exact .inl (.inl h)
      · exact .inr h

theorem mid_get (pre l1 l2 suf : List Par) (x y : Par) : (pre ++ ((l1 ++ [y]) ++ x :: l2) ++ suf)[pre.length + l1.length]? = some y ∧ (pre ++ ((l1 ++ [y]) ++ x :: l2) ++ suf)[pre.length + l1.length + 1]? = some x := by
  constructor
  · rw [List.append_assoc, List.getElem?_append_right (by omega)]
    simp
  · rw [List.append_assoc, List.getElem?_append_right (by omega)]
    have e : pre.length + l1.length + 1 - pre.length = l1.length + 1 := by omega
    simp [e]
theorem mid_set (pre l1 l2 suf : List Par) (x y : Par) : ((pre ++ ((l1 ++ [y]) ++ x :: l2) ++ suf).set (pre.length + l1.length + 1) y).set (pre.length + l1.length) x = pre ++ (l1 ++ x :: y :: l2) ++ suf := by
  rw [List.append_assoc, List.set_append_right _ _ (by omega), List.set_append_right _ _ (by omega), List.append_assoc pre]
  congr 1
  have e : pre.length + l1.length + 1 - pre.length = l1.length + 1 := by omega
  have e2 : pre.length + l1.length - pre.length = l1.length := by omega
  rw [e, e2]
  simp [List.append_assoc]

theorem vi3 {a b : Int} (h : a = b) : Value.int .i64 a = .int .i64 b := by rw [h]

set_option maxRecDepth 100000 in
set_option maxHeartbeats 4000000 in
theorem insertion_1 {w : World} {v : Value} {N : Nat} {Rs : List Res} (pre seg suf : List Par)
    (hS : Sat w (sl 137 2 N v (parC (pre ++ seg ++ suf)) :: Rs)) (hN : N = (pre ++ seg ++ suf).length) (hN2 : N ≤ 1048576) (hc : ∀ p ∈ pre ++ seg ++ suf, 0 ≤ p.cost ∧ p.cost ≤ 1152921504606846976) (a b : Nat) (ha : a = pre.length) (hb : b = pre.length + seg.length) :
    Calls Try.prog 112 #[v, .int .i64 a, .int .i64 b, .func (.func 94) #[] #[]] w fun e w' => e = .returned (.tuple #[]) ∧ Sat w' (sl 137 2 N v (parC (pre ++ sortP seg ++ suf)) :: Rs) := by
  have HN := Lib.hid hN
  have Hc := Lib.hid hc
  have Ha := Lib.hid ha
  have Hb := Lib.hid hb
  clear hc hN
  have hbN : b ≤ N := by rw [HN.out, hb]; simp
  have haN : a ≤ b := by omega
  have hs0 := hS
  obtain ⟨F, ao, cap, rfl, -, -, -, -⟩ := hs0.first
  clear hs0
  clear ha hb
  · go_enter Try.func112, Try.ntmps112
    go_wp2
    go_loopw [8] (fun i wr => ∃ m : Nat, 1 ≤ m ∧ (m ≤ seg.length ∨ m = 1) ∧ i = .int .i64 ((a : Int) + (m : Nat)) ∧ Sat wr (sl 137 2 N (.slice ao N cap) (parC (pre ++ (sortP (seg.take m) ++ seg.drop m) ++ suf)) :: Rs)) (fun i _ => b + 1 - (intOf i).toNat)
    case atStart =>
      refine ⟨1, by omega, by omega, vi3 (by simp), ?_⟩
      have e : sortP (seg.take 1) ++ seg.drop 1 = seg := by
        cases seg with
        | nil => rfl
        | cons y r => simp [sortP, insR]
      rw [e]; exact hS
    case round =>
      obtain ⟨m, hm1, hm2, rfl, hS1⟩ := hrel
      by_cases hlt : m < seg.length
      · have hab : a + m < b := by rw [Ha.out, Hb.out]; omega
        have hd0 : decide ((a : Int) + (m : Int) < (b : Int)) = true := decide_eq_true (by omega)
        go_wp2
        obtain ⟨x, hx⟩ : ∃ x, seg[m]? = some x := ⟨_, List.getElem?_eq_getElem hlt⟩
        have hdrop : seg.drop m = x :: seg.drop (m + 1) := by
          rw [List.drop_eq_getElem_cons hlt]
          rw [List.getElem?_eq_getElem hlt] at hx
          cases hx; rfl
        have htake : seg.take (m + 1) = seg.take m ++ [x] := by
          rw [List.take_succ_eq_append_getElem hlt]
          rw [List.getElem?_eq_getElem hlt] at hx
          cases hx; rfl
        have hxc : 0 ≤ x.cost ∧ x.cost ≤ 1152921504606846976 := Hc.out x (by simp [List.mem_of_getElem? hx])
        obtain ⟨hxc0, hxc1⟩ := hxc
        rw [hdrop] at hS1
        have Htake := Lib.hid htake
        clear hx hdrop htake
        go_loopw [9] (fun i wq => ∃ (l1 l2 : List Par) (p : Nat), Hid (l1 ++ l2 = sortP (seg.take m)) ∧ Hid (∀ y ∈ l2, x.cost < y.cost) ∧ Hid (p = a + l1.length) ∧ i = .int .i64 (p : Nat) ∧ Sat wq (sl 137 2 N (.slice ao N cap) (parC (pre ++ (l1 ++ x :: l2) ++ (seg.drop (m + 1) ++ suf))) :: Rs)) (fun i _ => (intOf i).toNat)
        case atStart =>
          refine ⟨sortP (seg.take m), [], a + m, by unfold Hid; simp, by unfold Hid; simp, ?_, vi3 (by omega), ?_⟩
          · unfold Hid; rw [sortP_length, List.length_take]; omega
          · simpa [List.append_assoc] using hS1
        case round =>
          obtain ⟨l1, l2, p, Hl, Hgt, Hp, rfl, hS2⟩ := hrel
          rcases List.eq_nil_or_concat l1 with rfl | ⟨l, y, rfl⟩
          · obtain rfl : p = a := by simpa using Hp.out
            have hd : decide (p < p) = false := by simp
            go_wp2_with fail
            go_quiet (fail)
            go_wp2
            refine ⟨⟨m + 1, by omega, by omega, vi3 (by omega), ?_⟩, by simp [intOf]; omega⟩
            rw [Htake.out, sortP_snoc, ← Hl.out, insR_of x [] l2 Hgt.out (.inl rfl)]
            simpa [List.append_assoc] using hS2.drewN nq
          · obtain ⟨q, rfl⟩ : ∃ q, p = q + 1 := ⟨a + l.length, by rw [Hp.out]; simp; omega⟩
            have hq : q = pre.length + l.length := by have := Hp.out; rw [Ha.out] at this; simp at this; omega
            have haq : a ≤ q := by rw [Ha.out]; omega
            have hmid := mid_get pre l l2 (seg.drop (m + 1) ++ suf) x y
            rw [← hq] at hmid
            have hL3 : N = (pre ++ ((l ++ [y]) ++ x :: l2) ++ (seg.drop (m + 1) ++ suf)).length := by
              have h1 := hS2.sl_read.len
              rw [parC_length, List.concat_eq_append] at h1
              omega
            have hNq : q + 1 < N := by
              have h1 := hS2.sl_read.len
              rw [parC_length] at h1
              have h2 := (List.getElem?_eq_some_iff.1 hmid.2).1
              simp at h1 h2 ⊢
              omega
            obtain ⟨b0, off, cap', heq, -, hcm, hb0, hcc, hff⟩ := hS2.sl_cells (by omega)
            simp only [Value.slice.injEq, true_and] at heq
            obtain ⟨rfl, rfl⟩ := heq
            rw [List.concat_eq_append] at hcc hS2 Hl
            obtain ⟨g1, g2⟩ := parC_get' hmid.1
            obtain ⟨g3, g4⟩ := parC_get' hmid.2
            have c1 := hcc _ _ g1
            have c2 := hcc _ _ g2
            have c3 := hcc _ _ g3
            have c4 := hcc _ _ g4
            rw [← Nat.add_assoc] at c2 c4
            have f1 := hff (q * 2)
            have f2 := hff (q * 2 + 1)
            have f3 := hff ((q + 1) * 2)
            have f4 := hff ((q + 1) * 2 + 1)
            rw [← Nat.add_assoc] at f2 f4
            have hyc : 0 ≤ y.cost ∧ y.cost ≤ 1152921504606846976 := Hc.out y (by
              have : y ∈ sortP (seg.take m) := by rw [← Hl.out]; simp
              rw [mem_sortP] at this
              simp [List.mem_of_mem_take this])
            obtain ⟨hyc0, hyc1⟩ := hyc
            have hd : decide ((a : Int) < (q : Int) + 1) = true := decide_eq_true (by omega)
            have hq0 : (0 : Int) ≤ (q : Int) + 1 := by omega
            have hq1 : (q : Int) + 1 < (N : Int) := by omega
            have hq2 : (0 : Int) ≤ (q : Int) := by omega
            have hq3 : (q : Int) < (N : Int) := by omega
            have hw1 : IntKind.i64.wrap (q : Int) = q := i64_id _ (by omega) (by omega)
            have hw2 : IntKind.i64.wrap ((q : Int) + 1 - 1) = q := i64_id _ (by omega) (by omega) |>.trans (by omega)
            have hw3 : IntKind.i64.wrap (x.cost - y.cost) = x.cost - y.cost := i64_id _ (by omega) (by omega)
            have HL3 := Lib.hid hL3
            clear hL3
            have Hq := Lib.hid hq
            have Hcm := Lib.hid hcm
            clear hmid hcc hff g1 g2 g3 g4 hq hcm
            by_cases hlt2 : x.cost < y.cost
            · have hd2 : decide (x.cost - y.cost < 0) = true := decide_eq_true (by omega)
              go_wp2_with fail
              go_region_held3 (fun w' => w'.cell? ⟨b0, off + q * 2, none⟩ = some (.int .i64 y.cost) ∧ w'.cell? ⟨b0, off + q * 2 + 1, none⟩ = some (.slice (some ⟨y.b, y.off, none⟩) y.n y.cap) ∧ w'.cell? ⟨b0, off + (q + 1) * 2, none⟩ = some (.int .i64 x.cost) ∧ w'.cell? ⟨b0, off + (q + 1) * 2 + 1, none⟩ = some (.slice (some ⟨x.b, x.off, none⟩) x.n x.cap))
                (first | go_keep | exact ⟨(hM.cell hb0).trans c1, (hM.cell hb0).trans c2, (hM.cell hb0).trans c3, (hM.cell hb0).trans c4⟩) ((go_at_call 94; refine (cmp1_any _ _ _ _ _ hxc0 hxc1 hyc0 hyc1).mono ?_; rintro e w1 ⟨rfl, hM⟩))
              have hS3 := hS2.drew.keep hM
              have d1 := (hM.cell hb0).trans c1
              have d2 := (hM.cell hb0).trans c2
              have d3 := (hM.cell hb0).trans c3
              have d4 := (hM.cell hb0).trans c4
              have e1 := (hM.frozen hb0).trans f1
              have e2 := (hM.frozen hb0).trans f2
              have e3 := (hM.frozen hb0).trans f3
              have e4 := (hM.frozen hb0).trans f4
              clear hM c1 c2 c3 c4 f1 f2 f3 f4 hS2 hS1 hS
              go_wp2_with fail
              go_region
              have hL3 := HL3.out
              have r1 := (((hS3.sl_set ((q + 1) * 2) (by rw [parC_length, ← hL3]; omega) (.int .i64 y.cost)).sl_set ((q + 1) * 2 + 1) (by rw [List.length_set, parC_length, ← hL3]; omega) (.slice (some ⟨y.b, y.off, none⟩) y.n y.cap)).sl_set (q * 2) (by rw [List.length_set, List.length_set, parC_length, ← hL3]; omega) (.int .i64 x.cost)).sl_set (q * 2 + 1) (by rw [List.length_set, List.length_set, List.length_set, parC_length, ← hL3]; omega) (.slice (some ⟨x.b, x.off, none⟩) x.n x.cap)
              have e5 := parC_set (pre ++ ((l ++ [y]) ++ x :: l2) ++ (seg.drop (m + 1) ++ suf)) (q + 1) y (by rw [← hL3]; exact hNq)
              have e6 := parC_set ((pre ++ ((l ++ [y]) ++ x :: l2) ++ (seg.drop (m + 1) ++ suf)).set (q + 1) y) q x (by rw [List.length_set, ← hL3]; omega)
              rw [← e5] at e6
              have e7 := mid_set pre l l2 (seg.drop (m + 1) ++ suf) x y
              rw [← Hq.out] at e7
              rw [e7] at e6
              unfold Par.v at e6
              rw [e6] at r1
              clear hL3 e5 e6 e7
              go_wp2
              refine ⟨⟨l, y :: l2, q, ?_, ?_, ?_, vi3 (by omega), r1.drew⟩, by simp [intOf]⟩
              · unfold Hid; rw [← Hl.out]; simp
              · intro z hz
                rcases List.mem_cons.1 hz with rfl | hz
                · exact hlt2
                · exact Hgt.out z hz
              · have := Hp.out; unfold Hid; simp at this; omega
            · have hd2 : decide (x.cost - y.cost < 0) = false := decide_eq_false (by omega)
              go_wp2_with fail
              go_region_held3 (fun w' => w'.cell? ⟨b0, off + q * 2, none⟩ = some (.int .i64 y.cost) ∧ w'.cell? ⟨b0, off + q * 2 + 1, none⟩ = some (.slice (some ⟨y.b, y.off, none⟩) y.n y.cap) ∧ w'.cell? ⟨b0, off + (q + 1) * 2, none⟩ = some (.int .i64 x.cost) ∧ w'.cell? ⟨b0, off + (q + 1) * 2 + 1, none⟩ = some (.slice (some ⟨x.b, x.off, none⟩) x.n x.cap))
                (first | go_keep | exact ⟨(hM.cell hb0).trans c1, (hM.cell hb0).trans c2, (hM.cell hb0).trans c3, (hM.cell hb0).trans c4⟩) ((go_at_call 94; refine (cmp1_any _ _ _ _ _ hxc0 hxc1 hyc0 hyc1).mono ?_; rintro e w1 ⟨rfl, hM⟩))
              have hS3 := hS2.drew.keep hM
              clear hM c1 c2 c3 c4 f1 f2 f3 f4 hS2 hS1 hS
              go_wp2
              refine ⟨⟨m + 1, by omega, by omega, vi3 (by omega), ?_⟩, by simp [intOf]; omega⟩
              rw [Htake.out, sortP_snoc, ← Hl.out, insR_of x (l ++ [y]) l2 Hgt.out (.inr ⟨l, y, rfl, by omega⟩)]
              simpa [List.append_assoc] using hS3
      · have hb2 : b ≤ a + m := by rw [Ha.out, Hb.out]; omega
        have hd0 : decide ((a : Int) + (m : Int) < (b : Int)) = false := decide_eq_false (by omega)
        go_wp2
        go_end0
        refine ⟨rfl, ?_⟩
        have e : sortP (seg.take m) ++ seg.drop m = sortP seg := by
          rw [List.take_of_length_le (by omega), List.drop_of_length_le (by omega), List.append_nil]
        rw [e] at hS1
        exact hS1


set_option maxRecDepth 100000 in
set_option maxHeartbeats 1000000 in
theorem stable_1 {w : World} {v : Value} {Rs : List Res} (ps : List Par) (hS : Sat w (sl 137 2 ps.length v (parC ps) :: Rs)) (hN : ps.length ≤ 19) (hc : ∀ p ∈ ps, 0 ≤ p.cost ∧ p.cost ≤ 1152921504606846976) :
    Calls Try.prog 93 #[v, .func (.func 94) #[] #[]] w fun e w' => e = .returned (.tuple #[]) ∧ Sat w' (sl 137 2 ps.length v (parC (sortP ps)) :: Rs) := by
  have key : Calls Try.prog 106 #[v, .int .i64 ps.length, .func (.func 94) #[] #[]] w fun e w' => e = .returned (.tuple #[]) ∧ Sat w' (sl 137 2 ps.length v (parC (sortP ps)) :: Rs) := by
    have hins := insertion_1 (w := w) (v := v) (N := ps.length) (Rs := Rs) [] ps [] (by simpa using hS) (by simp) (by omega) (by simpa using hc) 0 ps.length rfl (by simp)
    simp only [List.nil_append, List.append_nil] at hins
    have Hi := Lib.hid hins
    clear hins hc
    have hd : decide ((20 : Int) ≤ (ps.length : Int)) = false := decide_eq_false (by omega)
    have hd2 : decide ((20 : Int) < (ps.length : Int)) = false := decide_eq_false (by omega)
    go_enter Try.func106, Try.ntmps106
    go_wp2
    go_loopw [7, 8] (fun a b wr => a = .int .i64 0 ∧ b = .int .i64 20 ∧ w = wr) (fun _ _ _ => 0)
    case atStart => exact ⟨rfl, rfl, rfl⟩
    case round =>
      obtain ⟨rfl, rfl, rfl⟩ := hrel
      go_wp2_with (go_at_call 112; refine Hi.out.mono ?_; rintro e w1 ⟨rfl, hS1⟩)
      go_loopw [6, 7, 8] (fun s a b wr => s = .int .i64 20 ∧ Sat wr (sl 137 2 ps.length v (parC (sortP ps)) :: Rs)) (fun _ _ _ _ => 0)
      case atStart => exact ⟨rfl, hS1⟩
      case round =>
        obtain ⟨rfl, hS2⟩ := hrel
        go_wp2
        go_end0
        exact ⟨rfl, hS2⟩
  have Hk := Lib.hid key
  obtain ⟨F, ao, cap, rfl, -, -, -, -⟩ := hS.first
  clear key hc
  go_enter Try.func93, Try.ntmps93
  go_wp2_with (go_at_call 106; refine Hk.out.mono ?_; rintro e w1 ⟨rfl, hS1⟩)
  go_end0
  exact ⟨rfl, hS1⟩

set_option maxRecDepth 100000 in
set_option maxHeartbeats 4000000 in
theorem insertion_2 {w : World} {v : Value} {N : Nat} {Rs : List Res} (pre seg suf : List Par)
    (hS : Sat w (sl 137 2 N v (parC (pre ++ seg ++ suf)) :: Rs)) (hN : N = (pre ++ seg ++ suf).length) (hN2 : N ≤ 1048576) (hc : ∀ p ∈ pre ++ seg ++ suf, 0 ≤ p.cost ∧ p.cost ≤ 1152921504606846976) (a b : Nat) (ha : a = pre.length) (hb : b = pre.length + seg.length) :
    Calls Try.prog 112 #[v, .int .i64 a, .int .i64 b, .func (.func 98) #[] #[]] w fun e w' => e = .returned (.tuple #[]) ∧ Sat w' (sl 137 2 N v (parC (pre ++ sortP seg ++ suf)) :: Rs) := by
  have HN := Lib.hid hN
  have Hc := Lib.hid hc
  have Ha := Lib.hid ha
  have Hb := Lib.hid hb
  clear hc hN
  have hbN : b ≤ N := by rw [HN.out, hb]; simp
  have haN : a ≤ b := by omega
  have hs0 := hS
  obtain ⟨F, ao, cap, rfl, -, -, -, -⟩ := hs0.first
  clear hs0
  clear ha hb
  · go_enter Try.func112, Try.ntmps112
    go_wp2
    go_loopw [8] (fun i wr => ∃ m : Nat, 1 ≤ m ∧ (m ≤ seg.length ∨ m = 1) ∧ i = .int .i64 ((a : Int) + (m : Nat)) ∧ Sat wr (sl 137 2 N (.slice ao N cap) (parC (pre ++ (sortP (seg.take m) ++ seg.drop m) ++ suf)) :: Rs)) (fun i _ => b + 1 - (intOf i).toNat)
    case atStart =>
      refine ⟨1, by omega, by omega, vi3 (by simp), ?_⟩
      have e : sortP (seg.take 1) ++ seg.drop 1 = seg := by
        cases seg with
        | nil => rfl
        | cons y r => simp [sortP, insR]
      rw [e]; exact hS
    case round =>
      obtain ⟨m, hm1, hm2, rfl, hS1⟩ := hrel
      by_cases hlt : m < seg.length
      · have hab : a + m < b := by rw [Ha.out, Hb.out]; omega
        have hd0 : decide ((a : Int) + (m : Int) < (b : Int)) = true := decide_eq_true (by omega)
        go_wp2
        obtain ⟨x, hx⟩ : ∃ x, seg[m]? = some x := ⟨_, List.getElem?_eq_getElem hlt⟩
        have hdrop : seg.drop m = x :: seg.drop (m + 1) := by
          rw [List.drop_eq_getElem_cons hlt]
          rw [List.getElem?_eq_getElem hlt] at hx
          cases hx; rfl
        have htake : seg.take (m + 1) = seg.take m ++ [x] := by
          rw [List.take_succ_eq_append_getElem hlt]
          rw [List.getElem?_eq_getElem hlt] at hx
          cases hx; rfl
        have hxc : 0 ≤ x.cost ∧ x.cost ≤ 1152921504606846976 := Hc.out x (by simp [List.mem_of_getElem? hx])
        obtain ⟨hxc0, hxc1⟩ := hxc
        rw [hdrop] at hS1
        have Htake := Lib.hid htake
        clear hx hdrop htake
        go_loopw [9] (fun i wq => ∃ (l1 l2 : List Par) (p : Nat), Hid (l1 ++ l2 = sortP (seg.take m)) ∧ Hid (∀ y ∈ l2, x.cost < y.cost) ∧ Hid (p = a + l1.length) ∧ i = .int .i64 (p : Nat) ∧ Sat wq (sl 137 2 N (.slice ao N cap) (parC (pre ++ (l1 ++ x :: l2) ++ (seg.drop (m + 1) ++ suf))) :: Rs)) (fun i _ => (intOf i).toNat)
        case atStart =>
          refine ⟨sortP (seg.take m), [], a + m, by unfold Hid; simp, by unfold Hid; simp, ?_, vi3 (by omega), ?_⟩
          · unfold Hid; rw [sortP_length, List.length_take]; omega
          · simpa [List.append_assoc] using hS1
        case round =>
          obtain ⟨l1, l2, p, Hl, Hgt, Hp, rfl, hS2⟩ := hrel
          rcases List.eq_nil_or_concat l1 with rfl | ⟨l, y, rfl⟩
          · obtain rfl : p = a := by simpa using Hp.out
            have hd : decide (p < p) = false := by simp
            go_wp2_with fail
            go_quiet (fail)
            go_wp2
            refine ⟨⟨m + 1, by omega, by omega, vi3 (by omega), ?_⟩, by simp [intOf]; omega⟩
            rw [Htake.out, sortP_snoc, ← Hl.out, insR_of x [] l2 Hgt.out (.inl rfl)]
            simpa [List.append_assoc] using hS2.drewN nq
          · obtain ⟨q, rfl⟩ : ∃ q, p = q + 1 := ⟨a + l.length, by rw [Hp.out]; simp; omega⟩
            have hq : q = pre.length + l.length := by have := Hp.out; rw [Ha.out] at this; simp at this; omega
            have haq : a ≤ q := by rw [Ha.out]; omega
            have hmid := mid_get pre l l2 (seg.drop (m + 1) ++ suf) x y
            rw [← hq] at hmid
            have hL3 : N = (pre ++ ((l ++ [y]) ++ x :: l2) ++ (seg.drop (m + 1) ++ suf)).length := by
              have h1 := hS2.sl_read.len
              rw [parC_length, List.concat_eq_append] at h1
              omega
            have hNq : q + 1 < N := by
              have h1 := hS2.sl_read.len
              rw [parC_length] at h1
              have h2 := (List.getElem?_eq_some_iff.1 hmid.2).1
              simp at h1 h2 ⊢
              omega
            obtain ⟨b0, off, cap', heq, -, hcm, hb0, hcc, hff⟩ := hS2.sl_cells (by omega)
            simp only [Value.slice.injEq, true_and] at heq
            obtain ⟨rfl, rfl⟩ := heq
            rw [List.concat_eq_append] at hcc hS2 Hl
            obtain ⟨g1, g2⟩ := parC_get' hmid.1
            obtain ⟨g3, g4⟩ := parC_get' hmid.2
            have c1 := hcc _ _ g1
            have c2 := hcc _ _ g2
            have c3 := hcc _ _ g3
            have c4 := hcc _ _ g4
            rw [← Nat.add_assoc] at c2 c4
            have f1 := hff (q * 2)
            have f2 := hff (q * 2 + 1)
            have f3 := hff ((q + 1) * 2)
            have f4 := hff ((q + 1) * 2 + 1)
            rw [← Nat.add_assoc] at f2 f4
            have hyc : 0 ≤ y.cost ∧ y.cost ≤ 1152921504606846976 := Hc.out y (by
              have : y ∈ sortP (seg.take m) := by rw [← Hl.out]; simp
              rw [mem_sortP] at this
              simp [List.mem_of_mem_take this])
            obtain ⟨hyc0, hyc1⟩ := hyc
            have hd : decide ((a : Int) < (q : Int) + 1) = true := decide_eq_true (by omega)
            have hq0 : (0 : Int) ≤ (q : Int) + 1 := by omega
            have hq1 : (q : Int) + 1 < (N : Int) := by omega
            have hq2 : (0 : Int) ≤ (q : Int) := by omega
            have hq3 : (q : Int) < (N : Int) := by omega
            have hw1 : IntKind.i64.wrap (q : Int) = q := i64_id _ (by omega) (by omega)
            have hw2 : IntKind.i64.wrap ((q : Int) + 1 - 1) = q := i64_id _ (by omega) (by omega) |>.trans (by omega)
            have hw3 : IntKind.i64.wrap (x.cost - y.cost) = x.cost - y.cost := i64_id _ (by omega) (by omega)
            have HL3 := Lib.hid hL3
            clear hL3
            have Hq := Lib.hid hq
            have Hcm := Lib.hid hcm
            clear hmid hcc hff g1 g2 g3 g4 hq hcm
            by_cases hlt2 : x.cost < y.cost
            · have hd2 : decide (x.cost - y.cost < 0) = true := decide_eq_true (by omega)
              go_wp2_with fail
              go_region_held3 (fun w' => w'.cell? ⟨b0, off + q * 2, none⟩ = some (.int .i64 y.cost) ∧ w'.cell? ⟨b0, off + q * 2 + 1, none⟩ = some (.slice (some ⟨y.b, y.off, none⟩) y.n y.cap) ∧ w'.cell? ⟨b0, off + (q + 1) * 2, none⟩ = some (.int .i64 x.cost) ∧ w'.cell? ⟨b0, off + (q + 1) * 2 + 1, none⟩ = some (.slice (some ⟨x.b, x.off, none⟩) x.n x.cap))
                (first | go_keep | exact ⟨(hM.cell hb0).trans c1, (hM.cell hb0).trans c2, (hM.cell hb0).trans c3, (hM.cell hb0).trans c4⟩) ((go_at_call 98; refine (cmp2_any _ _ _ _ _ hxc0 hxc1 hyc0 hyc1).mono ?_; rintro e w1 ⟨rfl, hM⟩))
              have hS3 := hS2.drew.keep hM
              have d1 := (hM.cell hb0).trans c1
              have d2 := (hM.cell hb0).trans c2
              have d3 := (hM.cell hb0).trans c3
              have d4 := (hM.cell hb0).trans c4
              have e1 := (hM.frozen hb0).trans f1
              have e2 := (hM.frozen hb0).trans f2
              have e3 := (hM.frozen hb0).trans f3
              have e4 := (hM.frozen hb0).trans f4
              clear hM c1 c2 c3 c4 f1 f2 f3 f4 hS2 hS1 hS
              go_wp2_with fail
              go_region
              have hL3 := HL3.out
              have r1 := (((hS3.sl_set ((q + 1) * 2) (by rw [parC_length, ← hL3]; omega) (.int .i64 y.cost)).sl_set ((q + 1) * 2 + 1) (by rw [List.length_set, parC_length, ← hL3]; omega) (.slice (some ⟨y.b, y.off, none⟩) y.n y.cap)).sl_set (q * 2) (by rw [List.length_set, List.length_set, parC_length, ← hL3]; omega) (.int .i64 x.cost)).sl_set (q * 2 + 1) (by rw [List.length_set, List.length_set, List.length_set, parC_length, ← hL3]; omega) (.slice (some ⟨x.b, x.off, none⟩) x.n x.cap)
              have e5 := parC_set (pre ++ ((l ++ [y]) ++ x :: l2) ++ (seg.drop (m + 1) ++ suf)) (q + 1) y (by rw [← hL3]; exact hNq)
              have e6 := parC_set ((pre ++ ((l ++ [y]) ++ x :: l2) ++ (seg.drop (m + 1) ++ suf)).set (q + 1) y) q x (by rw [List.length_set, ← hL3]; omega)
              rw [← e5] at e6
              have e7 := mid_set pre l l2 (seg.drop (m + 1) ++ suf) x y
              rw [← Hq.out] at e7
              rw [e7] at e6
              unfold Par.v at e6
              rw [e6] at r1
              clear hL3 e5 e6 e7
              go_wp2
              refine ⟨⟨l, y :: l2, q, ?_, ?_, ?_, vi3 (by omega), r1.drew⟩, by simp [intOf]⟩
              · unfold Hid; rw [← Hl.out]; simp
              · intro z hz
                rcases List.mem_cons.1 hz with rfl | hz
                · exact hlt2
                · exact Hgt.out z hz
              · have := Hp.out; unfold Hid; simp at this; omega
            · have hd2 : decide (x.cost - y.cost < 0) = false := decide_eq_false (by omega)
              go_wp2_with fail
              go_region_held3 (fun w' => w'.cell? ⟨b0, off + q * 2, none⟩ = some (.int .i64 y.cost) ∧ w'.cell? ⟨b0, off + q * 2 + 1, none⟩ = some (.slice (some ⟨y.b, y.off, none⟩) y.n y.cap) ∧ w'.cell? ⟨b0, off + (q + 1) * 2, none⟩ = some (.int .i64 x.cost) ∧ w'.cell? ⟨b0, off + (q + 1) * 2 + 1, none⟩ = some (.slice (some ⟨x.b, x.off, none⟩) x.n x.cap))
                (first | go_keep | exact ⟨(hM.cell hb0).trans c1, (hM.cell hb0).trans c2, (hM.cell hb0).trans c3, (hM.cell hb0).trans c4⟩) ((go_at_call 98; refine (cmp2_any _ _ _ _ _ hxc0 hxc1 hyc0 hyc1).mono ?_; rintro e w1 ⟨rfl, hM⟩))
              have hS3 := hS2.drew.keep hM
              clear hM c1 c2 c3 c4 f1 f2 f3 f4 hS2 hS1 hS
              go_wp2
              refine ⟨⟨m + 1, by omega, by omega, vi3 (by omega), ?_⟩, by simp [intOf]; omega⟩
              rw [Htake.out, sortP_snoc, ← Hl.out, insR_of x (l ++ [y]) l2 Hgt.out (.inr ⟨l, y, rfl, by omega⟩)]
              simpa [List.append_assoc] using hS3
      · have hb2 : b ≤ a + m := by rw [Ha.out, Hb.out]; omega
        have hd0 : decide ((a : Int) + (m : Int) < (b : Int)) = false := decide_eq_false (by omega)
        go_wp2
        go_end0
        refine ⟨rfl, ?_⟩
        have e : sortP (seg.take m) ++ seg.drop m = sortP seg := by
          rw [List.take_of_length_le (by omega), List.drop_of_length_le (by omega), List.append_nil]
        rw [e] at hS1
        exact hS1


set_option maxRecDepth 100000 in
set_option maxHeartbeats 1000000 in
theorem stable_2 {w : World} {v : Value} {Rs : List Res} (ps : List Par) (hS : Sat w (sl 137 2 ps.length v (parC ps) :: Rs)) (hN : ps.length ≤ 19) (hc : ∀ p ∈ ps, 0 ≤ p.cost ∧ p.cost ≤ 1152921504606846976) :
    Calls Try.prog 93 #[v, .func (.func 98) #[] #[]] w fun e w' => e = .returned (.tuple #[]) ∧ Sat w' (sl 137 2 ps.length v (parC (sortP ps)) :: Rs) := by
  have key : Calls Try.prog 106 #[v, .int .i64 ps.length, .func (.func 98) #[] #[]] w fun e w' => e = .returned (.tuple #[]) ∧ Sat w' (sl 137 2 ps.length v (parC (sortP ps)) :: Rs) := by
    have hins := insertion_2 (w := w) (v := v) (N := ps.length) (Rs := Rs) [] ps [] (by simpa using hS) (by simp) (by omega) (by simpa using hc) 0 ps.length rfl (by simp)
    simp only [List.nil_append, List.append_nil] at hins
    have Hi := Lib.hid hins
    clear hins hc
    have hd : decide ((20 : Int) ≤ (ps.length : Int)) = false := decide_eq_false (by omega)
    have hd2 : decide ((20 : Int) < (ps.length : Int)) = false := decide_eq_false (by omega)
    go_enter Try.func106, Try.ntmps106
    go_wp2
    go_loopw [7, 8] (fun a b wr => a = .int .i64 0 ∧ b = .int .i64 20 ∧ w = wr) (fun _ _ _ => 0)
    case atStart => exact ⟨rfl, rfl, rfl⟩
    case round =>
      obtain ⟨rfl, rfl, rfl⟩ := hrel
      go_wp2_with (go_at_call 112; refine Hi.out.mono ?_; rintro e w1 ⟨rfl, hS1⟩)
      go_loopw [6, 7, 8] (fun s a b wr => s = .int .i64 20 ∧ Sat wr (sl 137 2 ps.length v (parC (sortP ps)) :: Rs)) (fun _ _ _ _ => 0)
      case atStart => exact ⟨rfl, hS1⟩
      case round =>
        obtain ⟨rfl, hS2⟩ := hrel
        go_wp2
        go_end0
        exact ⟨rfl, hS2⟩
  have Hk := Lib.hid key
  obtain ⟨F, ao, cap, rfl, -, -, -, -⟩ := hS.first
  clear key hc
  go_enter Try.func93, Try.ntmps93
  go_wp2_with (go_at_call 106; refine Hk.out.mono ?_; rintro e w1 ⟨rfl, hS1⟩)
  go_end0
  exact ⟨rfl, hS1⟩

end Go.Proofs.Ytdpocnkeokplpaa
