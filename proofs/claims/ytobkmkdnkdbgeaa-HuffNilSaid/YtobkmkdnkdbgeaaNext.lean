/- huff: Word and Next: their walks. -/
import Derived.Test.YtobkmkdnkdbgeaaNew
import Derived.Deep.LoopGhost
namespace Go.Proofs.Ytobkmkdnkdbgeaa
open Go.RowKit Go.Hal
set_option linter.unusedVariables false
set_option linter.unusedSimpArgs false

theorem code_open {w : World} {c : Nat} {L : List Nat} {Rs : List Res} (hS : Sat w (code c L :: Rs)) : ∃ m1 m2 vw, Sat w (newRes L (ord L 15) c m1 m2 vw (D2of L (ord L 15)) ++ Rs) := by
  obtain ⟨⟨m1, m2, vw⟩, h⟩ := hS.ex_out
  exact ⟨m1, m2, vw, h.bag_out⟩
theorem code_shut {w : World} {c m1 m2 : Nat} {vw : Value} {L : List Nat} {Rs : List Res} (hS : Sat w (newRes L (ord L 15) c m1 m2 vw (D2of L (ord L 15)) ++ Rs)) : Sat w (code c L :: Rs) :=
  Sat.ex_in (m1, m2, vw) hS.bag_in

/-- A symbol's word, as the code has it. -/
def wordOf (L : List Nat) (s : Int) : Nat × Nat := if 0 ≤ s then ((wsof L (ord L 15))[s.toNat]?).getD (0, 0) else (0, 0)

set_option maxHeartbeats 400000 in
theorem word_nil (s : Int) (w : World) : Calls Try.prog 18 #[.pointer none, .int .i64 s] w fun e w' => e = .returned (.tuple #[.int .i64 0, .int .i64 0]) ∧ w = w' := by
  go_enter Try.func18, Try.ntmps18
  go_wp2
  go_ret2
  exact ⟨rfl, rfl⟩

theorem ret2_ints {k l : IntKind} {a b c d : Int} (h : a = b) (h2 : c = d) : Ending.returned (.tuple #[.int k a, .int l c]) = .returned (.tuple #[.int k b, .int l d]) := by rw [h, h2]

set_option maxHeartbeats 400000 in
theorem word_code {w : World} {c : Nat} {L : List Nat} {Rs : List Res} (hS : Sat w (code c L :: Rs)) (hl : L.length ≤ 288) (s : Int) :
    Calls Try.prog 18 #[.pointer (some ⟨c, 0, none⟩), .int .i64 s] w fun e w' => e = .returned (.tuple #[.int .i64 ((wordOf L s).2 : Nat), .int .i64 ((wordOf L s).1 : Nat)]) ∧ ∃ n, w' = w.drewN n := by
  obtain ⟨m1, m2, vw, h⟩ := code_open hS
  have hcb := (h.at_ 0 _ rfl).choose_spec.2
  have q1 : w.cell? ⟨c, 1, none⟩ = some vw := by rw [cell_of_row w c 1 _ _ _ hcb]; rfl
  have hsl := h.front 2 _ rfl
  obtain ⟨F, ao, cap, rfl, k1, k2, k3, k4⟩ := hsl.first
  have hlen := wsof_length L (ord L 15)
  by_cases hr : 0 ≤ s ∧ s < L.length
  · obtain ⟨hr0, hr1⟩ := hr
    obtain ⟨n, rfl⟩ := Int.eq_ofNat_of_zero_le hr0
    have hn : n < L.length := by omega
    have hw : wordOf L (n : Int) = (wsof L (ord L 15))[n]'(by rw [hlen]; exact hn) := by
      unfold wordOf
      simp [hlen, hn]
    obtain ⟨b, off, cap', heq, -, -, hb, hc, -⟩ := hsl.sl_cells (by omega)
    simp only [Value.slice.injEq, true_and] at heq
    obtain ⟨rfl, rfl⟩ := heq
    have g0 := hc (n * 2) _ (rowC_get _ n (by rw [hlen]; exact hn)).1
    have g1 := hc (n * 2 + 1) _ (rowC_get _ n (by rw [hlen]; exact hn)).2
    rw [← hw] at g0 g1
    rw [← Nat.add_assoc] at g1
    have hn1 : (n : Int) < (L.length : Int) := by omega
    have Hk2 := Lib.hid k2
    clear hsl h hS hc k4 k3 k2 hcb hw hlen
    generalize wordOf L (n : Int) = x at *
    go_enter Try.func18, Try.ntmps18
    go_wp2
    go_quiet (fail)
    go_wp2
    go_ret2
    exact ⟨rfl, nq, rfl⟩
  · have hw : wordOf L s = (0, 0) := by
      unfold wordOf
      by_cases h0 : 0 ≤ s
      · rw [if_pos h0, List.getElem?_eq_none (by rw [hlen]; omega)]; rfl
      · rw [if_neg h0]
    have Hw := Lib.hid hw
    clear hsl h hS k4 k3 hcb hw hlen
    by_cases h0 : s < 0
    · go_enter Try.func18, Try.ntmps18
      go_wp2
      go_ret2
      exact ⟨ret2_ints (by rw [Hw.out]; rfl) (by rw [Hw.out]; rfl), 0, rfl⟩
    · have h3 : (L.length : Int) ≤ s := by omega
      clear hr
      go_enter Try.func18, Try.ntmps18
      go_wp2
      go_ret2
      exact ⟨ret2_ints (by rw [Hw.out]; rfl) (by rw [Hw.out]; rfl), 0, rfl⟩

/-- What Next comes to from n bits on: the symbol, the error, the bits that are taken. -/
def nextFrom (D1 D2 : List ((Nat × Nat) × Value)) (l : List Bool) : Nat → Nat → Value × Nat × Nat
  | 0, _ => (.int .i64 0, if l.length = 0 then 2 else 6, 0)
  | f + 1, n => match has (n, num (l.take n)) D1 with
    | some v => (v, 0, n)
    | none => if 0 < n ∧ has (n, num (l.take n)) D2 = none then (.int .i64 0, 6, 0) else if l.length ≤ n then (.int .i64 0, 2, 0) else nextFrom D1 D2 l f (n + 1)

def NextPost (D1 D2 : List ((Nat × Nat) × Value)) (l : List Bool) (Rs : List Res) (r c : Nat) (L : List Nat) (x : Value × Nat × Nat) (e : Ending) (w' : World) : Prop :=
  e = .returned (.tuple #[x.1, .int .i64 (x.2.1 : Nat)]) ∧ Sat w' (rd r (l.drop x.2.2) :: code c L :: Rs)

theorem num_take_succ (l : List Bool) (n : Nat) (h : n < l.length) : num (l.take (n + 1)) = num (l.take n) ||| l[n].toNat * 2 ^ n := by
  rw [List.take_succ_eq_append_getElem h, ← num_or]
  simp only [List.length_take, Nat.min_eq_left (Nat.le_of_lt h)]
  cases l[n] <;> simp [num]

set_option maxRecDepth 100000 in
set_option maxHeartbeats 4000000 in
theorem next_code {w : World} {r c : Nat} {l : List Bool} {L : List Nat} {Rs : List Res} (hS : Sat w (rd r l :: code c L :: Rs)) (hD : ∀ k v, has k (D1of L (ord L 15)) = some v → ∃ i : Int, v = .int .i64 i) (hD2 : ∀ k v, has k (D2of L (ord L 15)) = some v → v = .bool true)
    (hDk : ∀ n v x, has (n, v) (D1of L (ord L 15)) = some x → n ≤ 32) :
    Calls Try.prog 26 #[.pointer (some ⟨c, 0, none⟩), .pointer (some ⟨r, 0, none⟩)] w (NextPost (D1of L (ord L 15)) (D2of L (ord L 15)) l Rs r c L (nextFrom (D1of L (ord L 15)) (D2of L (ord L 15)) l 16 0)) := by
  obtain ⟨m1, m2, vw, h⟩ := code_open (hS.swap)
  have hl := rd_len hS
  have HD := Lib.hid hD
  have HD2 := Lib.hid hD2
  have HDk := Lib.hid hDk
  clear hD hD2 hDk
  go_enter Try.func26, Try.ntmps26
  go_wp2
  have h0 : Sat (w.alloc (.cells #[.int .i64 0, .int .i64 0] 88)) (blk w.heap.size (.cells #[.int .i64 (0 : Nat), .int .i64 (0 : Nat)] 88 (0, 0)) :: (newRes L (ord L 15) c m1 m2 vw (D2of L (ord L 15)) ++ rd r l :: Rs)) := h.alloc _
  generalize (w.alloc (.cells #[.int .i64 0, .int .i64 0] 88)) = W at h0 ⊢
  generalize w.heap.size = wb at h0 ⊢
  go_loopg [4] 16 (fun g z wr => ∃ n v : Nat, g + n = 16 ∧ n ≤ l.length ∧ Hid (v = num (l.take n)) ∧ v < 65536 ∧ Hid (nextFrom (D1of L (ord L 15)) (D2of L (ord L 15)) l 16 0 = nextFrom (D1of L (ord L 15)) (D2of L (ord L 15)) l g n) ∧
    Sat wr (blk wb (.cells #[.int .i64 (n : Nat), .int .i64 (v : Nat)] 88 (0, 0)) :: (newRes L (ord L 15) c m1 m2 vw (D2of L (ord L 15)) ++ rd r l :: Rs)))
  case atStart => exact ⟨0, 0, by omega, by omega, rfl, by omega, rfl, h0⟩
  case round =>
    obtain ⟨n, v, hg, hnl, Hv, hv, HN, hS1⟩ := hrel
    have hblk := (hS1.at_ 0 _ rfl).choose_spec.2
    have hcb := (hS1.at_ 1 _ rfl).choose_spec.2
    have q0 : wr.cell? ⟨wb, 0, none⟩ = some (.int .i64 (n : Nat)) := by rw [cell_of_row wr wb 0 _ _ _ hblk]; rfl
    have q1 : wr.cell? ⟨wb, 1, none⟩ = some (.int .i64 (v : Nat)) := by rw [cell_of_row wr wb 1 _ _ _ hblk]; rfl
    have f0 := frozen_of_row wr wb 0 _ _ hblk
    have f1 := frozen_of_row wr wb 1 _ _ hblk
    have q2 : wr.cell? ⟨c, 0, none⟩ = some (.map (some m1)) := by rw [cell_of_row wr c 0 _ _ _ hcb]; rfl
    have q3 : wr.cell? ⟨c, 2, none⟩ = some (.map (some m2)) := by rw [cell_of_row wr c 2 _ _ _ hcb]; rfl
    clear hblk hcb
    by_cases hn16 : n < 16
    · have hd15 : decide ((n : Int) ≤ 15) = true := decide_eq_true (by omega)
      have hlk := run_lookup_enc keyW (hS1.drew.front 2 _ rfl).mp_at 81 3 Try.underlying81 (.int .i64 0) (fun w => by kernel_rfl) (n, v) true
      cases hh : has (n, v) (D1of L (ord L 15)) with
      | some x =>
        obtain ⟨i, rfl⟩ := HD.out _ _ hh
        simp only [hh, if_true, Option.getD_some, Option.isSome_some] at hlk
        have hlk' : (Instr.lookup 81 (.map (some m1)) (.agg #[.int .i64 (n : Nat), .int .i64 (v : Nat)]) true).run Try.prog wr.drew = .ok (.tuple #[.int .i64 i, .bool true]) wr.drew := hlk
        have hfin : nextFrom (D1of L (ord L 15)) (D2of L (ord L 15)) l 16 0 = (.int .i64 i, 0, n) := by
          rw [HN.out]
          obtain ⟨g', rfl⟩ : ∃ g', gk = g' + 1 := ⟨gk - 1, by omega⟩
          have hh' := hh
          rw [Hv.out] at hh'
          simp only [nextFrom, hh']
        have Hfin := Lib.hid hfin
        clear hlk hfin hh
        go_wp2_with fail
        go_region_held3 (fun w' => w'.cell? ⟨wb, 0, none⟩ = some (.int .i64 (n : Nat)) ∧ w'.cell? ⟨wb, 1, none⟩ = some (.int .i64 (v : Nat)) ∧ w'.cell? ⟨c, 0, none⟩ = some (.map (some m1)) ∧ w'.cell? ⟨c, 2, none⟩ = some (.map (some m2))) (go_keep) (fail)
        have g1 := (Sat.perm (As := [_, _, _, _, _, _]) hS1.drew [5, 1, 2, 3, 4] [_, _, _, _, _] rfl (by simp))
        go_wp2_with (go_at_call 57; refine (take_rd g1 n (by omega) hnl).mono ?_; rintro e w' ⟨rfl, g2⟩)
        go_ret2
        unfold NextPost
        rw [Hfin.out]
        exact ⟨rfl, (code_shut (Sat.perm (As := [_, _, _, _, _]) g2 [1, 2, 3, 4, 0] [_, _, _, _, _] rfl (by simp))).swap⟩
      | none =>
        simp only [hh, if_true, Option.getD_none, Option.isSome_none] at hlk
        have hlk' : (Instr.lookup 81 (.map (some m1)) (.agg #[.int .i64 (n : Nat), .int .i64 (v : Nat)]) true).run Try.prog wr.drew = .ok (.tuple #[.int .i64 0, .bool false]) wr.drew := hlk
        have hlk2 := fun k => run_lookup_enc keyW (hS1.drewN k |>.front 4 _ rfl).mp_at 83 4 Try.underlying83 (.bool false) (fun w => by kernel_rfl) (n, v) false
        obtain ⟨g', rfl⟩ : ∃ g', gk = g' + 1 := ⟨gk - 1, by omega⟩
        have hstep : nextFrom (D1of L (ord L 15)) (D2of L (ord L 15)) l (g' + 1) n = if 0 < n ∧ has (n, v) (D2of L (ord L 15)) = none then (.int .i64 0, 6, 0) else if l.length ≤ n then (.int .i64 0, 2, 0) else nextFrom (D1of L (ord L 15)) (D2of L (ord L 15)) l g' (n + 1) := by
          have hh' := hh
          rw [Hv.out] at hh'
          simp only [nextFrom, hh']
          rw [Hv.out]
        have Hstep := Lib.hid hstep
        have Hh := Lib.hid hh
        clear hlk hstep hh
        have hend : ∀ (k : Nat) (x : Value × Nat × Nat), x.2.2 = 0 → Sat (wr.drewN k) (rd r (l.drop x.2.2) :: code c L :: Rs) := by
          intro k x hx
          rw [hx]
          exact (code_shut (Sat.perm (As := [_, _, _, _, _, _]) (hS1.drewN k) [1, 2, 3, 4, 5] [_, _, _, _, _] rfl (by simp))).swap
        have Hend := Lib.hid hend
        clear hend
        by_cases hno : 0 < n ∧ has (n, v) (D2of L (ord L 15)) = none
        · have hfin : nextFrom (D1of L (ord L 15)) (D2of L (ord L 15)) l 16 0 = (.int .i64 0, 6, 0) := by rw [HN.out, Hstep.out, if_pos hno]
          obtain ⟨hn0, hh2⟩ := hno
          simp only [hh2, Option.getD_none] at hlk2
          have hlk2' : (Instr.lookup 83 (.map (some m2)) (.agg #[.int .i64 (n : Nat), .int .i64 (v : Nat)]) false).run Try.prog wr.drew.drew = .ok (.bool false) wr.drew.drew := hlk2 2
          have Hfin := Lib.hid hfin
          have hd0 : decide (0 < n) = true := decide_eq_true (by omega)
          clear hlk2 hfin hh2
          go_wp2_with fail
          go_region_held3 (fun w' => w'.cell? ⟨wb, 0, none⟩ = some (.int .i64 (n : Nat)) ∧ w'.cell? ⟨wb, 1, none⟩ = some (.int .i64 (v : Nat)) ∧ w'.cell? ⟨c, 0, none⟩ = some (.map (some m1)) ∧ w'.cell? ⟨c, 2, none⟩ = some (.map (some m2))) (go_keep) (fail)
          go_wp2_with fail
          go_region_held3 (fun w' => w'.cell? ⟨wb, 0, none⟩ = some (.int .i64 (n : Nat)) ∧ w'.cell? ⟨wb, 1, none⟩ = some (.int .i64 (v : Nat)) ∧ w'.cell? ⟨c, 0, none⟩ = some (.map (some m1)) ∧ w'.cell? ⟨c, 2, none⟩ = some (.map (some m2))) (go_keep) (fail)
          go_wp2
          go_ret2
          unfold NextPost
          rw [Hfin.out]
          exact ⟨rfl, Hend.out 2 (.int .i64 0, 6, 0) rfl⟩
        · have hs2 : nextFrom (D1of L (ord L 15)) (D2of L (ord L 15)) l 16 0 = if l.length ≤ n then (.int .i64 0, 2, 0) else nextFrom (D1of L (ord L 15)) (D2of L (ord L 15)) l g' (n + 1) := by rw [HN.out, Hstep.out, if_neg hno]
          have Hs2 := Lib.hid hs2
          clear hs2
          have hgd : ∃ b : Bool, decide (0 < n) = b ∧ (b = true → has (n, v) (D2of L (ord L 15)) = some (.bool true)) := by
            by_cases h0 : 0 < n
            · cases hh2 : has (n, v) (D2of L (ord L 15)) with
              | none => exact (hno ⟨h0, hh2⟩).elim
              | some x => rw [HD2.out _ _ hh2] ; exact ⟨true, decide_eq_true (by omega), fun _ => rfl⟩
            · exact ⟨false, decide_eq_false (by omega), fun h => by cases h⟩
          obtain ⟨b, hd0, hb⟩ := hgd
          have hlk2' : b = true → (Instr.lookup 83 (.map (some m2)) (.agg #[.int .i64 (n : Nat), .int .i64 (v : Nat)]) false).run Try.prog wr.drew.drew = .ok (.bool true) wr.drew.drew := by
            intro h
            have := hlk2 2
            simp only [hb h, Option.getD_some] at this
            exact this
          clear hlk2 hno hb
          by_cases hln : l.length ≤ n
          · have hfin : nextFrom (D1of L (ord L 15)) (D2of L (ord L 15)) l 16 0 = (.int .i64 0, 2, 0) := by rw [Hs2.out, if_pos hln]
            have Hfin := Lib.hid hfin
            have Hl := Lib.hid (look_none hln)
            clear hfin
            cases b
            · clear hlk2'
              go_wp2_with fail
              go_region_held3 (fun w' => w'.cell? ⟨wb, 0, none⟩ = some (.int .i64 (n : Nat)) ∧ w'.cell? ⟨wb, 1, none⟩ = some (.int .i64 (v : Nat)) ∧ w'.cell? ⟨c, 0, none⟩ = some (.map (some m1)) ∧ w'.cell? ⟨c, 2, none⟩ = some (.map (some m2))) (go_keep) (fail)
              go_wp2_with fail
              go_quiet (fail)
              go_wp2_with (go_at_call 58; refine (look_rd ((hS1.drewN _).front 5 _ rfl) n (by omega)).mono ?_; rw [Hl.out]; rintro e w' ⟨rfl, k2, rfl⟩)
              go_ret2
              unfold NextPost
              rw [Hfin.out]
              exact ⟨rfl, Hend.out _ (.int .i64 0, 2, 0) rfl⟩
            · have hlk3 := hlk2' rfl
              clear hlk2'
              go_wp2_with fail
              go_region_held3 (fun w' => w'.cell? ⟨wb, 0, none⟩ = some (.int .i64 (n : Nat)) ∧ w'.cell? ⟨wb, 1, none⟩ = some (.int .i64 (v : Nat)) ∧ w'.cell? ⟨c, 0, none⟩ = some (.map (some m1)) ∧ w'.cell? ⟨c, 2, none⟩ = some (.map (some m2))) (go_keep) (fail)
              go_wp2_with fail
              go_region_held3 (fun w' => w'.cell? ⟨wb, 0, none⟩ = some (.int .i64 (n : Nat)) ∧ w'.cell? ⟨wb, 1, none⟩ = some (.int .i64 (v : Nat)) ∧ w'.cell? ⟨c, 0, none⟩ = some (.map (some m1)) ∧ w'.cell? ⟨c, 2, none⟩ = some (.map (some m2))) (go_keep) (fail)
              go_wp2_with (go_at_call 58; refine (look_rd (hS1.drew.drew.front 5 _ rfl) n (by omega)).mono ?_; rw [Hl.out]; rintro e w' ⟨rfl, k2, rfl⟩)
              go_ret2
              unfold NextPost
              rw [Hfin.out]
              exact ⟨rfl, Hend.out _ (.int .i64 0, 2, 0) rfl⟩
          · have hln' : n < l.length := by omega
            have hl0 : look l n = (l[n].toNat : Int) := look_some hln'
            obtain ⟨d, Hd⟩ : ∃ d, Hid (d = l[n].toNat) := ⟨l[n].toNat, Lib.hid rfl⟩
            have hd2 : d < 2 := by rw [Hd.out]; cases l[n] <;> simp
            rw [← Hd.out] at hl0
            have Hl := Lib.hid hl0
            have Hv1 : Hid (v ||| d * 2 ^ n = num (l.take (n + 1))) := by
              unfold Hid
              rw [num_take_succ l n hln', Hv.out, Hd.out]
            have hv1 : v ||| d * 2 ^ n < 65536 := by
              rw [Hv1.out]
              exact num_take_lt l (n + 1) 16 (by omega)
            have Hfin : Hid (nextFrom (D1of L (ord L 15)) (D2of L (ord L 15)) l 16 0 = nextFrom (D1of L (ord L 15)) (D2of L (ord L 15)) l g' (n + 1)) := by
              unfold Hid
              rw [Hs2.out, if_neg hln]
            have hp : d * 2 ^ n < 2 ^ 63 := by
              have h1 : 2 ^ n ≤ 2 ^ 15 := Nat.pow_le_pow_right (by omega) (by omega)
              have h2 : d * 2 ^ n ≤ 1 * 2 ^ 15 := Nat.mul_le_mul (by omega) h1
              omega
            have Hor := Lib.hid (or_shl_i64 v d n (by omega) hp)
            clear hl0 hln hp
            have hdn : decide ((d : Int) < 0) = false := decide_eq_false (by omega)
            cases b
            · clear hlk2'
              go_wp2_with fail
              go_region_held3 (fun w' => w'.cell? ⟨wb, 0, none⟩ = some (.int .i64 (n : Nat)) ∧ w'.cell? ⟨wb, 1, none⟩ = some (.int .i64 (v : Nat)) ∧ w'.cell? ⟨c, 0, none⟩ = some (.map (some m1)) ∧ w'.cell? ⟨c, 2, none⟩ = some (.map (some m2))) (go_keep) (fail)
              go_wp2_with fail
              go_quiet (fail)
              go_wp2_with (go_at_call 58; refine (look_rd ((hS1.drewN _).front 5 _ rfl) n (by omega)).mono ?_; rw [Hl.out]; rintro e w' ⟨rfl, k2, rfl⟩)
              go_roundg g'
              case measure => omega
              case rel =>
                refine ⟨n + 1, v ||| d * 2 ^ n, by omega, by omega, Hv1, hv1, Hfin, ?_⟩
                rw [Hor.out]
                exact ((hS1.drewN _).setCell (i := 1) _).setCell (i := 0) _
            · have hlk3 := hlk2' rfl
              clear hlk2'
              go_wp2_with fail
              go_region_held3 (fun w' => w'.cell? ⟨wb, 0, none⟩ = some (.int .i64 (n : Nat)) ∧ w'.cell? ⟨wb, 1, none⟩ = some (.int .i64 (v : Nat)) ∧ w'.cell? ⟨c, 0, none⟩ = some (.map (some m1)) ∧ w'.cell? ⟨c, 2, none⟩ = some (.map (some m2))) (go_keep) (fail)
              go_wp2_with fail
              go_region_held3 (fun w' => w'.cell? ⟨wb, 0, none⟩ = some (.int .i64 (n : Nat)) ∧ w'.cell? ⟨wb, 1, none⟩ = some (.int .i64 (v : Nat)) ∧ w'.cell? ⟨c, 0, none⟩ = some (.map (some m1)) ∧ w'.cell? ⟨c, 2, none⟩ = some (.map (some m2))) (go_keep) (fail)
              go_wp2_with (go_at_call 58; refine (look_rd (hS1.drew.drew.front 5 _ rfl) n (by omega)).mono ?_; rw [Hl.out]; rintro e w' ⟨rfl, k2, rfl⟩)
              go_roundg g'
              case measure => omega
              case rel =>
                refine ⟨n + 1, v ||| d * 2 ^ n, by omega, by omega, Hv1, hv1, Hfin, ?_⟩
                rw [Hor.out]
                exact ((hS1.drewN _).setCell (i := 1) _).setCell (i := 0) _
    · obtain rfl : gk = 0 := by omega
      obtain rfl : n = 16 := by omega
      have hd15 : decide (((16 : Nat) : Int) ≤ 15) = false := by decide
      have hfin : nextFrom (D1of L (ord L 15)) (D2of L (ord L 15)) l 16 0 = (.int .i64 0, 6, 0) := by
        rw [HN.out]; simp only [nextFrom]; rw [if_neg (by omega)]
      have Hfin := Lib.hid hfin
      have hl0 : ((l.length : Int) == 0) = false := beq_eq_false_iff_ne.2 (by omega)
      clear hfin
      go_wp2_with (go_at_call 28; refine (have_rd (hS1.front 5 _ rfl)).mono ?_; rintro e w' ⟨rfl, k2, rfl⟩)
      go_ret2
      unfold NextPost
      rw [Hfin.out]
      exact ⟨rfl, (code_shut (Sat.perm (As := [_, _, _, _, _, _]) (hS1.drewN k2) [1, 2, 3, 4, 5] [_, _, _, _, _] rfl (by simp))).swap⟩

end Go.Proofs.Ytobkmkdnkdbgeaa
