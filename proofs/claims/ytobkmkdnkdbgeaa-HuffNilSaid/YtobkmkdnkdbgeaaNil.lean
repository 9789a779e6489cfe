/- The law HuffNil: a nil code, a nil reader, a reader of bytes of any number. -/
import Derived.Test.YtobkmkdnkdbgeaaReads
namespace Go.Proofs.Ytobkmkdnkdbgeaa
open Go.RowKit Go.Hal
set_option linter.unusedVariables false
set_option linter.unusedSimpArgs false

set_option maxHeartbeats 400000 in
theorem feed_big {w : World} {r : Nat} {Rs : List Res} (hS : Sat w (rd r [] :: Rs)) {v : Value} {ys : List UInt8} (hv : SlR w 5 1 ys.length v (ys.map byteV)) (hb : ys.length ≤ 140737488355328) :
    Calls Try.prog 56 #[.pointer (some ⟨r, 0, none⟩), v] w fun e w' => e = .returned (.tuple #[]) ∧ ∃ v', Sat w' (blk r (.cells #[v', .int .i64 (0 : Nat)] 108 (0, 0)) :: sl 5 1 ys.length v' (ys.map byteV) :: Rs) := by
  obtain ⟨v0, bs, off, h, h1, h2, hl, h3⟩ := rd_open hS
  have hlen : 0 = 8 * bs.length - off := by have := congrArg List.length hl; simpa using this
  have hb0 : bs.length = 0 := by omega
  obtain rfl : bs = [] := List.eq_nil_of_length_eq_zero hb0
  obtain rfl : off = 0 := by simpa using h2
  obtain ⟨c0, c1, f0, f1⟩ := rd_cells h
  have hsrc := hv.src (P := Try.prog) Try.underlying43 (byteV_one ys)
  clear hl hlen hb0
  obtain ⟨F, ao, cap, rfl, -, -, -, -⟩ := h.at_ 1 _ rfl
  obtain ⟨ao2, cap2, rfl, -, -, -, -⟩ := hv
  obtain ⟨i0, hi, hz0, hz1, hz2⟩ := info_parts Try.infoU8
  go_enter Try.func56, Try.ntmps56
  go_wp2_with (at_builtin; refine wpList_append_sat _ rfl _ _ 43 43 rfl 5 i0 (.int .u8 0) 1 1 Try.underlying43 hi hz0 hz1 hz2 rfl (by decide) ([] : List UInt8).length _ _ _ rfl h.swap ys.length _ _ rfl hsrc ?_ ?_ ?_)
  · simp; unfold maxLen; omega
  · simp; omega
  · intro v' w' hS'
    obtain ⟨d0, d1, e0, e1⟩ := rd_cells hS'.swap
    obtain ⟨F', ao', cap', rfl, -, -, -, -⟩ := hS'.at_ 0 _ rfl
    go_wp2
    go_end0
    have g := hS'.swap.setCell (i := 0) (.slice ao' (([] : List UInt8).length + ys.length) cap')
    refine ⟨rfl, .slice ao' (([] : List UInt8).length + ys.length) cap', ?_⟩
    simpa using g

theorem reader_big {w : World} {Rs : List Res} (hS : Sat w Rs) (v : Value) (ys : List UInt8) (hv : ∀ w', Sat w' Rs → SlR w' 5 1 ys.length v (ys.map byteV)) (hb : ys.length ≤ 140737488355328) :
    Calls Try.prog 25 #[v] w fun e w' => ∃ r v', e = .returned (.pointer (some ⟨r, 0, none⟩)) ∧ Sat w' (blk r (.cells #[v', .int .i64 (0 : Nat)] 108 (0, 0)) :: sl 5 1 ys.length v' (ys.map byteV) :: Rs) := by
  have hn := new_rd hS
  obtain ⟨ao, cap, rfl, -, -, -, -⟩ := hv w hS
  have Hv := Lib.hid hv
  clear hv
  go_enter Try.func25, Try.ntmps25
  go_wp2_with (first
    | (go_at_call 55; refine hn.mono ?_; rintro e w1 ⟨rfl, hS1⟩)
    | (go_at_call 56; refine (feed_big hS1 (Hv.out _ hS1.tail) hb).mono ?_; rintro e w2 ⟨rfl, v', hS2⟩))
  go_ret
  exact ⟨_, v', rfl, hS2⟩

set_option maxHeartbeats 400000 in
theorem have_big {w : World} {r n cap : Nat} {ao : Option Addr} {Rs : List Res} (hS : Sat w (blk r (.cells #[.slice ao n cap, .int .i64 (0 : Nat)] 108 (0, 0)) :: Rs)) (hb : n ≤ 140737488355328) :
    Calls Try.prog 28 #[.pointer (some ⟨r, 0, none⟩)] w fun e w' => e = .returned (.int .i64 (8 * n : Nat)) ∧ ∃ k, w' = w.drewN k := by
  obtain ⟨c0, c1, -, -⟩ := rd_cells hS
  clear hS
  go_enter Try.func28, Try.ntmps28
  go_wp2
  go_quiet (fail)
  go_wp2
  go_ret
  refine ⟨ret_int ?_, nq, rfl⟩
  simp

set_option maxHeartbeats 400000 in
theorem next_nilcode {w : World} {r n cap : Nat} {ao : Option Addr} {Rs : List Res} (hS : Sat w (blk r (.cells #[.slice ao n cap, .int .i64 (0 : Nat)] 108 (0, 0)) :: Rs)) (hb : n ≤ 140737488355328) :
    Calls Try.prog 26 #[.pointer none, .pointer (some ⟨r, 0, none⟩)] w fun e w' => e = .returned (.tuple #[.int .i64 0, .int .i64 (if n = 0 then 2 else 6 : Nat)]) ∧ Sat w' Rs := by
  have h0 := hS.alloc_drop (.cells #[.int .i64 0, .int .i64 0] 88)
  by_cases hn : n = 0
  · have hz : (((8 * n : Nat) : Int) == 0) = true := by simp [hn]
    have Hn := Lib.hid hn
    clear hn hS
    go_enter Try.func26, Try.ntmps26
    go_wp2
    refine wp_loop_rounds 1 ?_
    rw [rounds_succ]
    go_wp2_with (go_at_call 28; refine (have_big h0 hb).mono ?_; rintro e w2 ⟨rfl, k, rfl⟩)
    go_ret2
    exact ⟨rfl, (h0.drewN k).tail⟩
  · have hz : (((8 * n : Nat) : Int) == 0) = false := by simp; omega
    have Hn := Lib.hid hn
    clear hn hS
    go_enter Try.func26, Try.ntmps26
    go_wp2
    refine wp_loop_rounds 1 ?_
    rw [rounds_succ]
    go_wp2_with (go_at_call 28; refine (have_big h0 hb).mono ?_; rintro e w2 ⟨rfl, k, rfl⟩)
    go_ret2
    exact ⟨rfl, (h0.drewN k).tail⟩

theorem look_nil (w : World) : Calls Try.prog 58 #[.pointer none, .int .i64 0] w fun e w' => e = .returned (.int .i64 (-1)) ∧ w = w' := by
  go_enter Try.func58, Try.ntmps58
  go_wp2_with (go_at_call 28; refine (have_nil _).mono ?_; rintro e w2 ⟨rfl, rfl⟩)
  go_ret
  exact ⟨rfl, rfl⟩

set_option maxHeartbeats 1000000 in
theorem next_nilreader {w : World} {c : Nat} {L : List Nat} {Rs : List Res} (hS : Sat w (code c L :: Rs)) :
    Calls Try.prog 26 #[.pointer (some ⟨c, 0, none⟩), .pointer none] w fun e w' => e = .returned (.tuple #[.int .i64 0, .int .i64 2]) ∧ Sat w' Rs := by
  have hh : has (0, 0) (D1of L (ord L 15)) = none := by
    cases h : has (0, 0) (D1of L (ord L 15)) with
    | none => rfl
    | some v =>
      obtain ⟨t, ht, hw, -⟩ := has_D1 _ _ _ _ h
      have := wd_pos ht
      rw [hw] at this
      simp at this
  obtain ⟨m1, m2, vw, h⟩ := code_open hS
  go_enter Try.func26, Try.ntmps26
  go_wp2
  have h0 : Sat (w.alloc (.cells #[.int .i64 0, .int .i64 0] 88)) (blk w.heap.size (.cells #[.int .i64 (0 : Nat), .int .i64 (0 : Nat)] 88 (0, 0)) :: (newRes L (ord L 15) c m1 m2 vw (D2of L (ord L 15)) ++ Rs)) := h.alloc _
  generalize (w.alloc (.cells #[.int .i64 0, .int .i64 0] 88)) = W at h0 ⊢
  generalize w.heap.size = wb at h0 ⊢
  have hblk := (h0.at_ 0 _ rfl).choose_spec.2
  have hcb := (h0.at_ 1 _ rfl).choose_spec.2
  have q0 : W.cell? ⟨wb, 0, none⟩ = some (.int .i64 0) := by rw [cell_of_row W wb 0 _ _ _ hblk]; rfl
  have q1 : W.cell? ⟨wb, 1, none⟩ = some (.int .i64 0) := by rw [cell_of_row W wb 1 _ _ _ hblk]; rfl
  have q2 : W.cell? ⟨c, 0, none⟩ = some (.map (some m1)) := by rw [cell_of_row W c 0 _ _ _ hcb]; rfl
  have q3 : W.cell? ⟨c, 2, none⟩ = some (.map (some m2)) := by rw [cell_of_row W c 2 _ _ _ hcb]; rfl
  have hlk := run_lookup_enc keyW (h0.drew.front 2 _ rfl).mp_at 81 3 Try.underlying81 (.int .i64 0) (fun w => by kernel_rfl) ((0 : Nat), (0 : Nat)) true
  simp only [hh, if_true, Option.getD_none, Option.isSome_none] at hlk
  have hlk' : (Instr.lookup 81 (.map (some m1)) (.agg #[.int .i64 0, .int .i64 0]) true).run Try.prog W.drew = .ok (.tuple #[.int .i64 0, .bool false]) W.drew := hlk
  have Hend : ∀ k, Sat (W.drewN k) Rs := fun k => (Sat.perm (As := [_, _, _, _, _]) (h0.drewN k) [] [] rfl (by simp))
  have HE := Lib.hid Hend
  clear hlk hh hblk hcb Hend
  refine wp_loop_rounds 1 ?_
  rw [rounds_succ]
  go_wp2_with fail
  go_region_held3 (fun w' => w'.cell? ⟨wb, 0, none⟩ = some (.int .i64 0) ∧ w'.cell? ⟨wb, 1, none⟩ = some (.int .i64 0) ∧ w'.cell? ⟨c, 0, none⟩ = some (.map (some m1)) ∧ w'.cell? ⟨c, 2, none⟩ = some (.map (some m2))) (go_keep) (fail)
  go_wp2_with fail
  go_quiet (fail)
  go_wp2_with (go_at_call 58; refine (look_nil _).mono ?_; rintro e w2 ⟨rfl, rfl⟩)
  go_ret2
  exact ⟨rfl, HE.out _⟩

set_option maxRecDepth 100000 in
set_option maxHeartbeats 1000000 in
theorem huffNil_true {w : World} {Rs : List Res} (hS : Sat w Rs) (v : Value) (xs : List Int) (hv : ∀ w', Sat w' Rs → IntsR w' v xs) (u : Value) (ys : List UInt8)
    (hu : ∀ w', Sat w' Rs → SlR w' 5 1 ys.length u (ys.map byteV)) (hb : ys.length ≤ 140737488355328) (sym : Int) :
    Calls Try.prog 7 #[u, v, .int .i64 sym] w fun e w' => e = .returned (.bool true) ∧ Sat w' Rs := by
  have hfix := fixed5_true hS
  obtain ⟨ao, cap, rfl, c1, c2, -⟩ := (hv w hS).cell
  obtain ⟨aou, capu, rfl, u1, u2, -, -⟩ := hu w hS
  unfold maxLen at u2
  have Hv := Lib.hid hv
  have Hu := Lib.hid hu
  clear hv hu
  have hc : ∃ b : Bool, (((ys.length : Nat) : Int) == 0) = b := ⟨_, rfl⟩
  obtain ⟨b, hz⟩ := hc
  obtain ⟨z, Hz⟩ : ∃ z : Nat, Hid ((if ys.length = 0 then 2 else 6) = z) := ⟨_, Lib.hid rfl⟩
  have hzz : (b = true ∧ z = 2) ∨ (b = false ∧ z = 6) := by
    have := Hz.out
    by_cases h : ys.length = 0
    · rw [if_pos h] at this; rw [h] at hz; exact .inl ⟨by rw [← hz]; rfl, this.symm⟩
    · rw [if_neg h] at this
      exact .inr ⟨by rw [← hz]; exact beq_eq_false_iff_ne.2 (by omega), this.symm⟩
  by_cases hck : checkI xs = 0
  · have Hck := Lib.hid hck
    clear hck
    rcases hzz with ⟨rfl, rfl⟩ | ⟨rfl, rfl⟩
    all_goals
      go_enter Try.func7, Try.ntmps7
      go_wp2_with (first
        | (go_at_call 15; refine hfix.mono ?_; rintro e w1 ⟨rfl, hS1⟩)
        | (go_at_call 25; refine (reader_big hS1 _ ys (fun w' h => Hu.out _ h) hb).mono ?_; rintro e w2 ⟨r, v2, rfl, hS2⟩; obtain ⟨F2, ao2, cap2, rfl, -, -, -, -⟩ := hS2.at_ 1 _ rfl)
        | (go_at_call 26; refine (next_nilcode hS2 hb).mono ?_; rw [Hz.out]; rintro e w3 ⟨rfl, hS3'⟩; have hS3 := hS3'.tail; clear hS3' hS2)
        | (go_at_call 18; refine (word_nil _ _).mono ?_; rintro e w4 ⟨rfl, rfl⟩)
        | (go_at_call 16; refine (new_any hS3 _ xs Hv.out).mono ?_; rintro e w5 (⟨-, c, rfl, hS5⟩ | ⟨h, -, -⟩); rotate_left; (exact (h Hck.out).elim))
        | (go_at_call 26; refine (next_nilreader hS5).mono ?_; rintro e w6 ⟨rfl, hS6⟩))
      go_ret
      exact ⟨rfl, hS6⟩
  · have Hck := Lib.hid hck
    have hz0 : ((checkI xs : Int) != 0) = true := by simp; omega
    obtain ⟨y, Hy⟩ : ∃ y, Hid (y = checkI xs) := ⟨_, Lib.hid rfl⟩
    rw [← Hy.out] at hz0
    clear hck
    rcases hzz with ⟨rfl, rfl⟩ | ⟨rfl, rfl⟩
    all_goals
      go_enter Try.func7, Try.ntmps7
      go_wp2_with (first
        | (go_at_call 15; refine hfix.mono ?_; rintro e w1 ⟨rfl, hS1⟩)
        | (go_at_call 25; refine (reader_big hS1 _ ys (fun w' h => Hu.out _ h) hb).mono ?_; rintro e w2 ⟨r, v2, rfl, hS2⟩; obtain ⟨F2, ao2, cap2, rfl, -, -, -, -⟩ := hS2.at_ 1 _ rfl)
        | (go_at_call 26; refine (next_nilcode hS2 hb).mono ?_; rw [Hz.out]; rintro e w3 ⟨rfl, hS3'⟩; have hS3 := hS3'.tail; clear hS3' hS2)
        | (go_at_call 18; refine (word_nil _ _).mono ?_; rintro e w4 ⟨rfl, rfl⟩)
        | (go_at_call 16; refine (new_any hS3 _ xs Hv.out).mono ?_; rintro e w5 (⟨h, -, -, -⟩ | ⟨-, rfl, hS5⟩); (exact (Hck.out h).elim); rw [← Hy.out]))
      go_ret
      exact ⟨rfl, hS5⟩

end Go.Proofs.Ytobkmkdnkdbgeaa
