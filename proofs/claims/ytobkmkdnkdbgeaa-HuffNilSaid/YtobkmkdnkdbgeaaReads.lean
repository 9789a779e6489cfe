/- The law HuffReads: its walk. -/
import Derived.Test.YtobkmkdnkdbgeaaRefN
namespace Go.Proofs.Ytobkmkdnkdbgeaa
open Go.RowKit Go.Hal
set_option linter.unusedVariables false
set_option linter.unusedSimpArgs false

/-- What stays of a slice behind its first m elements. -/
theorem Sat.sl_drop {w : World} {Rs : List Res} {e : Nat} {b off cap : Nat} {xs : List Value} (hS : Sat w (sl e 1 xs.length (.slice (some ⟨b, off, none⟩) xs.length cap) xs :: Rs)) (m : Nat) (hm : m ≤ xs.length) :
    Sat w (sl e 1 (xs.drop m).length (.slice (if cap = m then some ⟨b, off, none⟩ else some ⟨b, off + m, none⟩) (xs.length - m) (cap - m)) (xs.drop m) :: Rs) := by
  refine hS.conv fun F h => ?_
  obtain ⟨ao, cap', heq, h1, h2, h3, h4⟩ := h
  simp only [Value.slice.injEq, true_and] at heq
  obtain ⟨rfl, rfl⟩ := heq
  rw [List.length_drop]
  refine ⟨_, _, rfl, by omega, by omega, by simp, fun hc => ?_⟩
  obtain ⟨b', off', cur, heq, r2, r3, r4, r5⟩ := h4 (by omega)
  simp only [Option.some.injEq, Addr.mk.injEq, and_true] at heq
  obtain ⟨rfl, rfl⟩ := heq
  refine ⟨b, off + m, cur, if_neg (by omega), r2, r3, by omega, fun j u hu => ?_⟩
  rw [List.getElem?_drop] at hu
  have := r5 _ u hu
  rw [← Nat.add_assoc] at this
  exact this

theorem bitsI_drop (l : List Bool) (n : Nat) : ((bitsI l).map intV).drop n = (bitsI (l.drop n)).map intV := by simp [bitsI, List.map_drop]
theorem bitsI_len (l : List Bool) : ((bitsI l).map intV).length = l.length := by simp [bitsI]

theorem bytes_row {w : World} {a : Option Addr} {len cap : Nat} {zs : List Int}
    (h : (a = none ∧ len = 0 ∧ cap = 0 ∧ zs = []) ∨ ∃ x, a = some x ∧ len ≤ cap ∧ cap ≤ maxLen ∧ zs.length = cap ∧ (∀ i, i < zs.length → w.cell? (x.add i) = some (.int .u8 (zs.getD i 0))) ∧ ∀ n ∈ zs, (Lit.int .u8 n).wf = true) :
    ∃ ys : List UInt8, ys.length = len ∧ ∀ w', Sat w' [env w] → SlR w' 5 1 ys.length (.slice a ys.length cap) (ys.map byteV) := by
  obtain ⟨ys, h1, h2, h3⟩ := nats_row 256 wf_u8 5 h
  refine ⟨ys.map UInt8.ofNat, by simpa using h1, fun w' hS => ?_⟩
  have h4 := h3 w' hS
  have he : (ys.map UInt8.ofNat).map byteV = ys.map fun y : Nat => Value.int .u8 y := by
    rw [List.map_map]
    refine List.map_congr_left fun y hy => ?_
    simp [byteV, UInt8.toNat_ofNat, Nat.mod_eq_of_lt (h2 y hy)]
  rw [he, List.length_map]
  exact h4

theorem decL_le {L : List Nat} (l : List Bool) : (decL L l).2.2 ≤ l.length ∧ ((decL L l).2.1 = 0 → 0 < (decL L l).2.2 ∨ ∃ t ∈ ord L 15, (wd L t).1 = 0) := by
  unfold decL
  cases hfd : (ord L 15).find? (fun t => decide (hits L l t)) with
  | none =>
    simp only
    split <;> simp
  | some t =>
    have h1 := List.mem_of_find?_eq_some hfd
    have h2 := List.find?_some hfd
    simp only [decide_eq_true_eq] at h2
    refine ⟨h2.1, fun _ => ?_⟩
    simp only
    rcases Nat.eq_zero_or_pos (wd L t).1 with h | h
    · exact .inr ⟨t, h1, h⟩
    · exact .inl h

theorem wd_pos {L : List Nat} {t : Nat} (h : t ∈ ord L 15) : 0 < (wd L t).1 := by
  obtain ⟨n, h1, -, h3⟩ := (mem_ord _ _ _).1 h
  rw [wd_at h3]; exact h1
theorem decL_good {L : List Nat} {l : List Bool} {s e n : Nat} (h : decL L l = (s, e, n)) : n ≤ l.length ∧ (e = 0 → 0 < n) ∧ (e ≠ 0 → n = 0) := by
  have h1 := decL_le (L := L) l
  rw [h] at h1
  refine ⟨h1.1, fun h2 => (h1.2 h2).elim id fun ⟨t, ht, h3⟩ => by have := wd_pos ht; omega, ?_⟩
  unfold decL at h
  split at h
  · cases h; exact fun h => absurd rfl h
  · split at h <;> cases h <;> exact fun _ => rfl

set_option maxRecDepth 100000 in
set_option maxHeartbeats 2000000 in
theorem huffReads_true {w : World} {Rs : List Res} (hS : Sat w Rs) (v : Value) (xs : List Int) (hv : ∀ w', Sat w' Rs → IntsR w' v xs) (u : Value) (ys : List UInt8)
    (hu : ∀ w', Sat w' Rs → SlR w' 5 1 ys.length u (ys.map byteV)) :
    Calls Try.prog 6 #[v, u] w fun e w' => e = .returned (.bool true) ∧ Sat w' Rs := by
  have hfix := fixed5_true hS
  obtain ⟨ao, cap, rfl, c1, c2, -⟩ := (hv w hS).cell
  obtain ⟨aou, capu, rfl, u1, u2, -, -⟩ := hu w hS
  unfold maxLen at u2
  have Hv := Lib.hid hv
  have Hu := Lib.hid hu
  clear hv hu
  by_cases hck : checkI xs = 0
  · obtain ⟨g1, g2, g3, g4⟩ := checkI_ok hck
    have Hck := Lib.hid hck
    have Hf := Lib.hid g4
    have Hx := Lib.hid g3
    have hlen := natL_length xs
    have Hlen := Lib.hid hlen
    have hv2 : ∀ w', Sat w' Rs → IntsR w' (.slice ao xs.length cap) (natsV (natL xs)) := by rw [g2]; exact Hv.out
    have Hv2 := Lib.hid hv2
    clear hck g2 g3 g4 hlen hv2
    by_cases hbig : 200 < ys.length
    · have hd : decide (200 < ys.length) = true := decide_eq_true hbig
      go_enter Try.func6, Try.ntmps6
      go_wp2_with (first
        | (go_at_call 15; refine hfix.mono ?_; rintro e w1 ⟨rfl, hS1⟩)
        | (go_at_call 16; refine (new_any hS1 _ xs Hv.out).mono ?_; rintro e w2 (⟨-, c, rfl, hS2⟩ | ⟨h, -, -⟩); rotate_left; (exact (h Hck.out).elim))
        | (go_at_call 17; refine (check_any _ xs _ (Hv.out _ hS2.tail)).mono ?_; rw [Hck.out]; rintro e w3 ⟨rfl, rfl⟩))
      go_ret
      exact ⟨rfl, hS2.tail⟩
    · have hd : decide (200 < ys.length) = false := decide_eq_false hbig
      go_enter Try.func6, Try.ntmps6
      go_wp2_with (first
        | (go_at_call 15; refine hfix.mono ?_; rintro e w1 ⟨rfl, hS1⟩)
        | (go_at_call 16; refine (new_any hS1 _ xs Hv.out).mono ?_; rintro e w2 (⟨-, c, rfl, hS2⟩ | ⟨h, -, -⟩); rotate_left; (exact (h Hck.out).elim))
        | (go_at_call 17; refine (check_any _ xs _ (Hv.out _ hS2.tail)).mono ?_; rw [Hck.out]; rintro e w3 ⟨rfl, rfl⟩)
        | (go_at_call 19; refine (words_any hS2 (.slice ao xs.length cap) (natL xs) (fun w' h => Hv2.out w' h.tail) (by rw [Hlen.out]; exact g1) Hx.out).mono ?_; rintro e w5 ⟨out, T, P, rfl, hT, hTP, hS5⟩; have HT := Lib.hid hT; have HTP := Lib.hid hTP; clear hT hTP)
        | (go_at_call 24; refine (refBits_any hS5 _ ys (fun w' h => Hu.out _ h.tail.tail.tail) (by omega)).mono ?_; rintro e w6 ⟨lv, rfl, hS6⟩)
        | (go_at_call 25; refine (reader_any hS6 _ ys (fun w' h => Hu.out _ h.tail.tail.tail.tail) (by omega)).mono ?_; rintro e w7 ⟨r, rfl, hS7⟩))
      have hTn : T.length ≤ 288 := by
        have h1 : T.length = (ord (natL xs) 15).length := by rw [← HT.out, List.length_map]
        have h2 := ws_le (natL xs)
        rw [ord_ws _ Hx.out] at h1
        rw [Hlen.out] at h2
        omega
      go_loopw [8] (fun lv wr => ∃ l : List Bool, l.length ≤ 1600 ∧ Sat wr (rd r l :: code c (natL xs) :: sl 3 1 l.length lv ((bitsI l).map intV) :: sl 34 2 T.length out (wordC T) :: pool P :: Rs)) (fun lv _ => match lv with | .slice _ n _ => n | _ => 0)
      case atStart => exact ⟨bitsOf ys, by simp; omega, Sat.perm (As := [_, _, _, _, _]) hS7 [0, 4, 1, 2, 3] [_, _, _, _, _] rfl (by simp)⟩
      case round =>
        obtain ⟨l, hl, hS8⟩ := hrel
        obtain ⟨F8, ao8, cap8, rfl, k8, -, -, hc8⟩ := hS8.at_ 2 _ rfl
        have hnx := next_ok hS8 Hf.out
        obtain ⟨⟨s, e, n⟩, hD⟩ : ∃ D, decL (natL xs) l = D := ⟨_, rfl⟩
        obtain ⟨d1, d2, d3⟩ := decL_good hD
        rw [hD] at hnx
        have hrx : ∀ w', Sat w' (rd r (l.drop n) :: code c (natL xs) :: sl 3 1 l.length (.slice ao8 l.length cap8) ((bitsI l).map intV) :: sl 34 2 T.length out (wordC T) :: pool P :: Rs) →
            Calls Try.prog 27 #[out, .slice ao8 l.length cap8] w' fun e' w'' => e' = .returned (.tuple #[.int .i64 (s : Nat), .int .i64 (n : Nat), .int .i64 (e : Nat)]) ∧ Sat w'' (sl 34 2 T.length out (wordC T) :: pool P :: rd r (l.drop n) :: code c (natL xs) :: sl 3 1 l.length (.slice ao8 l.length cap8) ((bitsI l).map intV) :: Rs) := by
          intro w' h
          have h2 := refNext_any (Sat.perm (As := [_, _, _, _, _]) h [3, 4, 0, 1, 2] [_, _, _, _, _] rfl (by simp)) HT.out HTP.out hTn (.slice ao8 l.length cap8) l (fun w'' h => by
            have := (h.at_ 2 _ rfl).choose_spec.read
            unfold IntsR
            rw [show (bitsI l).length = l.length by simp [bitsI]]
            exact this)
          rw [hD] at h2
          exact h2
        have Hnx := Lib.hid hnx
        have Hrx := Lib.hid hrx
        clear hnx hrx hD
        by_cases he0 : e = 0
        · subst he0
          have d2' := d2 rfl
          have Hd := Lib.hid d2'
          have hl0 : 0 < cap8 := by omega
          obtain ⟨b8, o8, cur8, rfl, -, -, -, -⟩ := hc8 hl0
          clear d2 d3 hl0 hc8
          have hsame : (((l.drop n).length : Nat) : Int) = ((l.length - n : Nat) : Int) := by simp
          have Hsame := Lib.hid hsame
          clear hsame
          go_wp2_with (first
            | (go_at_call 26; refine Hnx.out.mono ?_; rintro e' w9 ⟨rfl, hS9⟩)
            | (go_at_call 27; refine (Hrx.out _ hS9).mono ?_; rintro e' w10 ⟨rfl, hS10⟩)
            | (go_at_call 28; refine (have_rd (Sat.front hS10 2 _ rfl)).mono ?_; rw [Hsame.out]; rintro e' w11 ⟨rfl, n11, rfl⟩))
          have hS11 := (Sat.perm (As := [_, _, _, _, _]) hS10 [4, 2, 3, 0, 1] [_, _, _, _, _] rfl (by simp)).drewN n11
          rw [show l.length = ((bitsI l).map intV).length from (bitsI_len l).symm] at hS11
          have hS12 := Sat.sl_drop hS11 n (by rw [bitsI_len]; exact d1)
          rw [bitsI_drop, bitsI_len, bitsI_len] at hS12
          refine ⟨⟨l.drop n, by rw [List.length_drop]; omega, Sat.perm (As := [_, _, _]) hS12 [1, 2, 0] [_, _, _] rfl (by simp)⟩, ?_⟩
          show l.length - n < l.length
          have := Hd.out
          omega
        · have d4 := d3 he0
          subst d4
          have hz : ((e : Int) != 0) = true := by simp; omega
          have He0 := Lib.hid he0
          clear d2 d3 hc8 he0
          go_wp2_with (first
            | (go_at_call 26; refine Hnx.out.mono ?_; rintro e' w9 ⟨rfl, hS9⟩)
            | (go_at_call 27; refine (Hrx.out _ hS9).mono ?_; rintro e' w10 ⟨rfl, hS10⟩)
            | (go_at_call 28; refine (have_rd (Sat.front hS10 2 _ rfl)).mono ?_; rintro e' w11 ⟨rfl, n11, rfl⟩))
          go_ret
          exact ⟨ret_bool (by simp), Sat.drewN (Sat.perm (As := [_, _, _, _, _]) hS10 [] [] rfl (by simp)) _⟩
  · have Hck := Lib.hid hck
    have hz0 : ((checkI xs : Int) != 0) = true := by simp; omega
    obtain ⟨z, Hz⟩ : ∃ z, Hid (z = checkI xs) := ⟨_, Lib.hid rfl⟩
    rw [← Hz.out] at hz0
    clear hck
    go_enter Try.func6, Try.ntmps6
    go_wp2_with (first
      | (go_at_call 15; refine hfix.mono ?_; rintro e w1 ⟨rfl, hS1⟩)
      | (go_at_call 16; refine (new_any hS1 _ xs Hv.out).mono ?_; rintro e w2 (⟨h, -, -, -⟩ | ⟨-, rfl, hS2⟩); (exact (Hck.out h).elim); rw [← Hz.out])
      | (go_at_call 17; refine (check_any _ xs _ (Hv.out _ hS2)).mono ?_; rw [← Hz.out]; rintro e w3 ⟨rfl, rfl⟩))
    go_ret
    exact ⟨rfl, hS2⟩

end Go.Proofs.Ytobkmkdnkdbgeaa
