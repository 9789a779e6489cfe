/- The document's inflate: a block that tells its codes. -/
import Derived.Test.YtdpocnkeokplpaaGreatRunQ
import Derived.Test.YtdpocnkeokplpaaGreatRunO
import Derived.Test.YtdpocnkeokplpaaGreatRunF
namespace Go.Proofs.YtdpocnkeokplpaaGreat
open Go.RowKit Go.Hal
set_option linter.unusedVariables false
set_option linter.unusedSimpArgs false

theorem SlR.rest {w : World} {e : TypeId} {ao : Option Addr} {n cap : Nat} {xs : List Value} (h : SlR w e 1 n (.slice ao n cap) xs) (k : Nat) (hk : k ≤ n) :
    SlR w e 1 (n - k) (.slice (if cap = k then ao else Option.map (fun x => x.add k) ao) (n - k) (cap - k)) (xs.drop k) := by
  obtain ⟨ao', cap', heq, k1, k2, k3, k4⟩ := h
  simp only [Value.slice.injEq, true_and] at heq
  obtain ⟨rfl, rfl⟩ := heq
  refine ⟨_, _, rfl, by omega, by omega, by rw [List.length_drop]; omega, fun h0 => ?_⟩
  obtain ⟨b', o', rfl, hb, hc⟩ := k4 (by omega)
  refine ⟨b', o' + k, ?_, hb, fun j u hu => ?_⟩
  · rw [if_neg (by omega)]
    show some (Addr.add _ k) = _
    rw [Addr.add_lit]
  · rw [List.getElem?_drop] at hu
    have := hc _ u hu
    rw [← Nat.add_assoc] at this
    exact this
theorem lens19_le (k : Nat) (l : List Bool) : ∀ x ∈ lens19 k l, x ≤ 15 := by
  intro x hx
  unfold lens19 at hx
  obtain ⟨s, -, rfl⟩ := List.mem_map.1 hx
  split
  · have := num_take_lt (l.drop (3 * ord19.idxOf s)) 3 3 (Nat.le_refl _)
    omega
  · omega
theorem ws_pos {L : List Nat} (h : 0 < ws L) : ∃ x ∈ L, 0 < x := by
  unfold ws at h
  obtain ⟨x, hx⟩ := List.exists_mem_of_length_pos h
  obtain ⟨h1, h2⟩ := List.mem_filter.1 hx
  exact ⟨x, h1, of_decide_eq_true h2⟩
theorem pos_ws {L : List Nat} (h : ∃ x ∈ L, 0 < x) : 0 < ws L := by
  obtain ⟨x, h1, h2⟩ := h
  unfold ws
  exact List.length_pos_of_mem (List.mem_filter.2 ⟨h1, decide_eq_true h2⟩)
theorem num5 (l : List Bool) : num (l.take 5) = num (l.take 14) % 32 ∧ num ((l.drop 5).take 5) = num (l.take 14) / 32 % 32 ∧ num (((l.drop 5).drop 5).take 4) = num (l.take 14) / 1024 := by
  rw [num_take, num_take, num_take, num_take, num_drop, num_drop, num_drop]
  generalize num l = N
  rw [show (2 ^ 5 : Nat) = 32 by rfl, show (2 ^ 14 : Nat) = 16384 by rfl, show (2 ^ 4 : Nat) = 16 by rfl]
  omega
theorem ints_nats {w : World} {n : Nat} {v : Value} {L : List Nat} (hl : L.length = n) (h : SlR w 3 1 n v ((natsV L).map intV)) : IntsR w v (natsV L) := by
  unfold IntsR
  rw [show (natsV L).length = n by unfold natsV; rw [List.length_map, hl]]
  exact h

/-- What lies there while lengths are read. -/
def toldL (p : Nat) (lim : Int) (Fc : List Nat) (T : List (Nat × Value)) (wv : Value) (P : List Ent) (lb : Nat) (Rs : List Res) (row : List Nat) (v : Value) (r : RunS) : List Res :=
  run p lim r :: sl 156 2 T.length wv (wordC T) :: pool P :: sl 3 1 row.length v ((natsV row).map intV) :: sl 3 1 19 (.slice (some ⟨lb, 0, none⟩) 19 19) ((natsV Fc).map intV) :: Rs
def LensI (lim : Int) (s0 : DS) (last : Bool) (Fc : List Nat) (lits dists : Nat) (row : List Nat) (r : RunS) : Prop :=
  (r.e = 0 ∧ row.length ≤ lits + dists ∧ (∀ x ∈ row, x ≤ 15) ∧ ∃ t, AtLens lim s0 last Fc lits dists row r t) ∨ (r.e ≠ 0 ∧ Ends lim s0 last r)
theorem decL_sym {L : List Nat} {l : List Bool} {x n : Nat} (h : decL L l = (x, 0, n)) : x < L.length := by
  unfold decL at h
  split at h
  · rename_i t hfd
    cases h
    obtain ⟨m, -, -, h3⟩ := (mem_ord _ _ _).1 (List.mem_of_find?_eq_some hfd)
    exact (List.getElem?_eq_some_iff.1 h3).1
  · split at h <;> cases h
theorem row_rep {row : List Nat} {v : Nat} (h : ∀ x ∈ row, x ≤ 15) (hv : v ≤ 15) (n : Nat) : ∀ x ∈ row ++ List.replicate n v, x ≤ 15 := by
  intro x hx
  rcases List.mem_append.1 hx with hx | hx
  · exact h x hx
  · rw [List.eq_of_mem_replicate hx]; exact hv
theorem natsV_app (a b : List Nat) : (natsV (a ++ b)).map intV = (natsV a).map intV ++ (natsV b).map intV := by simp [natsV]
theorem row_get {row : List Nat} {m : Nat} (h : row.length = m + 1) : ∃ z, row[m]? = some z ∧ row.getLastD 0 = z ∧ z ∈ row := by
  refine ⟨row[m], List.getElem?_eq_getElem (by omega), ?_, List.getElem_mem _⟩
  rw [List.getLastD_eq_getLast?, List.getLast?_eq_getElem?, show row.length - 1 = m by omega, List.getElem?_eq_getElem (by omega)]
  rfl

/-- What `told` comes to. -/
def ToldP (p : Nat) (lim : Int) (s0 : DS) (last done : Bool) (kinds : List Int) (nb : Nat) (Rs : List Res) (e' : Ending) (w' : World) : Prop :=
  ∃ u v r, e' = .returned (.tuple #[u, v]) ∧ Kept lim done kinds r ∧ ((r.e ≠ 0 ∧ Ends lim s0 last r ∧ Sat w' (run p lim r :: Rs)) ∨
    (r.e = 0 ∧ r.bits.length ≤ nb ∧ ∃ (A B : List Nat) (t : DS) (R : Res), AtSym lim s0 last A B r t ∧ A.length ≤ 288 ∧ B.length ≤ 288 ∧ (∀ x ∈ A, x ≤ 15) ∧ (∀ x ∈ B, x ≤ 15) ∧ Sat w' (run p lim r :: R :: Rs) ∧
      (∀ w2, Sat w2 (R :: Rs) → IntsR w2 u (natsV A)) ∧ ∀ w2, Sat w2 (R :: Rs) → IntsR w2 v (natsV B)))

set_option maxRecDepth 100000 in
set_option maxHeartbeats 20000000 in
theorem told_run {w : World} {p : Nat} {lim : Int} {bits : List Bool} {out : List UInt8} {done last : Bool} {kinds : List Int} {Rs : List Res} {s0 s : DS} (hS : Sat w (run p lim ⟨bits, out, 0, done, kinds⟩ :: Rs)) (ho : (out.length : Int) ≤ max 0 lim) (hbl : bits.length ≤ 1099511627776)
    (h1 : s.st = 3) (h2 : s.last = last) (h3 : s.bits = bits) (h4 : s.hist = out) (h5 : Reach lim s0 s) :
    Calls Tryz.prog 49 #[.pointer (some ⟨p, 0, none⟩)] w (ToldP p lim s0 last done kinds bits.length Rs) := by
  obtain ⟨bv, ov, kv, hS1⟩ := run_open hS
  obtain ⟨F, bo, bap, rfl, hle, hcm, -, -⟩ := hS1.at_ 1 _ rfl
  obtain ⟨c0, -, -, c4, -, -⟩ := run_cells hS1
  have f4 := run_froz hS1 4
  replace c4 : w.cell? ⟨p, 4, none⟩ = some (.int .i64 0) := c4
  replace c0 : w.cell? ⟨p, 0, none⟩ = some (.slice bo bits.length bap) := c0
  have HK : Hid (∀ e b, Kept lim done kinds ⟨b, out, e, done, kinds⟩) := fun e b => ⟨rfl, rfl, ho⟩
  have Hbl := Lib.hid hbl
  by_cases hl : bits.length < 14
  · have hdI : decide ((bits.length : Int) < 14) = true := decide_eq_true (by omega)
    have HE := Lib.hid (cnt_short (r := ⟨bits, out, 0, done, kinds⟩) (last := last) h1 h3 h4 h5 hl)
    have H1 := Lib.hid (run_shut (Rs := Rs) (run_set (r' := ⟨bits, out, 2, done, kinds⟩) (v := .int .i64 2) hS1 4 rfl))
    clear hS hS1 hle hcm ho hbl h1 h2 h3 h4 h5
    go_enter Tryz.func49, Tryz.ntmps49
    go_wp2
    go_ret2
    exact ⟨_, _, _, rfl, HK.out 2 bits, .inl ⟨by show (2 : Nat) ≠ 0; omega, HE.out, H1.out⟩⟩
  have hdI : decide ((bits.length : Int) < 14) = false := decide_eq_false (by omega)
  have hl14 : 14 ≤ bits.length := by omega
  obtain ⟨n1, n2, n3⟩ := num5 bits
  obtain ⟨V, HV⟩ : ∃ V, Hid (V = num (bits.take 14)) := ⟨_, Lib.hid rfl⟩
  have hV : V < 16384 := by rw [HV.out]; exact num_take_lt _ _ 14 (by omega)
  rw [← HV.out] at n1 n2 n3
  obtain ⟨L, HL⟩ : ∃ L, Hid (L = V % 32) := ⟨_, Lib.hid rfl⟩
  obtain ⟨D, HD⟩ : ∃ D, Hid (D = V / 32 % 32) := ⟨_, Lib.hid rfl⟩
  obtain ⟨C, HC⟩ : ∃ C, Hid (C = V / 1024) := ⟨_, Lib.hid rfl⟩
  rw [← HL.out] at n1
  rw [← HD.out] at n2
  rw [← HC.out] at n3
  have hL : L < 32 := by rw [HL.out]; omega
  have hD : D < 32 := by rw [HD.out]; omega
  have hC : C < 16 := by rw [HC.out]; omega
  obtain ⟨b1, Hb1⟩ : ∃ b1, Hid (b1 = bits.drop 14) := ⟨_, Lib.hid rfl⟩
  have Ht1 : Hid (Calls Tryz.prog 45 #[.pointer (some ⟨p, 0, none⟩), .int .i64 5] w fun e' w' => e' = .returned (.int .i64 (L : Nat)) ∧ Sat w' (run p lim ⟨bits.drop 5, out, 0, done, kinds⟩ :: Rs)) := by
    have h := take_any hS 5 (by omega)
    rw [takeS_k (r := ⟨bits, out, 0, done, kinds⟩) (n := 5) rfl (by show 5 ≤ bits.length; omega), takeV_k (r := ⟨bits, out, 0, done, kinds⟩) (n := 5) rfl (by show 5 ≤ bits.length; omega)] at h
    simp only [n1] at h
    exact h
  have Ht2 : Hid (∀ w1, Sat w1 (run p lim ⟨bits.drop 5, out, 0, done, kinds⟩ :: Rs) → Calls Tryz.prog 45 #[.pointer (some ⟨p, 0, none⟩), .int .i64 5] w1 fun e' w' => e' = .returned (.int .i64 (D : Nat)) ∧ Sat w' (run p lim ⟨(bits.drop 5).drop 5, out, 0, done, kinds⟩ :: Rs)) := by
    intro w1 h
    have h := take_any h 5 (by omega)
    have h9 : 5 ≤ (bits.drop 5).length := by rw [List.length_drop]; omega
    rw [takeS_k (r := ⟨bits.drop 5, out, 0, done, kinds⟩) (n := 5) rfl h9, takeV_k (r := ⟨bits.drop 5, out, 0, done, kinds⟩) (n := 5) rfl h9] at h
    simp only [n2] at h
    exact h
  have Ht3 : Hid (∀ w1, Sat w1 (run p lim ⟨(bits.drop 5).drop 5, out, 0, done, kinds⟩ :: Rs) → Calls Tryz.prog 45 #[.pointer (some ⟨p, 0, none⟩), .int .i64 4] w1 fun e' w' => e' = .returned (.int .i64 (C : Nat)) ∧ Sat w' (run p lim ⟨b1, out, 0, done, kinds⟩ :: Rs)) := by
    intro w1 h
    have h := take_any h 4 (by omega)
    have h9 : 4 ≤ ((bits.drop 5).drop 5).length := by rw [List.length_drop, List.length_drop]; omega
    rw [takeS_k (r := ⟨(bits.drop 5).drop 5, out, 0, done, kinds⟩) (n := 4) rfl h9, takeV_k (r := ⟨(bits.drop 5).drop 5, out, 0, done, kinds⟩) (n := 4) rfl h9] at h
    simp only [n3] at h
    rw [Hb1.out, show bits.drop 14 = ((bits.drop 5).drop 5).drop 4 by rw [List.drop_drop, List.drop_drop]]
    exact h
  have hb1 : b1.length = bits.length - 14 := by rw [Hb1.out, List.length_drop]
  clear n1 n2 n3 hS hS1 c4 f4
  have hcase : (286 < L + 257 ∨ 30 < D + 1) → Ends lim s0 last ⟨b1, out, 5, done, kinds⟩ := fun hx => by
    rw [Hb1.out]
    exact cnt_bad (r := ⟨bits, out, 0, done, kinds⟩) (last := last) h1 h3 h4 h5 hl14 (by show 286 < num (bits.take 14) % 32 + 257 ∨ 30 < num (bits.take 14) / 32 % 32 + 1; rw [← HV.out, ← HL.out, ← HD.out]; exact hx)
  have hcase2 : ¬ (286 < L + 257 ∨ 30 < D + 1) → ∃ t, AtCodes lim s0 last (L + 257) (D + 1) (C + 4) ⟨b1, out, 0, done, kinds⟩ t := fun hx => by
    have h := cnt_go (r := ⟨bits, out, 0, done, kinds⟩) (last := last) h1 h2 h3 h4 h5 hl14 (by show ¬ (286 < num (bits.take 14) % 32 + 257 ∨ 30 < num (bits.take 14) / 32 % 32 + 1); rw [← HV.out, ← HL.out, ← HD.out]; exact hx)
    simp only [← HV.out, ← HL.out, ← HD.out, ← HC.out, ← Hb1.out] at h
    exact h
  have Hca := Lib.hid hcase
  have Hcb := Lib.hid hcase2
  clear hcase hcase2 h1 h2 h3 h4 h5 ho
  have c1 : 286 < L + 257 → decide ((286 : Int) < (L : Int) + 257) = true := fun h => decide_eq_true (by omega)
  have c2 : ¬ 286 < L + 257 → decide ((286 : Int) < (L : Int) + 257) = false := fun h => decide_eq_false (by omega)
  have c3 : 30 < D + 1 → decide ((30 : Int) < (D : Int) + 1) = true := fun h => decide_eq_true (by omega)
  have c5 : ¬ 30 < D + 1 → decide ((30 : Int) < (D : Int) + 1) = false := fun h => decide_eq_false (by omega)
  rcases (by omega : 286 < L + 257 ∨ (¬ 286 < L + 257 ∧ 30 < D + 1) ∨ (¬ 286 < L + 257 ∧ ¬ 30 < D + 1)) with hx | ⟨hx, hy⟩ | ⟨hx, hy⟩
  · have d1 := c1 hx
    have HE := Lib.hid (Hca.out (.inl hx))
    clear c1 c2 c3 c5 hx Hca Hcb
    go_enter Tryz.func49, Tryz.ntmps49
    go_wp2_with (first
      | (go_at_call 45; refine Ht1.out.mono ?_; rintro e' w1 ⟨rfl, hS1⟩; have H2 := Lib.hid (Ht2.out _ hS1); clear Ht1 Ht2 hS1)
      | (go_at_call 45; refine H2.out.mono ?_; rintro e' w2 ⟨rfl, hS2⟩; have H3 := Lib.hid (Ht3.out _ hS2); clear H2 Ht3 hS2)
      | (go_at_call 45; refine H3.out.mono ?_; rintro e' w3 ⟨rfl, hS3⟩; have H4 := fail_any hS3 true 5; rw [failS_y (r := ⟨b1, out, 0, done, kinds⟩) 5 rfl] at H4; have H4 := Lib.hid H4; clear H3 hS3)
      | (go_at_call 78; refine H4.out.mono ?_; rintro e' w4 ⟨rfl, hS4⟩; have q4 := run_e hS4; replace q4 : w4.cell? ⟨p, 4, none⟩ = some (.int .i64 5) := q4; obtain ⟨bv4, ov4, kv4, hS5⟩ := run_open hS4; obtain ⟨_, bo4, bap4, rfl, hle4, -, -, -⟩ := hS5.at_ 1 _ rfl; have q0 : w4.cell? ⟨p, 0, none⟩ = some (.slice bo4 b1.length bap4) := (run_cells hS5).1; have g4 := run_froz hS5 4; have HS4 := Lib.hid hS4; have HS5 := Lib.hid hS5; clear H4 hS4 hS5 c0))
    go_ret2
    exact ⟨_, _, _, rfl, HK.out 5 b1, .inl ⟨by show (5 : Nat) ≠ 0; omega, HE.out, HS4.out⟩⟩
  · have d1 := c2 hx
    have d2 := c3 hy
    have HE := Lib.hid (Hca.out (.inr hy))
    clear c1 c2 c3 c5 hx hy Hca Hcb
    go_enter Tryz.func49, Tryz.ntmps49
    go_wp2_with (first
      | (go_at_call 45; refine Ht1.out.mono ?_; rintro e' w1 ⟨rfl, hS1⟩; have H2 := Lib.hid (Ht2.out _ hS1); clear Ht1 Ht2 hS1)
      | (go_at_call 45; refine H2.out.mono ?_; rintro e' w2 ⟨rfl, hS2⟩; have H3 := Lib.hid (Ht3.out _ hS2); clear H2 Ht3 hS2)
      | (go_at_call 45; refine H3.out.mono ?_; rintro e' w3 ⟨rfl, hS3⟩; have H4 := fail_any hS3 true 5; rw [failS_y (r := ⟨b1, out, 0, done, kinds⟩) 5 rfl] at H4; have H4 := Lib.hid H4; clear H3 hS3)
      | (go_at_call 78; refine H4.out.mono ?_; rintro e' w4 ⟨rfl, hS4⟩; have q4 := run_e hS4; replace q4 : w4.cell? ⟨p, 4, none⟩ = some (.int .i64 5) := q4; obtain ⟨bv4, ov4, kv4, hS5⟩ := run_open hS4; obtain ⟨_, bo4, bap4, rfl, hle4, -, -, -⟩ := hS5.at_ 1 _ rfl; have q0 : w4.cell? ⟨p, 0, none⟩ = some (.slice bo4 b1.length bap4) := (run_cells hS5).1; have g4 := run_froz hS5 4; have HS4 := Lib.hid hS4; have HS5 := Lib.hid hS5; clear H4 hS4 hS5 c0))
    go_ret2
    exact ⟨_, _, _, rfl, HK.out 5 b1, .inl ⟨by show (5 : Nat) ≠ 0; omega, HE.out, HS4.out⟩⟩
  have d1 := c2 hx
  have d2 := c5 hy
  obtain ⟨tc, htc⟩ := Hcb.out (by omega)
  have Htc := Lib.hid htc
  have hLb : L + 257 ≤ 286 := by omega
  have hDb : D + 1 ≤ 30 := by omega
  clear c1 c2 c3 c5 Hca Hcb htc hx hy hl14 hl
  by_cases hc : b1.length < 3 * (C + 4)
  · have dc : decide ((b1.length : Int) < 3 * ((C : Int) + 4)) = true := decide_eq_true (by omega)
    have HE := Lib.hid (Htc.out.short (r := ⟨b1, out, 0, done, kinds⟩) hc)
    clear hb1
    go_enter Tryz.func49, Tryz.ntmps49
    go_wp2_with (first
      | (go_at_call 45; refine Ht1.out.mono ?_; rintro e' w1 ⟨rfl, hS1⟩; have H2 := Lib.hid (Ht2.out _ hS1); clear Ht1 Ht2 hS1)
      | (go_at_call 45; refine H2.out.mono ?_; rintro e' w2 ⟨rfl, hS2⟩; have H3 := Lib.hid (Ht3.out _ hS2); clear H2 Ht3 hS2)
      | (go_at_call 45; refine H3.out.mono ?_; rintro e' w3 ⟨rfl, hS3⟩; have H4 := fail_any hS3 false 5; rw [failS_n] at H4; have H4 := Lib.hid H4; clear H3 hS3)
      | (go_at_call 78; refine H4.out.mono ?_; rintro e' w4 ⟨rfl, hS4⟩; have q4 := run_e hS4; replace q4 : w4.cell? ⟨p, 4, none⟩ = some (.int .i64 0) := q4; obtain ⟨bv4, ov4, kv4, hS5⟩ := run_open hS4; obtain ⟨_, bo4, bap4, rfl, hle4, -, -, -⟩ := hS5.at_ 1 _ rfl; have q0 : w4.cell? ⟨p, 0, none⟩ = some (.slice bo4 b1.length bap4) := (run_cells hS5).1; have g4 := run_froz hS5 4; have HS4 := Lib.hid hS4; have HS5 := Lib.hid hS5; clear H4 hS4 hS5 c0))
    go_ret2
    exact ⟨_, _, _, rfl, HK.out 2 b1, .inl ⟨by show (2 : Nat) ≠ 0; omega, HE.out, run_shut (Rs := Rs) (run_set (r := ⟨b1, out, 0, done, kinds⟩) (r' := ⟨b1, out, 2, done, kinds⟩) (v := .int .i64 2) HS5.out 4 rfl)⟩⟩
  have dc : decide ((b1.length : Int) < 3 * ((C : Int) + 4)) = false := decide_eq_false (by omega)
  have hc3 : 3 * (C + 4) ≤ b1.length := by omega
  have hmk : ∀ w4, (Instr.makeSlice 45 (.int .i64 19) (.int .i64 19)).run Tryz.prog w4 = .ok (.slice (some ⟨w4.heap.size, 0, none⟩) 19 19) (w4.alloc (.cells (madeCells #[.int .i64 0] 19) 3)) := fun w4 => make_ints 19 (by omega) w4
  have Hmk := Lib.hid hmk
  clear hmk hc
  go_enter Tryz.func49, Tryz.ntmps49
  go_wp2_with (first
      | (go_at_call 45; refine Ht1.out.mono ?_; rintro e' w1 ⟨rfl, hS1⟩; have H2 := Lib.hid (Ht2.out _ hS1); clear Ht1 Ht2 hS1)
      | (go_at_call 45; refine H2.out.mono ?_; rintro e' w2 ⟨rfl, hS2⟩; have H3 := Lib.hid (Ht3.out _ hS2); clear H2 Ht3 hS2)
      | (go_at_call 45; refine H3.out.mono ?_; rintro e' w3 ⟨rfl, hS3⟩; have H4 := fail_any hS3 false 5; rw [failS_n] at H4; have H4 := Lib.hid H4; clear H3 hS3)
      | (go_at_call 78; refine H4.out.mono ?_; rintro e' w4 ⟨rfl, hS4⟩; have q4 := run_e hS4; replace q4 : w4.cell? ⟨p, 4, none⟩ = some (.int .i64 0) := q4; obtain ⟨bv4, ov4, kv4, hS5⟩ := run_open hS4; obtain ⟨_, bo4, bap4, rfl, hle4, -, -, -⟩ := hS5.at_ 1 _ rfl; have q0 : w4.cell? ⟨p, 0, none⟩ = some (.slice bo4 b1.length bap4) := (run_cells hS5).1; have g4 := run_froz hS5 4; have HS4 := Lib.hid hS4; have HS5 := Lib.hid hS5; have hmk := Hmk.out w4; clear H4 hS4 hS5 c0 Hmk))
  have h6 := HS4.out.sl_made (e := 3) (size := 1) (n := 19) (cap := 19) (cur := madeCells #[.int .i64 0] 19) (xs := (natsV (lens19 0 b1)).map intV) (by omega) (by decide) (by simp [natsV, lens19]) (by simp [madeCells]) (fun j u hu => by rw [lens19_zero] at hu; exact madeInts 19 j u (by simpa [natsV] using hu))
  generalize w4.heap.size = lb at h6 ⊢
  generalize w4.alloc (.cells (madeCells #[.int .i64 0] 19) 3) = W4 at h6 ⊢
  clear hmk q4 q0 g4 HS4 HS5
  go_loopw [8] (fun i wr => ∃ k : Nat, k ≤ C + 4 ∧ i = .int .i64 k ∧ Sat wr (sl 3 1 19 (.slice (some ⟨lb, 0, none⟩) 19 19) ((natsV (lens19 k b1)).map intV) :: run p lim ⟨b1.drop (3 * k), out, 0, done, kinds⟩ :: Rs)) (fun i _ => C + 4 - (intOf i).toNat)
  case atStart => exact ⟨0, by omega, rfl, h6⟩
  case round =>
    obtain ⟨k, hk, rfl, hS6⟩ := hrel
    by_cases hkC : k < C + 4
    · have dk : decide ((k : Int) < (C : Int) + 4) = true := decide_eq_true (by omega)
      obtain ⟨x, hx1, hx2, hx3⟩ := ord19_at k (by omega)
      obtain ⟨y, Hy⟩ : ∃ y, Hid (num ((b1.drop (3 * k)).take 3) = y) := ⟨_, Lib.hid rfl⟩
      have Hrow := Lib.hid (row_ref hS6.drew)
      have hl3 : 3 ≤ (b1.drop (3 * k)).length := by rw [List.length_drop]; omega
      have Htk : Hid (∀ w1 x1 x2, Sat w1 (run p lim ⟨b1.drop (3 * k), out, 0, done, kinds⟩ :: x1 :: x2 :: Rs) → Calls Tryz.prog 45 #[.pointer (some ⟨p, 0, none⟩), .int .i64 3] w1 fun e' w' => e' = .returned (.int .i64 (y : Nat)) ∧ Sat w' (run p lim ⟨b1.drop (3 * (k + 1)), out, 0, done, kinds⟩ :: x1 :: x2 :: Rs)) := by
        intro w1 x1 x2 h
        have h := take_any h 3 (by omega)
        rw [takeS_k (r := ⟨b1.drop (3 * k), out, 0, done, kinds⟩) (n := 3) rfl hl3, takeV_k (r := ⟨b1.drop (3 * k), out, 0, done, kinds⟩) (n := 3) rfl hl3] at h
        simp only [Hy.out, List.drop_drop] at h
        rw [show 3 * (k + 1) = 3 * k + 3 by omega]
        exact h
      have hxr : ((natsV ord19).map intV)[k]? = some (.int .i64 (x : Nat)) := by unfold natsV; rw [List.map_map, List.getElem?_map, hx1]; rfl
      obtain ⟨u, Hu⟩ : ∃ u, Hid (((natsV (lens19 k b1)).map intV)[x]? = some u) := ⟨_, Lib.hid (List.getElem?_eq_getElem (by unfold natsV; simp [lens19_length]; exact hx2))⟩
      have Hxl : Hid (x < ((natsV (lens19 k b1)).map intV).length) := by unfold Hid natsV; simp [lens19_length]; exact hx2
      have HL9 := Lib.hid (lens19_succ (l := b1) (by omega : k < 19) hx2 hx3)
      have Hxr := Lib.hid hxr
      have hxI : (x : Int) < 19 := by omega
      have hkI : (k : Int) < 19 := by omega
      clear hS6 hx1 hx3 hxr hl3 h6
      go_wp2
      go_region_with (first
        | (go_at_call 84; refine Hrow.out.mono ?_; rintro e' w7 ⟨ra, rc, rfl, hS7⟩; obtain ⟨rb, ro, rc', heq, hrc, -, -, hrcell, -⟩ := hS7.sl_cells (by omega); simp only [Value.slice.injEq, true_and] at heq; obtain ⟨rfl, rfl⟩ := heq; have r7 := hrcell k _ Hxr.out; have HS7 := Lib.hid hS7; clear hS7 hrcell Hrow)
        | (go_at_call 45; refine (Htk.out _ _ _ (Sat.perm (As := [_, _, _]) HS7.out [2, 0, 1] [_, _, _] rfl (by simp))).mono ?_; rintro e' w8 ⟨rfl, hS8⟩; have r8 := slr_cell (Sat.front hS8 1 _ rfl).sl_read Hxr.out; have hS9 := Sat.perm (As := [_, _, _]) hS8 [2, 0] [_, _] rfl (by simp); have g1 := slr_cell hS9.sl_read Hu.out; rw [Nat.zero_add] at g1; have g2 := sl_frozen hS9 (by omega) x; rw [Nat.zero_add] at g2; have hS10 := hS9.sl_set x Hxl.out (.int .i64 (y : Nat)); rw [Nat.zero_add] at hS10; have H10 := Lib.hid hS10; clear hS8 hS9 hS10))
      all_goals
        go_wp2
        refine ⟨⟨k + 1, by omega, vi (by omega), ?_⟩, by simp [intOf]; omega⟩
        rw [HL9.out, Hy.out, ← natsV_set]
        exact H10.out
    have dk : decide ((k : Int) < (C : Int) + 4) = false := decide_eq_false (by omega)
    obtain rfl : k = C + 4 := by omega
    -- the code of the lengths
    obtain ⟨Fc, HFc⟩ : ∃ Fc, Hid (Fc = lens19 (C + 4) b1) := ⟨_, Lib.hid rfl⟩
    obtain ⟨b2, Hb2⟩ : ∃ b2, Hid (b2 = b1.drop (3 * (C + 4))) := ⟨_, Lib.hid rfl⟩
    rw [← HFc.out, ← Hb2.out] at hS6
    have hFl : Fc.length = 19 := by rw [HFc.out, lens19_length]
    have hFx : ∀ x ∈ Fc, x ≤ 15 := by rw [HFc.out]; exact lens19_le (C + 4) b1
    have hb2 : b2.length ≤ bits.length := by rw [Hb2.out, List.length_drop]; omega
    have HFlx : Hid (Fc.length = 19 ∧ ∀ x ∈ Fc, x ≤ 15) := ⟨hFl, hFx⟩
    have HF : Hid (∀ w', Sat w' (sl 3 1 19 (.slice (some ⟨lb, 0, none⟩) 19 19) ((natsV Fc).map intV) :: run p lim ⟨b2, out, 0, done, kinds⟩ :: Rs) → IntsR w' (.slice (some ⟨lb, 0, none⟩) 19 19) (natsV Fc)) := fun w' h => ints_nats hFl h.sl_read
    have HW := Lib.hid (words_any hS6 (.slice (some ⟨lb, 0, none⟩) 19 19) Fc HF.out (by omega) hFx)
    have Hgood : Hid ((checkI (natsV Fc) = 0 ∧ ∃ x ∈ Fc, 0 < x) → ∃ t, AtLens lim s0 last Fc (L + 257) (D + 1) [] ⟨b2, out, 0, done, kinds⟩ t) := fun h => by
      rw [Hb2.out, HFc.out]; rw [HFc.out] at h; exact Htc.out.go (r := ⟨b1, out, 0, done, kinds⟩) hc3 h
    have Hbad : Hid (¬ (checkI (natsV Fc) = 0 ∧ ∃ x ∈ Fc, 0 < x) → Ends lim s0 last ⟨b2, out, 5, done, kinds⟩) := fun h => by
      rw [HFc.out] at h; exact Htc.out.bad (r := ⟨b1, out, 0, done, kinds⟩) hc3 h b2
    have Hbl2 := Lib.hid hb2
    clear hS6 hFl hFx h6 dk hk hkC dc hc3 hb1 d1 d2 Htc
    by_cases hg : checkI (natsV Fc) = 0 ∧ ∃ x ∈ Fc, 0 < x
    rotate_left
    · have HE := Lib.hid (Hbad.out hg)
      have Hng := Lib.hid hg
      clear hg Hbad Hgood
      by_cases hck : checkI (natsV Fc) = 0
      · have hckI : ((checkI (natsV Fc) : Int) != 0) = false := by rw [hck]; rfl
        have Hck := Lib.hid hck
        clear hck
        go_wp2_with (first
          | (go_at_call 80; refine HW.out.mono ?_; rintro e' w9 ⟨wo, T, P, rfl, hT, hP, hS9⟩; obtain ⟨_, woo, woap, rfl, -, -, -, -⟩ := hS9.at_ 0 _ rfl; have hT0 : T.length = 0 := (by have e1 : T.length = (ord Fc 15).length := (by rw [← hT, List.length_map]); rw [ord_ws _ HFlx.out.2] at e1; rcases Nat.eq_zero_or_pos (ws Fc) with h0 | h0; (· omega); (· exact absurd ⟨Hck.out, ws_pos h0⟩ Hng.out)); have hTz : ((T.length : Int) == 0) = true := (by rw [hT0]; rfl); have HC2 := Lib.hid (check_any _ (natsV Fc) w9 (HF.out w9 hS9.tail.tail)); have h10 := Sat.perm (As := [_, _, _, _]) hS9 [3] [_] rfl (by simp); have Hf := fail_any h10 true 5; rw [failS_y (r := ⟨b2, out, 0, done, kinds⟩) 5 rfl] at Hf; have Hf := Lib.hid Hf; clear hS9 h10 hT hP HW HF hT0)
          | (go_at_call 85; refine HC2.out.mono ?_; rintro e' w10 ⟨rfl, rfl⟩; clear HC2)
          | (go_at_call 78; refine Hf.out.mono ?_; rintro e' w11 ⟨rfl, hS11⟩; have q11 := run_e hS11; replace q11 : w11.cell? ⟨p, 4, none⟩ = some (.int .i64 5) := q11; have HS11 := Lib.hid hS11; clear hS11 Hf))
        go_loopw [10] (fun v wz => v = .slice none 0 0 ∧ wz = w11) (fun _ _ => 0)
        case atStart => exact ⟨rfl, rfl⟩
        case round =>
          obtain ⟨rfl, rfl⟩ := hrel
          go_wp2
          go_ret2
          exact ⟨_, _, _, rfl, HK.out 5 b2, .inl ⟨by show (5 : Nat) ≠ 0; omega, HE.out, HS11.out⟩⟩
      · have hckI : ((checkI (natsV Fc) : Int) != 0) = true := bne_iff_ne.2 (by omega)
        go_wp2_with (first
          | (go_at_call 80; refine HW.out.mono ?_; rintro e' w9 ⟨wo, T, P, rfl, hT, hP, hS9⟩; obtain ⟨_, woo, woap, rfl, -, -, -, -⟩ := hS9.at_ 0 _ rfl; have HC2 := Lib.hid (check_any _ (natsV Fc) w9 (HF.out w9 hS9.tail.tail)); have h10 := Sat.perm (As := [_, _, _, _]) hS9 [3] [_] rfl (by simp); have Hf := fail_any h10 true 5; rw [failS_y (r := ⟨b2, out, 0, done, kinds⟩) 5 rfl] at Hf; have Hf := Lib.hid Hf; clear hS9 h10 hT hP HW HF)
          | (go_at_call 85; refine HC2.out.mono ?_; rintro e' w10 ⟨rfl, rfl⟩; clear HC2)
          | (go_at_call 78; refine Hf.out.mono ?_; rintro e' w11 ⟨rfl, hS11⟩; have q11 := run_e hS11; replace q11 : w11.cell? ⟨p, 4, none⟩ = some (.int .i64 5) := q11; have HS11 := Lib.hid hS11; clear hS11 Hf))
        go_loopw [10] (fun v wz => v = .slice none 0 0 ∧ wz = w11) (fun _ _ => 0)
        case atStart => exact ⟨rfl, rfl⟩
        case round =>
          obtain ⟨rfl, rfl⟩ := hrel
          go_wp2
          go_ret2
          exact ⟨_, _, _, rfl, HK.out 5 b2, .inl ⟨by show (5 : Nat) ≠ 0; omega, HE.out, HS11.out⟩⟩
    -- a good code
    obtain ⟨hg1, hg2⟩ := hg
    have hckI : ((checkI (natsV Fc) : Int) != 0) = false := by rw [hg1]; rfl
    obtain ⟨tl, htl⟩ := Hgood.out ⟨hg1, hg2⟩
    have HI0 : Hid (LensI lim s0 last Fc (L + 257) (D + 1) [] ⟨b2, out, 0, done, kinds⟩) := .inl ⟨rfl, by simp, by simp, tl, htl⟩
    have Hws := Lib.hid (pos_ws hg2)
    clear hg1 hg2 htl Hgood Hbad
    go_wp2_with (first
      | (go_at_call 80; refine HW.out.mono ?_; rintro e' w9 ⟨wo, T, P, rfl, hT, hP, hS9⟩; obtain ⟨_, woo, woap, rfl, -, -, -, -⟩ := hS9.at_ 0 _ rfl; have hTz : ((T.length : Int) == 0) = false := (by have e1 : T.length = (ord Fc 15).length := (by rw [← hT, List.length_map]); rw [ord_ws _ HFlx.out.2] at e1; have := Hws.out; exact beq_eq_false_iff_ne.2 (by omega)); have HC2 := Lib.hid (check_any _ (natsV Fc) w9 (HF.out w9 hS9.tail.tail)); have h10 := Sat.perm (As := [_, _, _, _]) hS9 [3, 0, 1, 2] [_, _, _, _] rfl (by simp); have Hf := fail_any (Rs := _ :: _ :: _ :: Rs) h10 false 5; rw [failS_n] at Hf; have Hf := Lib.hid Hf; have HT := Lib.hid hT; have HP := Lib.hid hP; clear hS9 h10 hT hP HW HF)
      | (go_at_call 85; refine HC2.out.mono ?_; rintro e' w10 ⟨rfl, rfl⟩; clear HC2)
      | (go_at_call 78; refine Hf.out.mono ?_; rintro e' w11 ⟨rfl, hS11⟩; have HS12 : Hid (Sat w11 (toldL p lim Fc T (.slice woo T.length woap) P lb Rs [] (.slice none 0 0) ⟨b2, out, 0, done, kinds⟩)) := Sat.perm (As := [_, _, _, _, _]) (hS11.sl_nil 3 1 none) [1, 2, 3, 0, 4] [_, _, _, _, _] rfl (by simp); clear hS11 Hf))
    have HnF : Hid (∀ w1 row v r, Sat w1 (toldL p lim Fc T (.slice woo T.length woap) P lb Rs row v r) → Calls Tryz.prog 81 #[.pointer (some ⟨p, 0, none⟩), .slice woo T.length woap] w1 fun e' w' => e' = .returned (.int .i64 (r.nextV Fc : Nat)) ∧ Sat w' (toldL p lim Fc T (.slice woo T.length woap) P lb Rs row v (r.nextS Fc))) := fun w1 row v r h => next_run (Rs := _ :: _ :: Rs) h HT.out HP.out (words_few HT.out HFlx.out.2 (by have := HFlx.out.1; omega))
    obtain ⟨i1, hi1, hy0, hy1, hy2⟩ := info_parts Tryz.infoIntW
    clear HT HP Hws
    go_loopg [10] (b2.length + 1) (fun g v wr => ∃ (row : List Nat) (r : RunS), r.bits.length + (if r.e = 0 then 1 else 0) ≤ g ∧ r.bits.length ≤ b2.length ∧ Hid (LensI lim s0 last Fc (L + 257) (D + 1) row r) ∧ Hid (Kept lim done kinds r) ∧ Hid (Sat wr (toldL p lim Fc T (.slice woo T.length woap) P lb Rs row v r)))
    case atStart => exact ⟨[], _, by simp, Nat.le_refl _, HI0.out, HK.out 0 b2, HS12.out⟩
    case round =>
      obtain ⟨row, ⟨b, o, e, dn, ks⟩, hg, hbb, HR, HKj, HS5⟩ := hrel
      replace hbb : b.length ≤ b2.length := hbb
      have q4 := run_e HS5.out
      obtain ⟨_, vo, vap, rfl, hvap, -, -, -⟩ := HS5.out.at_ 3 _ rfl
      clear HI0 HK HS12
      rcases HR.out with ⟨he, hrl, hrx, t, hat⟩ | ⟨he, hE⟩
      rotate_left
      · replace he : e ≠ 0 := he
        have heI : ((e : Int) == 0) = false := beq_eq_false_iff_ne.2 (by omega)
        have heJ : ((e : Int) != 0) = true := bne_iff_ne.2 (by omega)
        have HE := Lib.hid hE
        clear hE HR hg
        go_wp2
        all_goals
          go_ret2
          exact ⟨_, _, _, rfl, HKj.out, .inl ⟨he, HE.out, Sat.perm (As := [_, _, _, _, _]) HS5.out [0] [_] rfl (by simp)⟩⟩
      replace he : e = 0 := he
      subst he
      replace q4 : wr.cell? ⟨p, 4, none⟩ = some (.int .i64 0) := q4
      replace hg : b.length + 1 ≤ gk := by simpa using hg
      have Hg := Lib.hid hg
      have Hat := Lib.hid hat
      have Hrx := Lib.hid hrx
      have hrl2 : row.length ≤ 316 := by omega
      clear hat HR hg hrx
      by_cases hfull : row.length = L + 257 + (D + 1)
      · -- FULL
        obtain ⟨LT, HLT⟩ : ∃ LT, Hid (LT = L + 257) := ⟨_, Lib.hid rfl⟩
        have hLTI : (L : Int) + 257 = (LT : Int) := by rw [HLT.out]; rfl
        have hLT1 : 256 < LT := by rw [HLT.out]; omega
        have hLT1I : (256 : Int) < (LT : Int) := by omega
        have hLT2 : LT < row.length := by rw [HLT.out]; omega
        have hLT3 : LT ≤ vap := by omega
        have hne : ¬ vap = LT := by omega
        have hltI : decide ((row.length : Int) < (L : Int) + 257 + ((D : Int) + 1)) = false := decide_eq_false (by omega)
        have hltJ : decide ((row.length : Int) < (LT : Int) + ((D : Int) + 1)) = false := decide_eq_false (by omega)
        have htwo := Hat.out.fullD (r := ⟨b, o, 0, dn, ks⟩) (by rw [hfull]) rfl
        rw [← HLT.out] at htwo
        have Htg := Lib.hid htwo.1
        have Htb := Lib.hid htwo.2
        have HAl : Hid ((row.take LT).length = LT ∧ LT ≤ 286 ∧ (row.drop LT).length = row.length - LT ∧ row.length - LT ≤ 30) := by
          unfold Hid; rw [List.length_take, List.length_drop]; rw [HLT.out]; omega
        have hvo : ∃ ob off, vo = some ⟨ob, off, none⟩ := by
          obtain ⟨ob, off, c9, heq, -⟩ := (Sat.front HS5.out 3 _ rfl).sl_cells (by omega)
          simp only [Value.slice.injEq, true_and] at heq
          exact ⟨ob, off, heq.1⟩
        obtain ⟨ob, off, rfl⟩ := hvo
        have HA : Hid (∀ w2 Z, Sat w2 (sl 3 1 row.length (.slice (some ⟨ob, off, none⟩) row.length vap) ((natsV row).map intV) :: Z) → IntsR w2 (.slice (some ⟨ob, off, none⟩) LT vap) (natsV (row.take LT))) := by
          intro w2 Z h
          have h1 := SlR.head h.sl_read LT (by omega)
          refine ints_nats HAl.out.1 ?_
          rw [show (natsV (row.take LT)).map intV = ((natsV row).map intV).take LT by simp [natsV, List.map_take]]
          exact h1
        have HB : Hid (∀ w2 Z, Sat w2 (sl 3 1 row.length (.slice (some ⟨ob, off, none⟩) row.length vap) ((natsV row).map intV) :: Z) → IntsR w2 (.slice (some ⟨ob, off + LT, none⟩) (row.length - LT) (vap - LT)) (natsV (row.drop LT))) := by
          intro w2 Z h
          have h1 := SlR.rest h.sl_read LT (by omega)
          rw [if_neg hne] at h1
          refine ints_nats HAl.out.2.2.1 ?_
          rw [show (natsV (row.drop LT)).map intV = ((natsV row).map intV).drop LT by simp [natsV, List.map_drop]]
          rw [show Option.map (fun x : Addr => x.add LT) (some ⟨ob, off, none⟩) = some ⟨ob, off + LT, none⟩ by show some (Addr.add _ LT) = _; rw [Addr.add_lit]] at h1
          exact h1
        obtain ⟨z, hz⟩ : ∃ z, row[256]? = some z := ⟨_, List.getElem?_eq_getElem (by omega)⟩
        have hzA : ((row.take LT)[256]?).getD 0 = z := by rw [List.getElem?_take, if_pos hLT1, hz]; rfl
        have c256 : wr.cell? ⟨ob, off + 256, none⟩ = some (.int .i64 (z : Nat)) := slr_cell (Sat.front HS5.out 3 _ rfl).sl_read (by unfold natsV; rw [List.map_map, List.getElem?_map, hz]; rfl)
        have HzA := Lib.hid hzA
        have Hxs := Lib.hid (And.intro (fun x (h : x ∈ row.take LT) => Hrx.out x (List.mem_of_mem_take h)) (fun x (h : x ∈ row.drop LT) => Hrx.out x (List.mem_of_mem_drop h)))
        clear htwo hz hzA hfull
        by_cases hz0 : z = 0
        · have hzI : ((z : Int) == 0) = true := by rw [hz0]; rfl
          have HnT : Hid (¬ TwoOk LT row) := fun h => by have := h.1.2; rw [HzA.out] at this; omega
          clear hz0
          go_wp2
          go_quiet (fail)
          have Hf := fail_any (Rs := _ :: _ :: _ :: _ :: Rs) (HS5.out.drewN nq) true 5; rw [failS_y (r := ⟨b, o, 0, dn, ks⟩) 5 rfl] at Hf; have Hf := Lib.hid Hf
          go_wp2_with (go_at_call 78; refine Hf.out.mono ?_; rintro e' w14 ⟨rfl, hS14⟩; have HS14 := Lib.hid hS14; clear hS14 Hf)
          go_ret2
          exact ⟨_, _, ⟨b, o, 5, dn, ks⟩, rfl, HKj.out, .inl ⟨by show (5 : Nat) ≠ 0; omega, Htb.out HnT.out, Sat.perm (As := [_, _, _, _, _]) HS14.out [0] [_] rfl (by simp)⟩⟩
        have hzI : ((z : Int) == 0) = false := beq_eq_false_iff_ne.2 (by omega)
        have Hz0 := Lib.hid hz0
        by_cases hcA : checkI (natsV (row.take LT)) = 0
        rotate_left
        · have hcI : ((checkI (natsV (row.take LT)) : Int) != 0) = true := bne_iff_ne.2 (by omega)
          have HnT : Hid (¬ TwoOk LT row) := fun h => hcA h.1.1
          go_wp2
          go_quiet (fail)
          have Hf := fail_any (Rs := _ :: _ :: _ :: _ :: Rs) (HS5.out.drewN nq) true 5; rw [failS_y (r := ⟨b, o, 0, dn, ks⟩) 5 rfl] at Hf; have Hf := Lib.hid Hf
          have HcA := Lib.hid (check_any _ (natsV (row.take LT)) _ (HA.out (wr.drewN nq) _ (Sat.front (HS5.out.drewN nq) 3 _ rfl)))
          go_wp2_with (first | (go_at_call 85; refine HcA.out.mono ?_; rintro e' w10 ⟨rfl, rfl⟩; clear HcA) | (go_at_call 78; refine Hf.out.mono ?_; rintro e' w14 ⟨rfl, hS14⟩; have HS14 := Lib.hid hS14; clear hS14 Hf))
          go_ret2
          exact ⟨_, _, ⟨b, o, 5, dn, ks⟩, rfl, HKj.out, .inl ⟨by show (5 : Nat) ≠ 0; omega, Htb.out HnT.out, Sat.perm (As := [_, _, _, _, _]) HS14.out [0] [_] rfl (by simp)⟩⟩
        have hcI : ((checkI (natsV (row.take LT)) : Int) != 0) = false := by rw [hcA]; rfl
        have HcA0 := Lib.hid hcA
        clear hcA
        by_cases hcB : checkI (natsV (row.drop LT)) = 0
        rotate_left
        · have hcJ : ((checkI (natsV (row.drop LT)) : Int) != 0) = true := bne_iff_ne.2 (by omega)
          have HnT : Hid (¬ TwoOk LT row) := fun h => hcB h.2
          go_wp2
          go_quiet (fail)
          have Hf := fail_any (Rs := _ :: _ :: _ :: _ :: Rs) (HS5.out.drewN nq) true 5; rw [failS_y (r := ⟨b, o, 0, dn, ks⟩) 5 rfl] at Hf; have Hf := Lib.hid Hf
          have HcA := Lib.hid (check_any _ (natsV (row.take LT)) _ (HA.out (wr.drewN nq) _ (Sat.front (HS5.out.drewN nq) 3 _ rfl)))
          have HcB := Lib.hid (check_any _ (natsV (row.drop LT)) _ (HB.out (wr.drewN nq) _ (Sat.front (HS5.out.drewN nq) 3 _ rfl)))
          go_wp2_with (first | (go_at_call 85; refine HcA.out.mono ?_; rintro e' w10 ⟨rfl, rfl⟩; clear HcA) | (go_at_call 85; refine HcB.out.mono ?_; rintro e' w10 ⟨rfl, rfl⟩; clear HcB) | (go_at_call 78; refine Hf.out.mono ?_; rintro e' w14 ⟨rfl, hS14⟩; have HS14 := Lib.hid hS14; clear hS14 Hf))
          go_ret2
          exact ⟨_, _, ⟨b, o, 5, dn, ks⟩, rfl, HKj.out, .inl ⟨by show (5 : Nat) ≠ 0; omega, Htb.out HnT.out, Sat.perm (As := [_, _, _, _, _]) HS14.out [0] [_] rfl (by simp)⟩⟩
        have hcJ : ((checkI (natsV (row.drop LT)) : Int) != 0) = false := by rw [hcB]; rfl
        have HT2 : Hid (TwoOk LT row) := ⟨⟨HcA0.out, by rw [HzA.out]; have := Hz0.out; omega⟩, hcB⟩
        clear hcB
        go_wp2
        go_quiet (fail)
        have Hf := fail_any (Rs := _ :: _ :: _ :: _ :: Rs) (HS5.out.drewN nq) false 5; rw [failS_n] at Hf; have Hf := Lib.hid Hf
        have HcA := Lib.hid (check_any _ (natsV (row.take LT)) _ (HA.out (wr.drewN nq) _ (Sat.front (HS5.out.drewN nq) 3 _ rfl)))
        have HcB := Lib.hid (check_any _ (natsV (row.drop LT)) _ (HB.out (wr.drewN nq) _ (Sat.front (HS5.out.drewN nq) 3 _ rfl)))
        go_wp2_with (first | (go_at_call 85; refine HcA.out.mono ?_; rintro e' w10 ⟨rfl, rfl⟩; clear HcA) | (go_at_call 85; refine HcB.out.mono ?_; rintro e' w10 ⟨rfl, rfl⟩; clear HcB) | (go_at_call 78; refine Hf.out.mono ?_; rintro e' w14 ⟨rfl, hS14⟩; have HS14 := Lib.hid hS14; clear hS14 Hf))
        go_ret2
        obtain ⟨t9, ht9⟩ := Htg.out HT2.out
        exact ⟨_, _, ⟨b, o, 0, dn, ks⟩, rfl, HKj.out, .inr ⟨rfl, by show b.length ≤ _; have := Hbl2.out; omega, row.take LT, row.drop LT, t9, _, ht9, by have := HAl.out; omega, by have := HAl.out; omega, Hxs.out.1, Hxs.out.2, Sat.perm (As := [_, _, _, _, _]) HS14.out [0, 3] [_, _] rfl (by simp), fun w2 h => HA.out w2 _ h, fun w2 h => HB.out w2 _ h⟩⟩
      have hlt : row.length < L + 257 + (D + 1) := by omega
      have hltI : decide ((row.length : Int) < (L : Int) + 257 + ((D : Int) + 1)) = true := decide_eq_true (by omega)
      obtain ⟨⟨x, e1, n⟩, hD⟩ : ∃ D, decL Fc b = D := ⟨_, rfl⟩
      obtain ⟨d1, d2, d3⟩ := decL_good hD
      have hn := HnF.out _ _ _ _ HS5.out
      rw [nextV_k (r := ⟨b, o, 0, dn, ks⟩) rfl, nextS_k (r := ⟨b, o, 0, dn, ks⟩) rfl] at hn
      simp only [hD] at hn
      have Hn1 := Lib.hid hn
      have HD9 := Lib.hid hD
      obtain ⟨b3, Hb3⟩ : ∃ b3, Hid (b3 = b.drop n) := ⟨_, Lib.hid rfl⟩
      rw [← Hb3.out] at Hn1
      have hb3 : b3.length = b.length - n := by rw [Hb3.out, List.length_drop]
      clear hn hD hfull
      by_cases he1 : e1 = 0
      rotate_left
      · have he1I : ((e1 : Int) != 0) = true := bne_iff_ne.2 (by omega)
        have HE := Lib.hid (Hat.out.err (r := ⟨b, o, 0, dn, ks⟩) hlt HD9.out he1)
        go_wp2_with (go_at_call 81; refine Hn1.out.mono ?_; rintro e' w6 ⟨rfl, hS6⟩; have q6 := run_e hS6; have HS6 := Lib.hid hS6; clear hS6 Hn1)
        go_ret2
        refine ⟨_, _, ⟨b3, o, e1, dn, ks⟩, rfl, HKj.out, .inl ⟨he1, ?_, Sat.perm (As := [_, _, _, _, _]) HS6.out [0] [_] rfl (by simp)⟩⟩
        rw [Hb3.out]
        exact HE.out
      subst he1
      have hn0 : 0 < n := d2 rfl
      have hx19 : x < 19 := by have := decL_sym HD9.out; have := HFlx.out.1; omega
      have Hbn : Hid (b3.length + 1 ≤ gk - 1 ∧ b3.length ≤ b2.length) := by have := Hg.out; unfold Hid; omega
      clear d2 d3
      rcases (by omega : x < 16 ∨ x = 16 ∨ x = 17 ∨ x = 18) with hx | hx | hx | hx
      · -- LITERAL
        have x16 : ((x : Int) == 16) = false := beq_eq_false_iff_ne.2 (by omega)
        have x17 : ((x : Int) == 17) = false := beq_eq_false_iff_ne.2 (by omega)
        have x18 : ((x : Int) == 18) = false := beq_eq_false_iff_ne.2 (by omega)
        have hnx := Hat.out.one (r := ⟨b, o, 0, dn, ks⟩) hlt HD9.out hx
        have Hnx : Hid (row.length + 1 ≤ L + 257 + (D + 1) ∧ (∀ z ∈ row ++ List.replicate 1 x, z ≤ 15) ∧ ∃ t, AtLens lim s0 last Fc (L + 257) (D + 1) (row ++ List.replicate 1 x) ⟨b3, o, 0, dn, ks⟩ t) := ⟨by omega, row_rep Hrx.out (by omega) 1, by rw [Hb3.out]; exact hnx⟩
        have Hff : Hid (∀ w1, Sat w1 (toldL p lim Fc T (.slice woo T.length woap) P lb Rs row (.slice vo row.length vap) ⟨b3, o, 0, dn, ks⟩) → ∀ bb : Bool, bb = false → Calls Tryz.prog 78 #[.pointer (some ⟨p, 0, none⟩), .bool bb, .int .i64 5] w1 fun e' w' => e' = .returned (.tuple #[]) ∧ Sat w' (toldL p lim Fc T (.slice woo T.length woap) P lb Rs row (.slice vo row.length vap) ⟨b3, o, 0, dn, ks⟩)) := by
          intro w1 h bb hbb
          have h := fail_any h bb 5
          subst hbb; rw [failS_n] at h
          exact h
        clear hnx hb3 hbb
        go_wp2_with (first
          | (go_at_call 81; refine Hn1.out.mono ?_; rintro e' w6 ⟨rfl, hS6⟩; have q6 := run_e hS6; replace q6 : w6.cell? ⟨p, 4, none⟩ = some (.int .i64 0) := q6; have HS6 := Lib.hid hS6; clear hS6 Hn1)
          | (go_at_call 78; refine (Hff.out _ HS6.out _ (by first | exact decide_eq_false (by omega) | with_reducible rfl)).mono ?_; rintro e' w14 ⟨rfl, hS14⟩; have qf := run_e hS14; replace qf : w14.cell? ⟨p, 4, none⟩ = some (.int .i64 0) := qf; have HSf := Lib.hid hS14; clear hS14 Hff))
        go_loopw [10, 14] (fun v i wz => ∃ j : Nat, j ≤ 1 ∧ i = .int .i64 j ∧ Hid (Sat wz (toldL p lim Fc T (.slice woo T.length woap) P lb Rs (row ++ List.replicate j x) v ⟨b3, o, 0, dn, ks⟩))) (fun _ i _ => 1 - (intOf i).toNat)
        case atStart => exact ⟨0, by omega, rfl, by rw [List.replicate_zero, List.append_nil]; exact HSf.out⟩
        case round =>
          obtain ⟨j, hj, rfl, HSj⟩ := hrel
          clear HSf qf
          have qj := run_e HSj.out
          replace qj : wr.cell? ⟨p, 4, none⟩ = some (.int .i64 0) := qj
          obtain ⟨_, jo, jap, rfl, -, -, -, -⟩ := HSj.out.at_ 3 _ rfl
          have hrj : (row ++ List.replicate j x).length = row.length + j := by rw [List.length_append, List.length_replicate]
          have Hrj := Lib.hid hrj
          obtain ⟨rj, Hrr⟩ : ∃ rj, Hid (row ++ List.replicate j x = rj) := ⟨_, Lib.hid rfl⟩
          rw [Hrr.out] at HSj Hrj ⊢
          have hrj2 : rj.length ≤ 1000 := by rw [Hrj.out]; omega
          clear hrj
          by_cases hjn : j < 1
          · have djnI : decide ((j : Int) < ((1 : Nat) : Int)) = true := decide_eq_true (by omega)
            have hA := HSj.out.sl_made (e := 3) (size := 1) (n := 1) (cap := 1) (cur := #[.int .i64 (x : Nat)]) (xs := [.int .i64 (x : Nat)]) (by omega) (by decide) rfl (by simp) (fun j u hu => by simpa using hu)
            have Hsrc := Lib.hid (SlR.src (P := Tryz.prog) hA.sl_read Tryz.underlying45 (by simp [Value.oneCell']))
            have HA2 := Lib.hid (Sat.perm (As := [_, _, _, _, _, _]) hA [4, 1, 2, 3, 5, 0] [_, _, _, _, _, _] rfl (by simp))
            clear hA
            go_wp2_with (at_builtin; refine wpList_append_sat _ rfl _ _ 45 45 rfl 3 i1 (.int .i64 0) 1 8 Tryz.underlying45 hi1 hy0 hy1 hy2 rfl (by decide) rj.length _ _ _ rfl HA2.out 1 _ _ rfl Hsrc.out (by unfold maxLen; omega) (by omega) ?_)
            intro v' w' hS7
            obtain ⟨_, jo2, jap2, rfl, -, -, -, -⟩ := hS7.at_ 0 _ rfl
            have H7 := Lib.hid (Sat.perm (As := [_, _, _, _, _, _]) hS7 [1, 2, 3, 0, 4] [_, _, _, _, _] rfl (by simp))
            clear hS7 HA2 Hsrc
            go_wp2
            go_roundw
            case rel =>
              refine ⟨j + 1, by omega, by go_num, ?_⟩
              rw [List.replicate_succ', ← List.append_assoc, Hrr.out]
              unfold toldL
              rw [natsV_app, show (rj ++ [(x : Nat)]).length = rj.length + 1 by rw [List.length_append]; rfl]
              exact H7.out
            case measure => simp [intOf]; omega
          · have djnI : decide ((j : Int) < ((1 : Nat) : Int)) = false := decide_eq_false (by omega)
            obtain rfl : j = 1 := by omega
            go_wp2
            go_roundg (gk - 1)
            case measure => have := Hg.out; omega
            case rel => exact ⟨rj, ⟨b3, o, 0, dn, ks⟩, by show b3.length + (if 0 = 0 then 1 else 0) ≤ _; rw [if_pos rfl]; have := Hbn.out.1; omega, by show b3.length ≤ _; have := Hbn.out.2; omega, .inl ⟨rfl, by have := Hnx.out.1; have := Hrj.out; omega, by rw [← Hrr.out]; exact Hnx.out.2.1, by rw [← Hrr.out]; exact Hnx.out.2.2⟩, HKj.out, HSj.out⟩
      · -- SIXTEEN
        subst hx
        by_cases hz : row.length = 0
        · have hzI : ((row.length : Int) == 0) = true := by rw [hz]; rfl
          have HE : Hid (Ends lim s0 last ⟨b3, o, 5, dn, ks⟩) := by rw [Hb3.out]; exact Hat.out.empty (r := ⟨b, o, 0, dn, ks⟩) hlt HD9.out hz
          have Hff : Hid (∀ w1, Sat w1 (toldL p lim Fc T (.slice woo T.length woap) P lb Rs row (.slice vo row.length vap) ⟨b3, o, 5, dn, ks⟩) → ∀ bb : Bool, True → Calls Tryz.prog 78 #[.pointer (some ⟨p, 0, none⟩), .bool bb, .int .i64 5] w1 fun e' w' => e' = .returned (.tuple #[]) ∧ Sat w' (toldL p lim Fc T (.slice woo T.length woap) P lb Rs row (.slice vo row.length vap) ⟨b3, o, 5, dn, ks⟩)) := by
            intro w1 h bb hbb
            have h := fail_any h bb 5
            rw [failS_e bb 5 (show RunS.e ⟨b3, o, 5, dn, ks⟩ ≠ 0 by show (5 : Nat) ≠ 0; omega)] at h
            exact h
          have Hst : Hid (∀ w1, Sat w1 (toldL p lim Fc T (.slice woo T.length woap) P lb Rs row (.slice vo row.length vap) ⟨b3, o, 0, dn, ks⟩) → (w1.cell? ⟨p, 4, none⟩ = some (.int .i64 0) ∧ w1.frozen? ⟨p, 4, none⟩ = false ∧ Sat (w1.setCell ⟨p, 4, none⟩ (.int .i64 5)) (toldL p lim Fc T (.slice woo T.length woap) P lb Rs row (.slice vo row.length vap) ⟨b3, o, 5, dn, ks⟩))) := by
            intro w1 h
            obtain ⟨bv9, ov9, kv9, h9⟩ := run_open h
            exact ⟨(run_cells h9).2.2.2.1, run_froz h9 4, run_shut (run_set (r := ⟨b3, o, 0, dn, ks⟩) (r' := ⟨b3, o, 5, dn, ks⟩) (v := .int .i64 5) h9 4 rfl)⟩
          have Hz := Lib.hid hz
          clear hb3 hbb hz
          go_wp2_with (first
            | (go_at_call 81; refine Hn1.out.mono ?_; rintro e' w6 ⟨rfl, hS6⟩; have q6 := run_e hS6; replace q6 : w6.cell? ⟨p, 4, none⟩ = some (.int .i64 0) := q6; have HS6 := Lib.hid hS6; clear hS6 Hn1; obtain ⟨g1, g2, g3⟩ := Hst.out _ HS6.out; have HS7 := Lib.hid g3; clear g3 Hst)
            | (go_at_call 78; refine (Hff.out _ HS7.out _ (by trivial)).mono ?_; rintro e' w14 ⟨rfl, hS14⟩; have qf := run_e hS14; replace qf : w14.cell? ⟨p, 4, none⟩ = some (.int .i64 5) := qf; have HSf := Lib.hid hS14; clear hS14 Hff))
          go_loopw [10, 14] (fun v i wz => v = .slice vo row.length vap ∧ i = .int .i64 0 ∧ wz = w14) (fun _ _ _ => 0)
          case atStart => exact ⟨rfl, rfl, rfl⟩
          case round =>
            obtain ⟨rfl, rfl, rfl⟩ := hrel
            go_wp2
            all_goals
              go_roundg (gk - 1)
              case measure => have := Hg.out; omega
              case rel => exact ⟨row, ⟨b3, o, 5, dn, ks⟩, by show b3.length + (if 5 = 0 then 1 else 0) ≤ _; rw [if_neg (by omega)]; have := Hbn.out.1; omega, by have := Hbn.out.2; exact this, .inr ⟨by show (5 : Nat) ≠ 0; omega, HE.out⟩, HKj.out, HSf.out⟩

        obtain ⟨m, hm⟩ : ∃ m, row.length = m + 1 := ⟨row.length - 1, by omega⟩
        obtain ⟨z, hz1, hz2, hz3⟩ := row_get hm
        have hz15 : z ≤ 15 := Hrx.out z hz3
        have hzI : ((row.length : Int) == 0) = false := beq_eq_false_iff_ne.2 (by omega)
        have hmI : (row.length : Int) - 1 = (m : Int) := by omega
        have hmI0 : (0 : Int) ≤ (m : Int) := by omega
        have hmI1 : (m : Int) < (row.length : Int) := by omega
        have hw1 : IntKind.i64.wrap ((row.length : Int) - 1) = (m : Int) := (i64_id _ (by omega) (by omega)).trans hmI
        have hw2 : IntKind.i64.wrap (m : Int) = (m : Int) := i64_id _ (by omega) (by omega)
        have Hzc : Hid (((natsV row).map intV)[m]? = some (.int .i64 (z : Nat))) := by unfold Hid natsV; rw [List.map_map, List.getElem?_map, hz1]; rfl
        obtain ⟨tm, htm⟩ := Hat.out.more (r := ⟨b, o, 0, dn, ks⟩) hlt HD9.out (by omega) (by omega)
        replace htm : AtMore lim s0 last Fc (L + 257) (D + 1) row z 2 3 ⟨b3, o, 0, dn, ks⟩ tm := by rw [Hb3.out, ← hz2]; exact htm
        have Htm := Lib.hid htm
        have hvo : ∃ ob off, vo = some ⟨ob, off, none⟩ := by
          obtain ⟨ob, off, c9, heq, -⟩ := (Sat.front HS5.out 3 _ rfl).sl_cells (by omega)
          simp only [Value.slice.injEq, true_and] at heq
          exact ⟨ob, off, heq.1⟩
        obtain ⟨ob, off, rfl⟩ := hvo
        have Hm := Lib.hid hm
        clear htm hz1 hz2 hz3 hz hm
        by_cases hk : b3.length < 2
        · have HE := Lib.hid (Htm.out.short (r := ⟨b3, o, 0, dn, ks⟩) hk)
          have Htk : Hid (∀ w1, Sat w1 (toldL p lim Fc T (.slice woo T.length woap) P lb Rs row (.slice (some ⟨ob, off, none⟩) row.length vap) ⟨b3, o, 0, dn, ks⟩) → Calls Tryz.prog 45 #[.pointer (some ⟨p, 0, none⟩), .int .i64 2] w1 fun e' w' => e' = .returned (.int .i64 0) ∧ Sat w' (toldL p lim Fc T (.slice woo T.length woap) P lb Rs row (.slice (some ⟨ob, off, none⟩) row.length vap) ⟨b3, o, 2, dn, ks⟩)) := by
            intro w1 h
            have h := take_any h 2 (by omega)
            rw [takeS_s (r := ⟨b3, o, 0, dn, ks⟩) (n := 2) rfl hk, takeV_s (r := ⟨b3, o, 0, dn, ks⟩) (n := 2) rfl hk] at h
            exact h
          have Hff : Hid (∀ w1, Sat w1 (toldL p lim Fc T (.slice woo T.length woap) P lb Rs row (.slice (some ⟨ob, off, none⟩) row.length vap) ⟨b3, o, 2, dn, ks⟩) → ∀ bb : Bool, True → Calls Tryz.prog 78 #[.pointer (some ⟨p, 0, none⟩), .bool bb, .int .i64 5] w1 fun e' w' => e' = .returned (.tuple #[]) ∧ Sat w' (toldL p lim Fc T (.slice woo T.length woap) P lb Rs row (.slice (some ⟨ob, off, none⟩) row.length vap) ⟨b3, o, 2, dn, ks⟩)) := by
            intro w1 h bb hbb
            have h := fail_any h bb 5
            rw [failS_e bb 5 (show RunS.e ⟨b3, o, 2, dn, ks⟩ ≠ 0 by show (2 : Nat) ≠ 0; omega)] at h
            exact h
          clear hb3 hbb hk
          go_wp2_with (go_at_call 81; refine Hn1.out.mono ?_; rintro e' w6 ⟨rfl, hS6⟩; have q6 := run_e hS6; replace q6 : w6.cell? ⟨p, 4, none⟩ = some (.int .i64 0) := q6; have HS6 := Lib.hid hS6; clear hS6 Hn1; have r6 := slr_cell (Sat.front HS6.out 3 _ rfl).sl_read Hzc.out)
          go_region_with (go_at_call 45; refine (Htk.out _ HS6.out.drew).mono ?_; rintro e' w7 ⟨rfl, hS7⟩; have q7 := run_e hS7; replace q7 : w7.cell? ⟨p, 4, none⟩ = some (.int .i64 2) := q7; have r7 := slr_cell (Sat.front hS7 3 _ rfl).sl_read Hzc.out; have HS7 := Lib.hid hS7; clear hS7 Htk)
          all_goals
            go_wp2_with (go_at_call 78; refine (Hff.out _ HS7.out _ (by trivial)).mono ?_; rintro e' w14 ⟨rfl, hS14⟩; have qf := run_e hS14; replace qf : w14.cell? ⟨p, 4, none⟩ = some (.int .i64 2) := qf; have HSf := Lib.hid hS14; clear hS14 Hff)
            go_loopw [10, 14] (fun v i wz => v = .slice (some ⟨ob, off, none⟩) row.length vap ∧ i = .int .i64 0 ∧ wz = w14) (fun _ _ _ => 0)
            case atStart => exact ⟨rfl, rfl, rfl⟩
            case round =>
              obtain ⟨rfl, rfl, rfl⟩ := hrel
              go_wp2
              all_goals
                go_roundg (gk - 1)
                case measure => have := Hg.out; omega
                case rel => exact ⟨row, ⟨b3, o, 2, dn, ks⟩, by show b3.length + (if 2 = 0 then 1 else 0) ≤ _; rw [if_neg (by omega)]; have := Hbn.out.1; omega, by have := Hbn.out.2; exact this, .inr ⟨by show (2 : Nat) ≠ 0; omega, HE.out⟩, HKj.out, HSf.out⟩

        have hk3 : 2 ≤ b3.length := by omega
        obtain ⟨y, Hy⟩ : ∃ y, Hid (y = num (b3.take 2)) := ⟨_, Lib.hid rfl⟩
        have hy : y < 4 := by rw [Hy.out]; exact num_take_lt _ _ 2 (by omega)
        obtain ⟨N, HN⟩ : ∃ N, Hid (N = 3 + y) := ⟨_, Lib.hid rfl⟩
        have hNI : (y : Int) + 3 = (N : Int) := by rw [HN.out]; omega
        have hNb : N ≤ 140 := by rw [HN.out]; omega
        obtain ⟨b4, Hb4⟩ : ∃ b4, Hid (b4 = b3.drop 2) := ⟨_, Lib.hid rfl⟩
        have hb4 : b4.length = b3.length - 2 := by rw [Hb4.out, List.length_drop]
        have hb4n : b4.length + 1 ≤ gk - 1 ∧ b4.length ≤ b2.length := by have := Hbn.out; omega
        replace Hbn : Hid (b4.length + 1 ≤ gk - 1 ∧ b4.length ≤ b2.length) := hb4n
        have Htk : Hid (∀ w1, Sat w1 (toldL p lim Fc T (.slice woo T.length woap) P lb Rs row (.slice (some ⟨ob, off, none⟩) row.length vap) ⟨b3, o, 0, dn, ks⟩) → Calls Tryz.prog 45 #[.pointer (some ⟨p, 0, none⟩), .int .i64 2] w1 fun e' w' => e' = .returned (.int .i64 (y : Nat)) ∧ Sat w' (toldL p lim Fc T (.slice woo T.length woap) P lb Rs row (.slice (some ⟨ob, off, none⟩) row.length vap) ⟨b4, o, 0, dn, ks⟩)) := by
          intro w1 h
          have h := take_any h 2 (by omega)
          rw [takeS_k (r := ⟨b3, o, 0, dn, ks⟩) (n := 2) rfl hk3, takeV_k (r := ⟨b3, o, 0, dn, ks⟩) (n := 2) rfl hk3] at h
          rw [Hy.out, Hb4.out]
          exact h
        by_cases hov : L + 257 + (D + 1) < row.length + N
        · have HE : Hid (Ends lim s0 last ⟨b4, o, 5, dn, ks⟩) := by
            have h := Htm.out.over (r := ⟨b3, o, 0, dn, ks⟩) hk3 (by show L + 257 + (D + 1) < row.length + (3 + num (b3.take 2)); rw [← Hy.out, ← HN.out]; exact hov)
            rw [Hb4.out]; exact h
          have Hff : Hid (∀ w1, Sat w1 (toldL p lim Fc T (.slice woo T.length woap) P lb Rs row (.slice (some ⟨ob, off, none⟩) row.length vap) ⟨b4, o, 0, dn, ks⟩) → ∀ bb : Bool, bb = true → Calls Tryz.prog 78 #[.pointer (some ⟨p, 0, none⟩), .bool bb, .int .i64 5] w1 fun e' w' => e' = .returned (.tuple #[]) ∧ Sat w' (toldL p lim Fc T (.slice woo T.length woap) P lb Rs row (.slice (some ⟨ob, off, none⟩) row.length vap) ⟨b4, o, 5, dn, ks⟩)) := by
            intro w1 h bb hbb
            have h := fail_any h bb 5
            subst hbb; rw [failS_y (r := ⟨b4, o, 0, dn, ks⟩) 5 rfl] at h
            exact h
          clear hb3 hbb hb4 hk hb4n
          go_wp2_with (go_at_call 81; refine Hn1.out.mono ?_; rintro e' w6 ⟨rfl, hS6⟩; have q6 := run_e hS6; replace q6 : w6.cell? ⟨p, 4, none⟩ = some (.int .i64 0) := q6; have HS6 := Lib.hid hS6; clear hS6 Hn1; have r6 := slr_cell (Sat.front HS6.out 3 _ rfl).sl_read Hzc.out)
          go_region_with (go_at_call 45; refine (Htk.out _ HS6.out.drew).mono ?_; rintro e' w7 ⟨rfl, hS7⟩; have q7 := run_e hS7; replace q7 : w7.cell? ⟨p, 4, none⟩ = some (.int .i64 0) := q7; have r7 := slr_cell (Sat.front hS7 3 _ rfl).sl_read Hzc.out; have HS7 := Lib.hid hS7; clear hS7 Htk)
          all_goals
            go_wp2_with (go_at_call 78; refine (Hff.out _ HS7.out _ (by first | exact decide_eq_true (by omega) | with_reducible rfl)).mono ?_; rintro e' w14 ⟨rfl, hS14⟩; have qf := run_e hS14; replace qf : w14.cell? ⟨p, 4, none⟩ = some (.int .i64 5) := qf; have HSf := Lib.hid hS14; clear hS14 Hff)
            go_loopw [10, 14] (fun v i wz => v = .slice (some ⟨ob, off, none⟩) row.length vap ∧ i = .int .i64 0 ∧ wz = w14) (fun _ _ _ => 0)
            case atStart => exact ⟨rfl, rfl, rfl⟩
            case round =>
              obtain ⟨rfl, rfl, rfl⟩ := hrel
              go_wp2
              all_goals
                go_roundg (gk - 1)
                case measure => have := Hg.out; omega
                case rel => exact ⟨row, ⟨b4, o, 5, dn, ks⟩, by show b4.length + (if 5 = 0 then 1 else 0) ≤ _; rw [if_neg (by omega)]; have := Hbn.out.1; omega, by have := Hbn.out.2; exact this, .inr ⟨by show (5 : Nat) ≠ 0; omega, HE.out⟩, HKj.out, HSf.out⟩

        have hnx := Htm.out.lay (r := ⟨b3, o, 0, dn, ks⟩) hk3 (by show ¬ L + 257 + (D + 1) < row.length + (3 + num (b3.take 2)); rw [← Hy.out, ← HN.out]; exact hov)
        have Hnx : Hid (row.length + N ≤ L + 257 + (D + 1) ∧ (∀ x ∈ row ++ List.replicate N z, x ≤ 15) ∧ ∃ t, AtLens lim s0 last Fc (L + 257) (D + 1) (row ++ List.replicate N z) ⟨b4, o, 0, dn, ks⟩ t) := ⟨by omega, row_rep Hrx.out hz15 N, by rw [Hb4.out, HN.out, Hy.out]; exact hnx⟩
        have Hff : Hid (∀ w1, Sat w1 (toldL p lim Fc T (.slice woo T.length woap) P lb Rs row (.slice (some ⟨ob, off, none⟩) row.length vap) ⟨b4, o, 0, dn, ks⟩) → ∀ bb : Bool, bb = false → Calls Tryz.prog 78 #[.pointer (some ⟨p, 0, none⟩), .bool bb, .int .i64 5] w1 fun e' w' => e' = .returned (.tuple #[]) ∧ Sat w' (toldL p lim Fc T (.slice woo T.length woap) P lb Rs row (.slice (some ⟨ob, off, none⟩) row.length vap) ⟨b4, o, 0, dn, ks⟩)) := by
          intro w1 h bb hbb
          have h := fail_any h bb 5
          subst hbb; rw [failS_n] at h
          exact h
        clear hnx hb3 hbb hb4 hk hb4n
        go_wp2_with (go_at_call 81; refine Hn1.out.mono ?_; rintro e' w6 ⟨rfl, hS6⟩; have q6 := run_e hS6; replace q6 : w6.cell? ⟨p, 4, none⟩ = some (.int .i64 0) := q6; have HS6 := Lib.hid hS6; clear hS6 Hn1; have r6 := slr_cell (Sat.front HS6.out 3 _ rfl).sl_read Hzc.out)
        go_region_with (go_at_call 45; refine (Htk.out _ HS6.out.drew).mono ?_; rintro e' w7 ⟨rfl, hS7⟩; have q7 := run_e hS7; replace q7 : w7.cell? ⟨p, 4, none⟩ = some (.int .i64 0) := q7; have r7 := slr_cell (Sat.front hS7 3 _ rfl).sl_read Hzc.out; have HS7 := Lib.hid hS7; clear hS7 Htk)
        all_goals
          go_wp2_with (go_at_call 78; refine (Hff.out _ HS7.out _ (by first | exact decide_eq_false (by omega) | with_reducible rfl)).mono ?_; rintro e' w14 ⟨rfl, hS14⟩; have qf := run_e hS14; replace qf : w14.cell? ⟨p, 4, none⟩ = some (.int .i64 0) := qf; have HSf := Lib.hid hS14; clear hS14 Hff)
          go_loopw [10, 14] (fun v i wz => ∃ j : Nat, j ≤ N ∧ i = .int .i64 j ∧ Hid (Sat wz (toldL p lim Fc T (.slice woo T.length woap) P lb Rs (row ++ List.replicate j z) v ⟨b4, o, 0, dn, ks⟩))) (fun _ i _ => N - (intOf i).toNat)
          case atStart => exact ⟨0, by omega, rfl, by rw [List.replicate_zero, List.append_nil]; exact HSf.out⟩
          case round =>
            obtain ⟨j, hj, rfl, HSj⟩ := hrel
            clear HSf qf
            have qj := run_e HSj.out
            replace qj : wr.cell? ⟨p, 4, none⟩ = some (.int .i64 0) := qj
            obtain ⟨_, jo, jap, rfl, -, -, -, -⟩ := HSj.out.at_ 3 _ rfl
            have hrj : (row ++ List.replicate j z).length = row.length + j := by rw [List.length_append, List.length_replicate]
            have Hrj := Lib.hid hrj
            obtain ⟨rj, Hrr⟩ : ∃ rj, Hid (row ++ List.replicate j z = rj) := ⟨_, Lib.hid rfl⟩
            rw [Hrr.out] at HSj Hrj ⊢
            have hrj2 : rj.length ≤ 1000 := by rw [Hrj.out]; omega
            clear hrj
            by_cases hjn : j < N
            · have djnI : decide ((j : Int) < ((N : Nat) : Int)) = true := decide_eq_true (by omega)
              have hA := HSj.out.sl_made (e := 3) (size := 1) (n := 1) (cap := 1) (cur := #[.int .i64 (z : Nat)]) (xs := [.int .i64 (z : Nat)]) (by omega) (by decide) rfl (by simp) (fun j u hu => by simpa using hu)
              have Hsrc := Lib.hid (SlR.src (P := Tryz.prog) hA.sl_read Tryz.underlying45 (by simp [Value.oneCell']))
              have HA2 := Lib.hid (Sat.perm (As := [_, _, _, _, _, _]) hA [4, 1, 2, 3, 5, 0] [_, _, _, _, _, _] rfl (by simp))
              clear hA
              go_wp2_with (at_builtin; refine wpList_append_sat _ rfl _ _ 45 45 rfl 3 i1 (.int .i64 0) 1 8 Tryz.underlying45 hi1 hy0 hy1 hy2 rfl (by decide) rj.length _ _ _ rfl HA2.out 1 _ _ rfl Hsrc.out (by unfold maxLen; omega) (by omega) ?_)
              intro v' w' hS7
              obtain ⟨_, jo2, jap2, rfl, -, -, -, -⟩ := hS7.at_ 0 _ rfl
              have H7 := Lib.hid (Sat.perm (As := [_, _, _, _, _, _]) hS7 [1, 2, 3, 0, 4] [_, _, _, _, _] rfl (by simp))
              clear hS7 HA2 Hsrc
              go_wp2
              go_roundw
              case rel =>
                refine ⟨j + 1, by omega, by go_num, ?_⟩
                rw [List.replicate_succ', ← List.append_assoc, Hrr.out]
                unfold toldL
                rw [natsV_app, show (rj ++ [(z : Nat)]).length = rj.length + 1 by rw [List.length_append]; rfl]
                exact H7.out
              case measure => simp [intOf]; omega
            · have djnI : decide ((j : Int) < ((N : Nat) : Int)) = false := decide_eq_false (by omega)
              obtain rfl : j = N := by omega
              go_wp2
              go_roundg (gk - 1)
              case measure => have := Hg.out; omega
              case rel => exact ⟨rj, ⟨b4, o, 0, dn, ks⟩, by show b4.length + (if 0 = 0 then 1 else 0) ≤ _; rw [if_pos rfl]; have := Hbn.out.1; omega, by show b4.length ≤ _; have := Hbn.out.2; omega, .inl ⟨rfl, by have := Hnx.out.1; have := Hrj.out; omega, by rw [← Hrr.out]; exact Hnx.out.2.1, by rw [← Hrr.out]; exact Hnx.out.2.2⟩, HKj.out, HSj.out⟩
      · -- SEVENTEEN
        subst hx
        obtain ⟨tm, htm⟩ := Hat.out.more (r := ⟨b, o, 0, dn, ks⟩) hlt HD9.out (by omega) (by omega)
        replace htm : AtMore lim s0 last Fc (L + 257) (D + 1) row 0 3 3 ⟨b3, o, 0, dn, ks⟩ tm := by rw [Hb3.out]; exact htm
        have Htm := Lib.hid htm
        clear htm
        by_cases hk : b3.length < 3
        · have HE := Lib.hid (Htm.out.short (r := ⟨b3, o, 0, dn, ks⟩) hk)
          have Htk : Hid (∀ w1, Sat w1 (toldL p lim Fc T (.slice woo T.length woap) P lb Rs row (.slice vo row.length vap) ⟨b3, o, 0, dn, ks⟩) → Calls Tryz.prog 45 #[.pointer (some ⟨p, 0, none⟩), .int .i64 3] w1 fun e' w' => e' = .returned (.int .i64 0) ∧ Sat w' (toldL p lim Fc T (.slice woo T.length woap) P lb Rs row (.slice vo row.length vap) ⟨b3, o, 2, dn, ks⟩)) := by
            intro w1 h
            have h := take_any h 3 (by omega)
            rw [takeS_s (r := ⟨b3, o, 0, dn, ks⟩) (n := 3) rfl hk, takeV_s (r := ⟨b3, o, 0, dn, ks⟩) (n := 3) rfl hk] at h
            exact h
          have Hff : Hid (∀ w1, Sat w1 (toldL p lim Fc T (.slice woo T.length woap) P lb Rs row (.slice vo row.length vap) ⟨b3, o, 2, dn, ks⟩) → ∀ bb : Bool, True → Calls Tryz.prog 78 #[.pointer (some ⟨p, 0, none⟩), .bool bb, .int .i64 5] w1 fun e' w' => e' = .returned (.tuple #[]) ∧ Sat w' (toldL p lim Fc T (.slice woo T.length woap) P lb Rs row (.slice vo row.length vap) ⟨b3, o, 2, dn, ks⟩)) := by
            intro w1 h bb hbb
            have h := fail_any h bb 5
            rw [failS_e bb 5 (show RunS.e ⟨b3, o, 2, dn, ks⟩ ≠ 0 by show (2 : Nat) ≠ 0; omega)] at h
            exact h
          clear hb3 hbb hk
          go_wp2_with (first
            | (go_at_call 81; refine Hn1.out.mono ?_; rintro e' w6 ⟨rfl, hS6⟩; have q6 := run_e hS6; replace q6 : w6.cell? ⟨p, 4, none⟩ = some (.int .i64 0) := q6; have HS6 := Lib.hid hS6; clear hS6 Hn1)
            | (go_at_call 45; refine (Htk.out _ HS6.out).mono ?_; rintro e' w7 ⟨rfl, hS7⟩; have q7 := run_e hS7; replace q7 : w7.cell? ⟨p, 4, none⟩ = some (.int .i64 2) := q7; have HS7 := Lib.hid hS7; clear hS7 Htk)
            | (go_at_call 78; refine (Hff.out _ HS7.out _ (by trivial)).mono ?_; rintro e' w14 ⟨rfl, hS14⟩; have qf := run_e hS14; replace qf : w14.cell? ⟨p, 4, none⟩ = some (.int .i64 2) := qf; have HSf := Lib.hid hS14; clear hS14 Hff))
          go_loopw [10, 14] (fun v i wz => v = .slice vo row.length vap ∧ i = .int .i64 0 ∧ wz = w14) (fun _ _ _ => 0)
          case atStart => exact ⟨rfl, rfl, rfl⟩
          case round =>
            obtain ⟨rfl, rfl, rfl⟩ := hrel
            go_wp2
            all_goals
              go_roundg (gk - 1)
              case measure => have := Hg.out; omega
              case rel => exact ⟨row, ⟨b3, o, 2, dn, ks⟩, by show b3.length + (if 2 = 0 then 1 else 0) ≤ _; rw [if_neg (by omega)]; have := Hbn.out.1; omega, by have := Hbn.out.2; exact this, .inr ⟨by show (2 : Nat) ≠ 0; omega, HE.out⟩, HKj.out, HSf.out⟩

        have hk3 : 3 ≤ b3.length := by omega
        obtain ⟨y, Hy⟩ : ∃ y, Hid (y = num (b3.take 3)) := ⟨_, Lib.hid rfl⟩
        have hy : y < 8 := by rw [Hy.out]; exact num_take_lt _ _ 3 (by omega)
        obtain ⟨N, HN⟩ : ∃ N, Hid (N = 3 + y) := ⟨_, Lib.hid rfl⟩
        have hNI : (y : Int) + 3 = (N : Int) := by rw [HN.out]; omega
        have hNb : N ≤ 140 := by rw [HN.out]; omega
        obtain ⟨b4, Hb4⟩ : ∃ b4, Hid (b4 = b3.drop 3) := ⟨_, Lib.hid rfl⟩
        have hb4 : b4.length = b3.length - 3 := by rw [Hb4.out, List.length_drop]
        have hb4n : b4.length + 1 ≤ gk - 1 ∧ b4.length ≤ b2.length := by have := Hbn.out; omega
        replace Hbn : Hid (b4.length + 1 ≤ gk - 1 ∧ b4.length ≤ b2.length) := hb4n
        have Htk : Hid (∀ w1, Sat w1 (toldL p lim Fc T (.slice woo T.length woap) P lb Rs row (.slice vo row.length vap) ⟨b3, o, 0, dn, ks⟩) → Calls Tryz.prog 45 #[.pointer (some ⟨p, 0, none⟩), .int .i64 3] w1 fun e' w' => e' = .returned (.int .i64 (y : Nat)) ∧ Sat w' (toldL p lim Fc T (.slice woo T.length woap) P lb Rs row (.slice vo row.length vap) ⟨b4, o, 0, dn, ks⟩)) := by
          intro w1 h
          have h := take_any h 3 (by omega)
          rw [takeS_k (r := ⟨b3, o, 0, dn, ks⟩) (n := 3) rfl hk3, takeV_k (r := ⟨b3, o, 0, dn, ks⟩) (n := 3) rfl hk3] at h
          rw [Hy.out, Hb4.out]
          exact h
        by_cases hov : L + 257 + (D + 1) < row.length + N
        · have HE : Hid (Ends lim s0 last ⟨b4, o, 5, dn, ks⟩) := by
            have h := Htm.out.over (r := ⟨b3, o, 0, dn, ks⟩) hk3 (by show L + 257 + (D + 1) < row.length + (3 + num (b3.take 3)); rw [← Hy.out, ← HN.out]; exact hov)
            rw [Hb4.out]; exact h
          have Hff : Hid (∀ w1, Sat w1 (toldL p lim Fc T (.slice woo T.length woap) P lb Rs row (.slice vo row.length vap) ⟨b4, o, 0, dn, ks⟩) → ∀ bb : Bool, bb = true → Calls Tryz.prog 78 #[.pointer (some ⟨p, 0, none⟩), .bool bb, .int .i64 5] w1 fun e' w' => e' = .returned (.tuple #[]) ∧ Sat w' (toldL p lim Fc T (.slice woo T.length woap) P lb Rs row (.slice vo row.length vap) ⟨b4, o, 5, dn, ks⟩)) := by
            intro w1 h bb hbb
            have h := fail_any h bb 5
            subst hbb; rw [failS_y (r := ⟨b4, o, 0, dn, ks⟩) 5 rfl] at h
            exact h
          clear hb3 hbb hb4 hk hb4n
          go_wp2_with (first
            | (go_at_call 81; refine Hn1.out.mono ?_; rintro e' w6 ⟨rfl, hS6⟩; have q6 := run_e hS6; replace q6 : w6.cell? ⟨p, 4, none⟩ = some (.int .i64 0) := q6; have HS6 := Lib.hid hS6; clear hS6 Hn1)
            | (go_at_call 45; refine (Htk.out _ HS6.out).mono ?_; rintro e' w7 ⟨rfl, hS7⟩; have q7 := run_e hS7; replace q7 : w7.cell? ⟨p, 4, none⟩ = some (.int .i64 0) := q7; have HS7 := Lib.hid hS7; clear hS7 Htk)
            | (go_at_call 78; refine (Hff.out _ HS7.out _ (by first | exact decide_eq_true (by omega) | with_reducible rfl)).mono ?_; rintro e' w14 ⟨rfl, hS14⟩; have qf := run_e hS14; replace qf : w14.cell? ⟨p, 4, none⟩ = some (.int .i64 5) := qf; have HSf := Lib.hid hS14; clear hS14 Hff))
          go_loopw [10, 14] (fun v i wz => v = .slice vo row.length vap ∧ i = .int .i64 0 ∧ wz = w14) (fun _ _ _ => 0)
          case atStart => exact ⟨rfl, rfl, rfl⟩
          case round =>
            obtain ⟨rfl, rfl, rfl⟩ := hrel
            go_wp2
            all_goals
              go_roundg (gk - 1)
              case measure => have := Hg.out; omega
              case rel => exact ⟨row, ⟨b4, o, 5, dn, ks⟩, by show b4.length + (if 5 = 0 then 1 else 0) ≤ _; rw [if_neg (by omega)]; have := Hbn.out.1; omega, by have := Hbn.out.2; exact this, .inr ⟨by show (5 : Nat) ≠ 0; omega, HE.out⟩, HKj.out, HSf.out⟩

        have hnx := Htm.out.lay (r := ⟨b3, o, 0, dn, ks⟩) hk3 (by show ¬ L + 257 + (D + 1) < row.length + (3 + num (b3.take 3)); rw [← Hy.out, ← HN.out]; exact hov)
        have Hnx : Hid (row.length + N ≤ L + 257 + (D + 1) ∧ (∀ z ∈ row ++ List.replicate N 0, z ≤ 15) ∧ ∃ t, AtLens lim s0 last Fc (L + 257) (D + 1) (row ++ List.replicate N 0) ⟨b4, o, 0, dn, ks⟩ t) := ⟨by omega, row_rep Hrx.out (by omega) N, by rw [Hb4.out, HN.out, Hy.out]; exact hnx⟩
        have Hff : Hid (∀ w1, Sat w1 (toldL p lim Fc T (.slice woo T.length woap) P lb Rs row (.slice vo row.length vap) ⟨b4, o, 0, dn, ks⟩) → ∀ bb : Bool, bb = false → Calls Tryz.prog 78 #[.pointer (some ⟨p, 0, none⟩), .bool bb, .int .i64 5] w1 fun e' w' => e' = .returned (.tuple #[]) ∧ Sat w' (toldL p lim Fc T (.slice woo T.length woap) P lb Rs row (.slice vo row.length vap) ⟨b4, o, 0, dn, ks⟩)) := by
          intro w1 h bb hbb
          have h := fail_any h bb 5
          subst hbb; rw [failS_n] at h
          exact h
        clear hnx hb3 hbb hb4 hk hb4n
        go_wp2_with (first
          | (go_at_call 81; refine Hn1.out.mono ?_; rintro e' w6 ⟨rfl, hS6⟩; have q6 := run_e hS6; replace q6 : w6.cell? ⟨p, 4, none⟩ = some (.int .i64 0) := q6; have HS6 := Lib.hid hS6; clear hS6 Hn1)
          | (go_at_call 45; refine (Htk.out _ HS6.out).mono ?_; rintro e' w7 ⟨rfl, hS7⟩; have q7 := run_e hS7; replace q7 : w7.cell? ⟨p, 4, none⟩ = some (.int .i64 0) := q7; have HS7 := Lib.hid hS7; clear hS7 Htk)
          | (go_at_call 78; refine (Hff.out _ HS7.out _ (by first | exact decide_eq_false (by omega) | with_reducible rfl)).mono ?_; rintro e' w14 ⟨rfl, hS14⟩; have qf := run_e hS14; replace qf : w14.cell? ⟨p, 4, none⟩ = some (.int .i64 0) := qf; have HSf := Lib.hid hS14; clear hS14 Hff))
        go_loopw [10, 14] (fun v i wz => ∃ j : Nat, j ≤ N ∧ i = .int .i64 j ∧ Hid (Sat wz (toldL p lim Fc T (.slice woo T.length woap) P lb Rs (row ++ List.replicate j 0) v ⟨b4, o, 0, dn, ks⟩))) (fun _ i _ => N - (intOf i).toNat)
        case atStart => exact ⟨0, by omega, rfl, by rw [List.replicate_zero, List.append_nil]; exact HSf.out⟩
        case round =>
          obtain ⟨j, hj, rfl, HSj⟩ := hrel
          clear HSf qf
          have qj := run_e HSj.out
          replace qj : wr.cell? ⟨p, 4, none⟩ = some (.int .i64 0) := qj
          obtain ⟨_, jo, jap, rfl, -, -, -, -⟩ := HSj.out.at_ 3 _ rfl
          have hrj : (row ++ List.replicate j 0).length = row.length + j := by rw [List.length_append, List.length_replicate]
          have Hrj := Lib.hid hrj
          obtain ⟨rj, Hrr⟩ : ∃ rj, Hid (row ++ List.replicate j 0 = rj) := ⟨_, Lib.hid rfl⟩
          rw [Hrr.out] at HSj Hrj ⊢
          have hrj2 : rj.length ≤ 1000 := by rw [Hrj.out]; omega
          clear hrj
          by_cases hjn : j < N
          · have djnI : decide ((j : Int) < ((N : Nat) : Int)) = true := decide_eq_true (by omega)
            have hA := HSj.out.sl_made (e := 3) (size := 1) (n := 1) (cap := 1) (cur := #[.int .i64 (0 : Nat)]) (xs := [.int .i64 (0 : Nat)]) (by omega) (by decide) rfl (by simp) (fun j u hu => by simpa using hu)
            have Hsrc := Lib.hid (SlR.src (P := Tryz.prog) hA.sl_read Tryz.underlying45 (by simp [Value.oneCell']))
            have HA2 := Lib.hid (Sat.perm (As := [_, _, _, _, _, _]) hA [4, 1, 2, 3, 5, 0] [_, _, _, _, _, _] rfl (by simp))
            clear hA
            go_wp2_with (at_builtin; refine wpList_append_sat _ rfl _ _ 45 45 rfl 3 i1 (.int .i64 0) 1 8 Tryz.underlying45 hi1 hy0 hy1 hy2 rfl (by decide) rj.length _ _ _ rfl HA2.out 1 _ _ rfl Hsrc.out (by unfold maxLen; omega) (by omega) ?_)
            intro v' w' hS7
            obtain ⟨_, jo2, jap2, rfl, -, -, -, -⟩ := hS7.at_ 0 _ rfl
            have H7 := Lib.hid (Sat.perm (As := [_, _, _, _, _, _]) hS7 [1, 2, 3, 0, 4] [_, _, _, _, _] rfl (by simp))
            clear hS7 HA2 Hsrc
            go_wp2
            go_roundw
            case rel =>
              refine ⟨j + 1, by omega, by go_num, ?_⟩
              rw [List.replicate_succ', ← List.append_assoc, Hrr.out]
              unfold toldL
              rw [natsV_app, show (rj ++ [(0 : Nat)]).length = rj.length + 1 by rw [List.length_append]; rfl]
              exact H7.out
            case measure => simp [intOf]; omega
          · have djnI : decide ((j : Int) < ((N : Nat) : Int)) = false := decide_eq_false (by omega)
            obtain rfl : j = N := by omega
            go_wp2
            go_roundg (gk - 1)
            case measure => have := Hg.out; omega
            case rel => exact ⟨rj, ⟨b4, o, 0, dn, ks⟩, by show b4.length + (if 0 = 0 then 1 else 0) ≤ _; rw [if_pos rfl]; have := Hbn.out.1; omega, by show b4.length ≤ _; have := Hbn.out.2; omega, .inl ⟨rfl, by have := Hnx.out.1; have := Hrj.out; omega, by rw [← Hrr.out]; exact Hnx.out.2.1, by rw [← Hrr.out]; exact Hnx.out.2.2⟩, HKj.out, HSj.out⟩
      · -- EIGHTEEN
        subst hx
        obtain ⟨tm, htm⟩ := Hat.out.more (r := ⟨b, o, 0, dn, ks⟩) hlt HD9.out (by omega) (by omega)
        replace htm : AtMore lim s0 last Fc (L + 257) (D + 1) row 0 7 11 ⟨b3, o, 0, dn, ks⟩ tm := by rw [Hb3.out]; exact htm
        have Htm := Lib.hid htm
        clear htm
        by_cases hk : b3.length < 7
        · have HE := Lib.hid (Htm.out.short (r := ⟨b3, o, 0, dn, ks⟩) hk)
          have Htk : Hid (∀ w1, Sat w1 (toldL p lim Fc T (.slice woo T.length woap) P lb Rs row (.slice vo row.length vap) ⟨b3, o, 0, dn, ks⟩) → Calls Tryz.prog 45 #[.pointer (some ⟨p, 0, none⟩), .int .i64 7] w1 fun e' w' => e' = .returned (.int .i64 0) ∧ Sat w' (toldL p lim Fc T (.slice woo T.length woap) P lb Rs row (.slice vo row.length vap) ⟨b3, o, 2, dn, ks⟩)) := by
            intro w1 h
            have h := take_any h 7 (by omega)
            rw [takeS_s (r := ⟨b3, o, 0, dn, ks⟩) (n := 7) rfl hk, takeV_s (r := ⟨b3, o, 0, dn, ks⟩) (n := 7) rfl hk] at h
            exact h
          have Hff : Hid (∀ w1, Sat w1 (toldL p lim Fc T (.slice woo T.length woap) P lb Rs row (.slice vo row.length vap) ⟨b3, o, 2, dn, ks⟩) → ∀ bb : Bool, True → Calls Tryz.prog 78 #[.pointer (some ⟨p, 0, none⟩), .bool bb, .int .i64 5] w1 fun e' w' => e' = .returned (.tuple #[]) ∧ Sat w' (toldL p lim Fc T (.slice woo T.length woap) P lb Rs row (.slice vo row.length vap) ⟨b3, o, 2, dn, ks⟩)) := by
            intro w1 h bb hbb
            have h := fail_any h bb 5
            rw [failS_e bb 5 (show RunS.e ⟨b3, o, 2, dn, ks⟩ ≠ 0 by show (2 : Nat) ≠ 0; omega)] at h
            exact h
          clear hb3 hbb hk
          go_wp2_with (first
            | (go_at_call 81; refine Hn1.out.mono ?_; rintro e' w6 ⟨rfl, hS6⟩; have q6 := run_e hS6; replace q6 : w6.cell? ⟨p, 4, none⟩ = some (.int .i64 0) := q6; have HS6 := Lib.hid hS6; clear hS6 Hn1)
            | (go_at_call 45; refine (Htk.out _ HS6.out).mono ?_; rintro e' w7 ⟨rfl, hS7⟩; have q7 := run_e hS7; replace q7 : w7.cell? ⟨p, 4, none⟩ = some (.int .i64 2) := q7; have HS7 := Lib.hid hS7; clear hS7 Htk)
            | (go_at_call 78; refine (Hff.out _ HS7.out _ (by trivial)).mono ?_; rintro e' w14 ⟨rfl, hS14⟩; have qf := run_e hS14; replace qf : w14.cell? ⟨p, 4, none⟩ = some (.int .i64 2) := qf; have HSf := Lib.hid hS14; clear hS14 Hff))
          go_loopw [10, 14] (fun v i wz => v = .slice vo row.length vap ∧ i = .int .i64 0 ∧ wz = w14) (fun _ _ _ => 0)
          case atStart => exact ⟨rfl, rfl, rfl⟩
          case round =>
            obtain ⟨rfl, rfl, rfl⟩ := hrel
            go_wp2
            all_goals
              go_roundg (gk - 1)
              case measure => have := Hg.out; omega
              case rel => exact ⟨row, ⟨b3, o, 2, dn, ks⟩, by show b3.length + (if 2 = 0 then 1 else 0) ≤ _; rw [if_neg (by omega)]; have := Hbn.out.1; omega, by have := Hbn.out.2; exact this, .inr ⟨by show (2 : Nat) ≠ 0; omega, HE.out⟩, HKj.out, HSf.out⟩

        have hk3 : 7 ≤ b3.length := by omega
        obtain ⟨y, Hy⟩ : ∃ y, Hid (y = num (b3.take 7)) := ⟨_, Lib.hid rfl⟩
        have hy : y < 128 := by rw [Hy.out]; exact num_take_lt _ _ 7 (by omega)
        obtain ⟨N, HN⟩ : ∃ N, Hid (N = 11 + y) := ⟨_, Lib.hid rfl⟩
        have hNI : (y : Int) + 11 = (N : Int) := by rw [HN.out]; omega
        have hNb : N ≤ 140 := by rw [HN.out]; omega
        obtain ⟨b4, Hb4⟩ : ∃ b4, Hid (b4 = b3.drop 7) := ⟨_, Lib.hid rfl⟩
        have hb4 : b4.length = b3.length - 7 := by rw [Hb4.out, List.length_drop]
        have hb4n : b4.length + 1 ≤ gk - 1 ∧ b4.length ≤ b2.length := by have := Hbn.out; omega
        replace Hbn : Hid (b4.length + 1 ≤ gk - 1 ∧ b4.length ≤ b2.length) := hb4n
        have Htk : Hid (∀ w1, Sat w1 (toldL p lim Fc T (.slice woo T.length woap) P lb Rs row (.slice vo row.length vap) ⟨b3, o, 0, dn, ks⟩) → Calls Tryz.prog 45 #[.pointer (some ⟨p, 0, none⟩), .int .i64 7] w1 fun e' w' => e' = .returned (.int .i64 (y : Nat)) ∧ Sat w' (toldL p lim Fc T (.slice woo T.length woap) P lb Rs row (.slice vo row.length vap) ⟨b4, o, 0, dn, ks⟩)) := by
          intro w1 h
          have h := take_any h 7 (by omega)
          rw [takeS_k (r := ⟨b3, o, 0, dn, ks⟩) (n := 7) rfl hk3, takeV_k (r := ⟨b3, o, 0, dn, ks⟩) (n := 7) rfl hk3] at h
          rw [Hy.out, Hb4.out]
          exact h
        by_cases hov : L + 257 + (D + 1) < row.length + N
        · have HE : Hid (Ends lim s0 last ⟨b4, o, 5, dn, ks⟩) := by
            have h := Htm.out.over (r := ⟨b3, o, 0, dn, ks⟩) hk3 (by show L + 257 + (D + 1) < row.length + (11 + num (b3.take 7)); rw [← Hy.out, ← HN.out]; exact hov)
            rw [Hb4.out]; exact h
          have Hff : Hid (∀ w1, Sat w1 (toldL p lim Fc T (.slice woo T.length woap) P lb Rs row (.slice vo row.length vap) ⟨b4, o, 0, dn, ks⟩) → ∀ bb : Bool, bb = true → Calls Tryz.prog 78 #[.pointer (some ⟨p, 0, none⟩), .bool bb, .int .i64 5] w1 fun e' w' => e' = .returned (.tuple #[]) ∧ Sat w' (toldL p lim Fc T (.slice woo T.length woap) P lb Rs row (.slice vo row.length vap) ⟨b4, o, 5, dn, ks⟩)) := by
            intro w1 h bb hbb
            have h := fail_any h bb 5
            subst hbb; rw [failS_y (r := ⟨b4, o, 0, dn, ks⟩) 5 rfl] at h
            exact h
          clear hb3 hbb hb4 hk hb4n
          go_wp2_with (first
            | (go_at_call 81; refine Hn1.out.mono ?_; rintro e' w6 ⟨rfl, hS6⟩; have q6 := run_e hS6; replace q6 : w6.cell? ⟨p, 4, none⟩ = some (.int .i64 0) := q6; have HS6 := Lib.hid hS6; clear hS6 Hn1)
            | (go_at_call 45; refine (Htk.out _ HS6.out).mono ?_; rintro e' w7 ⟨rfl, hS7⟩; have q7 := run_e hS7; replace q7 : w7.cell? ⟨p, 4, none⟩ = some (.int .i64 0) := q7; have HS7 := Lib.hid hS7; clear hS7 Htk)
            | (go_at_call 78; refine (Hff.out _ HS7.out _ (by first | exact decide_eq_true (by omega) | with_reducible rfl)).mono ?_; rintro e' w14 ⟨rfl, hS14⟩; have qf := run_e hS14; replace qf : w14.cell? ⟨p, 4, none⟩ = some (.int .i64 5) := qf; have HSf := Lib.hid hS14; clear hS14 Hff))
          go_loopw [10, 14] (fun v i wz => v = .slice vo row.length vap ∧ i = .int .i64 0 ∧ wz = w14) (fun _ _ _ => 0)
          case atStart => exact ⟨rfl, rfl, rfl⟩
          case round =>
            obtain ⟨rfl, rfl, rfl⟩ := hrel
            go_wp2
            all_goals
              go_roundg (gk - 1)
              case measure => have := Hg.out; omega
              case rel => exact ⟨row, ⟨b4, o, 5, dn, ks⟩, by show b4.length + (if 5 = 0 then 1 else 0) ≤ _; rw [if_neg (by omega)]; have := Hbn.out.1; omega, by have := Hbn.out.2; exact this, .inr ⟨by show (5 : Nat) ≠ 0; omega, HE.out⟩, HKj.out, HSf.out⟩

        have hnx := Htm.out.lay (r := ⟨b3, o, 0, dn, ks⟩) hk3 (by show ¬ L + 257 + (D + 1) < row.length + (11 + num (b3.take 7)); rw [← Hy.out, ← HN.out]; exact hov)
        have Hnx : Hid (row.length + N ≤ L + 257 + (D + 1) ∧ (∀ z ∈ row ++ List.replicate N 0, z ≤ 15) ∧ ∃ t, AtLens lim s0 last Fc (L + 257) (D + 1) (row ++ List.replicate N 0) ⟨b4, o, 0, dn, ks⟩ t) := ⟨by omega, row_rep Hrx.out (by omega) N, by rw [Hb4.out, HN.out, Hy.out]; exact hnx⟩
        have Hff : Hid (∀ w1, Sat w1 (toldL p lim Fc T (.slice woo T.length woap) P lb Rs row (.slice vo row.length vap) ⟨b4, o, 0, dn, ks⟩) → ∀ bb : Bool, bb = false → Calls Tryz.prog 78 #[.pointer (some ⟨p, 0, none⟩), .bool bb, .int .i64 5] w1 fun e' w' => e' = .returned (.tuple #[]) ∧ Sat w' (toldL p lim Fc T (.slice woo T.length woap) P lb Rs row (.slice vo row.length vap) ⟨b4, o, 0, dn, ks⟩)) := by
          intro w1 h bb hbb
          have h := fail_any h bb 5
          subst hbb; rw [failS_n] at h
          exact h
        clear hnx hb3 hbb hb4 hk hb4n
        go_wp2_with (first
          | (go_at_call 81; refine Hn1.out.mono ?_; rintro e' w6 ⟨rfl, hS6⟩; have q6 := run_e hS6; replace q6 : w6.cell? ⟨p, 4, none⟩ = some (.int .i64 0) := q6; have HS6 := Lib.hid hS6; clear hS6 Hn1)
          | (go_at_call 45; refine (Htk.out _ HS6.out).mono ?_; rintro e' w7 ⟨rfl, hS7⟩; have q7 := run_e hS7; replace q7 : w7.cell? ⟨p, 4, none⟩ = some (.int .i64 0) := q7; have HS7 := Lib.hid hS7; clear hS7 Htk)
          | (go_at_call 78; refine (Hff.out _ HS7.out _ (by first | exact decide_eq_false (by omega) | with_reducible rfl)).mono ?_; rintro e' w14 ⟨rfl, hS14⟩; have qf := run_e hS14; replace qf : w14.cell? ⟨p, 4, none⟩ = some (.int .i64 0) := qf; have HSf := Lib.hid hS14; clear hS14 Hff))
        go_loopw [10, 14] (fun v i wz => ∃ j : Nat, j ≤ N ∧ i = .int .i64 j ∧ Hid (Sat wz (toldL p lim Fc T (.slice woo T.length woap) P lb Rs (row ++ List.replicate j 0) v ⟨b4, o, 0, dn, ks⟩))) (fun _ i _ => N - (intOf i).toNat)
        case atStart => exact ⟨0, by omega, rfl, by rw [List.replicate_zero, List.append_nil]; exact HSf.out⟩
        case round =>
          obtain ⟨j, hj, rfl, HSj⟩ := hrel
          clear HSf qf
          have qj := run_e HSj.out
          replace qj : wr.cell? ⟨p, 4, none⟩ = some (.int .i64 0) := qj
          obtain ⟨_, jo, jap, rfl, -, -, -, -⟩ := HSj.out.at_ 3 _ rfl
          have hrj : (row ++ List.replicate j 0).length = row.length + j := by rw [List.length_append, List.length_replicate]
          have Hrj := Lib.hid hrj
          obtain ⟨rj, Hrr⟩ : ∃ rj, Hid (row ++ List.replicate j 0 = rj) := ⟨_, Lib.hid rfl⟩
          rw [Hrr.out] at HSj Hrj ⊢
          have hrj2 : rj.length ≤ 1000 := by rw [Hrj.out]; omega
          clear hrj
          by_cases hjn : j < N
          · have djnI : decide ((j : Int) < ((N : Nat) : Int)) = true := decide_eq_true (by omega)
            have hA := HSj.out.sl_made (e := 3) (size := 1) (n := 1) (cap := 1) (cur := #[.int .i64 (0 : Nat)]) (xs := [.int .i64 (0 : Nat)]) (by omega) (by decide) rfl (by simp) (fun j u hu => by simpa using hu)
            have Hsrc := Lib.hid (SlR.src (P := Tryz.prog) hA.sl_read Tryz.underlying45 (by simp [Value.oneCell']))
            have HA2 := Lib.hid (Sat.perm (As := [_, _, _, _, _, _]) hA [4, 1, 2, 3, 5, 0] [_, _, _, _, _, _] rfl (by simp))
            clear hA
            go_wp2_with (at_builtin; refine wpList_append_sat _ rfl _ _ 45 45 rfl 3 i1 (.int .i64 0) 1 8 Tryz.underlying45 hi1 hy0 hy1 hy2 rfl (by decide) rj.length _ _ _ rfl HA2.out 1 _ _ rfl Hsrc.out (by unfold maxLen; omega) (by omega) ?_)
            intro v' w' hS7
            obtain ⟨_, jo2, jap2, rfl, -, -, -, -⟩ := hS7.at_ 0 _ rfl
            have H7 := Lib.hid (Sat.perm (As := [_, _, _, _, _, _]) hS7 [1, 2, 3, 0, 4] [_, _, _, _, _] rfl (by simp))
            clear hS7 HA2 Hsrc
            go_wp2
            go_roundw
            case rel =>
              refine ⟨j + 1, by omega, by go_num, ?_⟩
              rw [List.replicate_succ', ← List.append_assoc, Hrr.out]
              unfold toldL
              rw [natsV_app, show (rj ++ [(0 : Nat)]).length = rj.length + 1 by rw [List.length_append]; rfl]
              exact H7.out
            case measure => simp [intOf]; omega
          · have djnI : decide ((j : Int) < ((N : Nat) : Int)) = false := decide_eq_false (by omega)
            obtain rfl : j = N := by omega
            go_wp2
            go_roundg (gk - 1)
            case measure => have := Hg.out; omega
            case rel => exact ⟨rj, ⟨b4, o, 0, dn, ks⟩, by show b4.length + (if 0 = 0 then 1 else 0) ≤ _; rw [if_pos rfl]; have := Hbn.out.1; omega, by show b4.length ≤ _; have := Hbn.out.2; omega, .inl ⟨rfl, by have := Hnx.out.1; have := Hrj.out; omega, by rw [← Hrr.out]; exact Hnx.out.2.1, by rw [← Hrr.out]; exact Hnx.out.2.2⟩, HKj.out, HSj.out⟩

end Go.Proofs.YtdpocnkeokplpaaGreat
