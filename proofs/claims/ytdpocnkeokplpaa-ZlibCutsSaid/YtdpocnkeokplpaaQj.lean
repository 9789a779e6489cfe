/- inflate.Decoder: fixed. inflate.Decoder: lay, length. inflate.Decoder: length. -/
import Derived.Test.YtdpocnkeokplpaaQi
import Derived.Deep.LoopGhost
namespace Go.Proofs.Ytdpocnkeokplpaa
open Go.RowKit Go.Hal
set_option linter.unusedVariables false
set_option linter.unusedSimpArgs false

theorem Try.zero288 : Try.zeroCells128 = Array.replicate 288 (Value.int .i64 0) := by kernel_rfl
theorem blk_ints {w : World} {b cap : Nat} {C : Array Value} {e : TypeId} {fr : Nat × Nat} {Rs : List Res} (hS : Sat w (blk b (.cells C e fr) :: Rs)) (L : List Nat) (hl : L.length ≤ cap) (hc : cap ≤ maxLen)
    (h : ∀ j x : Nat, L[j]? = some x → C[j]? = some (Value.int .i64 (x : Nat))) : IntsR w (.slice (some ⟨b, 0, none⟩) L.length cap) (natsV L) := by
  have hb := hS.heap
  have hn : (natsV L).length = L.length := by unfold natsV; simp
  unfold IntsR
  rw [hn]
  refine ⟨_, cap, rfl, hl, hc, by simp [hn], fun _ => ⟨b, 0, rfl, (Array.getElem?_eq_some_iff.1 hb).1, fun j u hu => ?_⟩⟩
  rw [Nat.zero_add, cell_of_row w b j _ _ _ hb]
  unfold natsV at hu
  rw [List.getElem?_map, List.getElem?_map] at hu
  cases hx : L[j]? with
  | none => rw [hx] at hu; cases hu
  | some x => rw [hx] at hu; cases hu; exact h j x hx
theorem fixL_at : ∀ k, k < 288 → fixL[k]? = some (if k < 144 then 8 else if k < 256 then 9 else if k < 280 then 7 else 8) := by decide +kernel
theorem fixL_length : fixL.length = 288 := by decide +kernel
def Fx (k : Nat) (C : Array Value) : Prop := ∀ j, j < 288 → C[j]? = some (.int .i64 (if j < k then ((fixL[j]?).getD 0 : Nat) else 0 : Nat))
theorem Fx.put {k : Nat} {C : Array Value} (h : Fx k C) (hk : k < 288) (x : Nat) (hx : fixL[k]? = some x) : Fx (k + 1) (C.setIfInBounds k (.int .i64 (x : Nat))) := by
  intro j hj
  by_cases hjk : k = j
  · subst hjk
    rw [Array.getElem?_setIfInBounds_self_of_lt ((Array.getElem?_eq_some_iff.1 (h k hk)).1), if_pos (by omega), hx]
    rfl
  · rw [Array.getElem?_setIfInBounds_ne hjk, h j hj]
    by_cases h1 : j < k
    · rw [if_pos h1, if_pos (by omega)]
    · rw [if_neg h1, if_neg (by omega)]
def Fy (k : Nat) (C : Array Value) : Prop := ∀ j, j < 288 → C[j]? = some (.int .i64 (if j < k then 5 else ((fixL[j]?).getD 0 : Nat) : Nat))
theorem Fy.put {k : Nat} {C : Array Value} (h : Fy k C) (hk : k < 288) : Fy (k + 1) (C.setIfInBounds k (.int .i64 5)) := by
  intro j hj
  by_cases hjk : k = j
  · subst hjk
    rw [Array.getElem?_setIfInBounds_self_of_lt ((Array.getElem?_eq_some_iff.1 (h k hk)).1), if_pos (by omega)]
    rfl
  · rw [Array.getElem?_setIfInBounds_ne hjk, h j hj]
    by_cases h1 : j < k
    · rw [if_pos h1, if_pos (by omega)]
    · rw [if_neg h1, if_neg (by omega)]

set_option maxRecDepth 100000 in
set_option maxHeartbeats 2000000 in
theorem fixed_d {w : World} {d total e : Nat} {limit : Int} {s : DS} {c : DC} {Rs : List Res} (hS : Sat w (decR d (headV s c) c.win (footV total limit c.ov c.rv e) :: Rs)) :
    Calls Try.prog 49 #[.pointer (some ⟨d, 0, none⟩)] w fun e' w' => e' = .returned (.tuple #[]) ∧ ∃ a b,
      Sat w' (decR d (headV { s with lit := some fixL, way := some fixD } { c with lv := .pointer (some ⟨a, 0, none⟩), wv := .pointer (some ⟨b, 0, none⟩) }) c.win (footV total limit c.ov c.rv e) :: code a fixL :: code b fixD :: Rs) := by
  have h0 := hS.alloc (.cells Try.zeroCells128 128)
  have hF0 : Fx 0 Try.zeroCells128 := by
    rw [Try.zero288]
    intro j hj
    rw [Array.getElem?_replicate, if_pos hj, if_neg (by omega)]
    rfl
  clear hS
  go_enter Try.func49, Try.ntmps49
  go_wp2
  generalize w.alloc (Obj.cells Try.zeroCells128 128) = W at h0 ⊢
  generalize w.heap.size = fb at h0 ⊢
  generalize Try.zeroCells128 = Z at h0 hF0
  go_loopg [5] 288 (fun g z wr => ∃ (k : Nat) (C : Array Value), g + k = 288 ∧ z = .int .i64 (k : Nat) ∧ Hid (Fx k C) ∧ Sat wr (blk fb (.cells C 128 (0, 0)) :: decR d (headV s c) c.win (footV total limit c.ov c.rv e) :: Rs))
  case atStart => exact ⟨0, _, by omega, rfl, Lib.hid hF0, h0⟩
  case round =>
    obtain ⟨k, C, hg, rfl, HF, hS1⟩ := hrel
    have hfr := frozen_of_row wr fb k _ _ hS1.heap
    have hcl : wr.cell? ⟨fb, k, none⟩ = C[k]? := cell_of_row wr fb k _ _ _ hS1.heap
    by_cases hk : k < 288
    · rw [HF.out k hk] at hcl
      have hx := fixL_at k hk
      have hd : decide ((k : Int) < 288) = true := decide_eq_true (by omega)
      have hi : k < 288 := hk
      by_cases h1 : k < 144
      · rw [if_pos h1] at hx
        have d1 : decide ((k : Int) < 144) = true := decide_eq_true (by omega)
        have Hx := Lib.hid hx
        have Hk := Lib.hid hk
        clear hx hk
        go_wp2
        go_roundg (gk - 1)
        case measure => have := Hk.out; omega
        case rel => exact ⟨k + 1, _, by have := Hk.out; omega, by rw [Int.natCast_add]; rfl, Lib.hid (HF.out.put Hk.out 8 Hx.out), hS1.setCell _⟩
      · rw [if_neg h1] at hx
        have d1 : decide ((k : Int) < 144) = false := decide_eq_false (by omega)
        by_cases h2 : k < 256
        · rw [if_pos h2] at hx
          have d2 : decide ((k : Int) < 256) = true := decide_eq_true (by omega)
          have d3 : decide ((280 : Int) ≤ k) = false := decide_eq_false (by omega)
          have Hx := Lib.hid hx
          have Hk := Lib.hid hk
          clear hx hk
          go_wp2
          go_roundg (gk - 1)
          case measure => have := Hk.out; omega
          case rel => exact ⟨k + 1, _, by have := Hk.out; omega, by rw [Int.natCast_add]; rfl, Lib.hid (HF.out.put Hk.out 9 Hx.out), hS1.setCell _⟩
        · rw [if_neg h2] at hx
          have d2 : decide ((k : Int) < 256) = false := decide_eq_false (by omega)
          by_cases h3 : k < 280
          · rw [if_pos h3] at hx
            have d3 : decide ((280 : Int) ≤ k) = false := decide_eq_false (by omega)
            have Hx := Lib.hid hx
            have Hk := Lib.hid hk
            clear hx hk
            go_wp2
            go_roundg (gk - 1)
            case measure => have := Hk.out; omega
            case rel => exact ⟨k + 1, _, by have := Hk.out; omega, by rw [Int.natCast_add]; rfl, Lib.hid (HF.out.put Hk.out 7 Hx.out), hS1.setCell _⟩
          · rw [if_neg h3] at hx
            have d3 : decide ((280 : Int) ≤ k) = true := decide_eq_true (by omega)
            have Hx := Lib.hid hx
            have Hk := Lib.hid hk
            clear hx hk
            go_wp2
            go_roundg (gk - 1)
            case measure => have := Hk.out; omega
            case rel => exact ⟨k + 1, _, by have := Hk.out; omega, by rw [Int.natCast_add]; rfl, Lib.hid (HF.out.put Hk.out 8 Hx.out), hS1.setCell _⟩
    · obtain rfl : k = 288 := by omega
      clear hcl hfr hk
      have hfx : ∀ j x : Nat, fixL[j]? = some x → C[j]? = some (Value.int .i64 (x : Nat)) := by
        intro j x hj
        have hlt : j < 288 := by have := (List.getElem?_eq_some_iff.1 hj).1; rw [fixL_length] at this; exact this
        rw [HF.out j hlt, if_pos hlt, hj]; rfl
      have hc1 := code_d hS1.swap (.slice (some ⟨fb, 0, none⟩) 288 288) fixL 256 (some 256) (fun w' h' => by have := blk_ints h' fixL (by rw [fixL_length]; omega) (by decide : (288 : Nat) ≤ maxLen) hfx; rwa [fixL_length] at this) (.inr ⟨256, rfl, rfl, by rw [fixL_length]; omega⟩)
      have Hc1 := Lib.hid hc1
      have HF2 : Hid (Fy 0 C) := by
        unfold Hid
        intro j hj
        rw [HF.out j hj, if_pos hj, if_neg (by omega)]
      clear hc1 hfx HF
      go_wp2_with (go_at_call 87; refine Hc1.out.mono ?_; rintro e' w2 (⟨-, a, rfl, -, -, hS2⟩ | ⟨h, -, -⟩); rotate_left; exact absurd (fix_lit.symm.trans h) (by decide); have f11 : w2.frozen? ⟨d, 11, none⟩ = false := (dec_h hS2 11 _ rfl).2; have q11 : w2.cell? ⟨d, 11, none⟩ = some c.lv := (dec_h hS2 11 _ rfl).1; have hS3 := dec_set_h hS2 11 (by omega) (.pointer (some ⟨a, 0, none⟩)); have hS4 := Sat.perm (As := [_, _, _]) hS3 [2, 0, 1] [_, _, _] rfl (by simp); clear hS2 hS3)
      have hS5 : Sat (w2.setCell ⟨d, 11, none⟩ (.pointer (some ⟨a, 0, none⟩))) (blk fb (.cells C 128 (0, 0)) :: decR d (headV { s with lit := some fixL } { c with lv := .pointer (some ⟨a, 0, none⟩) }) c.win (footV total limit c.ov c.rv e) :: code a fixL :: Rs) := hS4
      clear hS4 hS1 Hc1 f11 q11
      generalize w2.setCell ⟨d, 11, none⟩ (.pointer (some ⟨a, 0, none⟩)) = W2 at hS5 ⊢
      go_loopg [31] 32 (fun g z wr => ∃ (k : Nat) (C : Array Value), g + k = 32 ∧ z = .int .i64 (k : Nat) ∧ Hid (Fy k C) ∧ Sat wr (blk fb (.cells C 128 (0, 0)) :: decR d (headV { s with lit := some fixL } { c with lv := .pointer (some ⟨a, 0, none⟩) }) c.win (footV total limit c.ov c.rv e) :: code a fixL :: Rs))
      case atStart => exact ⟨0, _, by omega, rfl, HF2, hS5⟩
      case round =>
        obtain ⟨k, C, hg2, rfl, HF, hS6⟩ := hrel
        have hfr := frozen_of_row wr fb k _ _ hS6.heap
        have hcl : wr.cell? ⟨fb, k, none⟩ = C[k]? := cell_of_row wr fb k _ _ _ hS6.heap
        by_cases hk : k < 32
        · rw [HF.out k (by omega)] at hcl
          have hd : decide ((k : Int) < 32) = true := decide_eq_true (by omega)
          have hd2 : decide ((k : Int) < 288) = true := decide_eq_true (by omega)
          have hd3 : decide (k < 288) = true := decide_eq_true (by omega)
          have Hk := Lib.hid hk
          clear hk
          go_wp2
          go_roundg (gk - 1)
          case measure => have := Hk.out; omega
          case rel => exact ⟨k + 1, _, by have := Hk.out; omega, by rw [Int.natCast_add]; rfl, Lib.hid (HF.out.put (by have := Hk.out; omega)), hS6.setCell _⟩
        · obtain rfl : k = 32 := by omega
          clear hcl hfr hk
          have hfx : ∀ j x : Nat, fixD[j]? = some x → C[j]? = some (Value.int .i64 (x : Nat)) := by
            intro j x hj
            have hlt : j < 32 := by have := (List.getElem?_eq_some_iff.1 hj).1; simpa [fixD] using this
            have h5 : x = 5 := by unfold fixD at hj; rw [List.getElem?_replicate, if_pos hlt] at hj; cases hj; rfl
            rw [HF.out j (by omega), if_pos hlt, h5]
          have hc1 := code_d (hS6.swap) (.slice (some ⟨fb, 0, none⟩) 32 288) fixD (-1) none (fun w' h' => blk_ints h' fixD (by decide) (by decide : (288 : Nat) ≤ maxLen) hfx) (.inl ⟨rfl, rfl⟩)
          have Hc1 := Lib.hid hc1
          clear hc1 hfx HF
          go_wp2_with (go_at_call 87; refine Hc1.out.mono ?_; rintro e' w3 (⟨-, b, rfl, -, -, hS7⟩ | ⟨h, -, -⟩); rotate_left; exact absurd (fix_way.symm.trans h) (by decide); have f12 : w3.frozen? ⟨d, 12, none⟩ = false := (dec_h hS7 12 _ rfl).2; have q12 : w3.cell? ⟨d, 12, none⟩ = some c.wv := (dec_h hS7 12 _ rfl).1; have hS8 := dec_set_h hS7 12 (by omega) (.pointer (some ⟨b, 0, none⟩)); have hS9 := Sat.perm (As := [_, _, _, _]) hS8 [0, 3, 1] [_, _, _] rfl (by simp); clear hS7 hS8)
          go_end0
          exact ⟨rfl, a, b, hS9⟩

end Go.Proofs.Ytdpocnkeokplpaa

namespace Go.Proofs.Ytdpocnkeokplpaa
open Go.RowKit Go.Hal
set_option linter.unusedVariables false
set_option linter.unusedSimpArgs false

set_option maxRecDepth 100000 in
set_option maxHeartbeats 2000000 in
theorem lay_no {w : World} {d total e : Nat} {limit : Int} {s : DS} {c : DC} {Rs : List Res} (hS : Sat w (decR d (headV s c) c.win (footV total limit c.ov c.rv e) :: sl 3 1 s.row.length c.rowv ((natsV s.row).map intV) :: Rs)) (v : Int) (n : Nat)
    (h : s.lits + s.dists < s.row.length + n) (hn : n ≤ 100000) (hl : s.lits ≤ 286) (hl2 : s.dists ≤ 30) (hr : s.row.length ≤ 316) :
    Calls Try.prog 88 #[.pointer (some ⟨d, 0, none⟩), .int .i64 v, .int .i64 n] w fun e' w' => e' = .returned (.tuple #[]) ∧ Sat w' (decR d (headV s c) c.win (footV total limit c.ov c.rv 5) :: Rs) := by
  have q9 : w.cell? ⟨d, 9, none⟩ = some c.rowv := (dec_h hS 9 _ rfl).1
  have q7 : w.cell? ⟨d, 7, none⟩ = some (.int .i64 s.lits) := (dec_h hS 7 _ rfl).1
  have q8 : w.cell? ⟨d, 8, none⟩ = some (.int .i64 s.dists) := (dec_h hS 8 _ rfl).1
  have f4 : w.frozen? ⟨d, 32785, none⟩ = false := (dec_t hS 4 _ rfl).2
  have q4 : w.cell? ⟨d, 32785, none⟩ = some (.int .i64 e) := (dec_t hS 4 _ rfl).1
  obtain ⟨F, ao, cap, hv, -, -, -, -⟩ := hS.at_ 1 _ rfl
  rw [hv] at q9
  have hd : decide ((s.lits : Int) + s.dists < (s.row.length : Int) + n) = true := decide_eq_true (by omega)
  have hSd := fun k => dec_set_t ((Sat.perm (As := [_, _]) hS [0] [_] rfl (by simp)).drewN k) 4 (by omega) (.int .i64 5)
  have HS := Lib.hid hSd
  clear hSd hS hv
  go_enter Try.func88, Try.ntmps88
  go_wp2
  go_region
  go_wp2
  ((try simp only [Exit.inBlock, Exit.then]); refine bodyPost_ret (results_none rfl _ _ _) rfl ?_)
  exact ⟨rfl, HS.out _⟩

set_option maxRecDepth 100000 in
set_option maxHeartbeats 2000000 in
theorem lay_yes {w : World} {d total e : Nat} {limit : Int} {s : DS} {c : DC} {Rs : List Res} (hS : Sat w (decR d (headV s c) c.win (footV total limit c.ov c.rv e) :: sl 3 1 s.row.length c.rowv ((natsV s.row).map intV) :: Rs)) (v : Nat) (n : Nat)
    (h : ¬ s.lits + s.dists < s.row.length + n) (hl : s.lits ≤ 286) (hl2 : s.dists ≤ 30) :
    Calls Try.prog 88 #[.pointer (some ⟨d, 0, none⟩), .int .i64 v, .int .i64 n] w fun e' w' => e' = .returned (.tuple #[]) ∧ ∃ rv', Sat w' (decR d (headV { s with row := s.row ++ List.replicate n v, st := 5 } { c with rowv := rv' }) c.win (footV total limit c.ov c.rv e) ::
      sl 3 1 (s.row ++ List.replicate n v).length rv' ((natsV (s.row ++ List.replicate n v)).map intV) :: Rs) := by
  have q9 : w.cell? ⟨d, 9, none⟩ = some c.rowv := (dec_h hS 9 _ rfl).1
  have q7 : w.cell? ⟨d, 7, none⟩ = some (.int .i64 s.lits) := (dec_h hS 7 _ rfl).1
  have q8 : w.cell? ⟨d, 8, none⟩ = some (.int .i64 s.dists) := (dec_h hS 8 _ rfl).1
  obtain ⟨F, ao, cap, hv, -, -, -, -⟩ := hS.at_ 1 _ rfl
  rw [hv] at q9
  have hd : decide ((s.lits : Int) + s.dists < (s.row.length : Int) + n) = false := decide_eq_false (by omega)
  have HSq := hS.drew
  have hlen : s.row.length + n ≤ 316 := by omega
  have hr1 : s.row.length ≤ 316 := by omega
  have hn1 : n ≤ 316 := by omega
  have Hlen := Lib.hid hlen
  clear hS hv h hlen
  go_enter Try.func88, Try.ntmps88
  go_wp2
  go_region
  go_wp2
  generalize w.drew = W at HSq ⊢
  clear q9 q7 q8 hd
  go_loopg [27] n (fun g z wr => ∃ (k : Nat) (rv' : Value), g + k = n ∧ z = .int .i64 (k : Nat) ∧ Sat wr (decR d (headV { s with row := s.row ++ List.replicate k v } { c with rowv := rv' }) c.win (footV total limit c.ov c.rv e) ::
      sl 3 1 (s.row ++ List.replicate k v).length rv' ((natsV (s.row ++ List.replicate k v)).map intV) :: Rs))
  case atStart => exact ⟨0, c.rowv, by omega, rfl, by rw [List.replicate_zero, List.append_nil]; exact HSq⟩
  case round =>
    obtain ⟨k, rv', hg, rfl, hS1⟩ := hrel
    have q1 : wr.cell? ⟨d, 1, none⟩ = some (.int .i64 s.st) := (dec_h hS1 1 _ rfl).1
    have f1 : wr.frozen? ⟨d, 1, none⟩ = false := (dec_h hS1 1 _ rfl).2
    have q9 : wr.cell? ⟨d, 9, none⟩ = some rv' := (dec_h hS1 9 _ rfl).1
    obtain ⟨F2, ao2, cap2, rfl, -, -, -, -⟩ := hS1.at_ 1 _ rfl
    by_cases hk : k < n
    · have hd : decide ((k : Int) < n) = true := decide_eq_true (by omega)
      obtain ⟨m, Hm⟩ : ∃ m, Hid ((s.row ++ List.replicate k v).length = m) := ⟨_, Lib.hid rfl⟩
      have hS2 := hS1
      rw [Hm.out] at hS2 q9
      have hm : m ≤ 316 := by rw [← Hm.out, List.length_append, List.length_replicate]; have := Hlen.out; omega
      have hA := hS2.sl_made (e := 3) (size := 1) (n := 1) (cap := 1) (cur := #[.int .i64 v]) (xs := [.int .i64 v]) (by omega) (by decide) rfl (by simp) (fun j u hu => by simpa using hu)
      have hsrc := SlR.src (P := Try.prog) hA.sl_read Try.underlying28 (by simp [Value.oneCell'])
      have hA2 := Sat.perm (As := [_, _, _]) hA [2, 1] [_, _] rfl (by simp)
      have Hsrc := Lib.hid hsrc
      have Hk := Lib.hid hk
      obtain ⟨i0, hi, hz0, hz1, hz2⟩ := info_parts Try.infoInt
      clear hsrc hA hS2 hS1 hk
      go_wp2_with (at_builtin; refine wpList_append_sat _ rfl _ _ 28 28 rfl 3 i0 (.int .i64 0) 1 8 Try.underlying28 hi hz0 hz1 hz2 rfl (by decide) _ _ _ _ rfl hA2 1 _ _ rfl Hsrc.out ?_ ?_ ?_)
      · unfold maxLen; omega
      · omega
      · intro v' w' hS7
        have HS8 := hS7.swap
        have t2 : w'.cell? ⟨d, 9, none⟩ = some (.slice ao2 m cap2) := (dec_h HS8 9 _ (by rw [← Hm.out]; rfl)).1
        have t3 : w'.frozen? ⟨d, 9, none⟩ = false := (dec_h HS8 9 _ (by rw [← Hm.out]; rfl)).2
        have HS9 := dec_set_h HS8 9 (by omega) v'
        obtain ⟨F9, ao9, cap9, rfl, -, -, -, -⟩ := HS9.at_ 1 _ rfl
        have H9 := Lib.hid HS9
        clear HS8 HS9 hS7
        go_wp2
        go_roundg (gk - 1)
        case measure => have := Hk.out; omega
        case rel =>
          refine ⟨k + 1, .slice ao9 (m + 1) cap9, by have := Hk.out; omega, by rw [Int.natCast_add]; rfl, ?_⟩
          have e1 : s.row ++ List.replicate (k + 1) v = (s.row ++ List.replicate k v) ++ [v] := by rw [List.replicate_succ', List.append_assoc]
          rw [e1, List.length_append, List.length_singleton, Hm.out, show natsV ((s.row ++ List.replicate k v) ++ [v]) = natsV (s.row ++ List.replicate k v) ++ [(v : Int)] by unfold natsV; simp, List.map_append]
          exact H9.out
    · obtain rfl : k = n := by omega
      have H1 := Lib.hid (dec_set_h hS1 1 (by omega) (.int .i64 5))
      clear hk hS1
      go_wp2
      go_end0
      exact ⟨rfl, _, H1.out⟩

end Go.Proofs.Ytdpocnkeokplpaa

namespace Go.Proofs.Ytdpocnkeokplpaa
open Go.RowKit Go.Hal
set_option linter.unusedVariables false
set_option linter.unusedSimpArgs false

set_option maxRecDepth 100000 in
set_option maxHeartbeats 1000000 in
theorem len_8 {w : World} {d total e : Nat} {limit : Int} {s : DS} {c : DC} {Rs : List Res} (hS : Sat w (decR d (headV s c) c.win (footV total limit c.ov c.rv e) :: Rs)) :
    Calls Try.prog 56 #[.pointer (some ⟨d, 0, none⟩), .int .i64 (8 : Nat)] w fun e' w' => e' = .returned (.tuple #[]) ∧
      Sat w' (decR d (headV { s with extra := (lenE 8).1, base := (lenE 8).2, st := 8 } c) c.win (footV total limit c.ov c.rv e) :: Rs) := by
  have q1 : w.cell? ⟨d, 1, none⟩ = some (.int .i64 s.st) := (dec_h hS 1 _ rfl).1
  have f1 : w.frozen? ⟨d, 1, none⟩ = false := (dec_h hS 1 _ rfl).2
  have q5 : w.cell? ⟨d, 5, none⟩ = some (.int .i64 s.extra) := (dec_h hS 5 _ rfl).1
  have f5 : w.frozen? ⟨d, 5, none⟩ = false := (dec_h hS 5 _ rfl).2
  have q6 : w.cell? ⟨d, 6, none⟩ = some (.int .i64 s.base) := (dec_h hS 6 _ rfl).1
  have f6 : w.frozen? ⟨d, 6, none⟩ = false := (dec_h hS 6 _ rfl).2
  have H := Lib.hid (dec_set_h (dec_set_h (dec_set_h (dec_set_h (dec_set_h hS 5 (by omega) (.int .i64 0)) 6 (by omega) (.int .i64 11)) 1 (by omega) (.int .i64 8)) 5 (by omega) (.int .i64 1)) 6 (by omega) (.int .i64 11))
  clear hS
  go_enter Try.func56, Try.ntmps56
  go_wp2
  go_end0
  rw [show lenE 8 = (1, 11) from by decide, show wrap64 (wrap64 (bits BinOp.or IntKind.i64 4 (bits BinOp.and IntKind.i64 8 3) * 2) + 3) = 11 from by decide +kernel]
  exact ⟨rfl, H.out⟩

set_option maxRecDepth 100000 in
set_option maxHeartbeats 1000000 in
theorem len_9 {w : World} {d total e : Nat} {limit : Int} {s : DS} {c : DC} {Rs : List Res} (hS : Sat w (decR d (headV s c) c.win (footV total limit c.ov c.rv e) :: Rs)) :
    Calls Try.prog 56 #[.pointer (some ⟨d, 0, none⟩), .int .i64 (9 : Nat)] w fun e' w' => e' = .returned (.tuple #[]) ∧
      Sat w' (decR d (headV { s with extra := (lenE 9).1, base := (lenE 9).2, st := 8 } c) c.win (footV total limit c.ov c.rv e) :: Rs) := by
  have q1 : w.cell? ⟨d, 1, none⟩ = some (.int .i64 s.st) := (dec_h hS 1 _ rfl).1
  have f1 : w.frozen? ⟨d, 1, none⟩ = false := (dec_h hS 1 _ rfl).2
  have q5 : w.cell? ⟨d, 5, none⟩ = some (.int .i64 s.extra) := (dec_h hS 5 _ rfl).1
  have f5 : w.frozen? ⟨d, 5, none⟩ = false := (dec_h hS 5 _ rfl).2
  have q6 : w.cell? ⟨d, 6, none⟩ = some (.int .i64 s.base) := (dec_h hS 6 _ rfl).1
  have f6 : w.frozen? ⟨d, 6, none⟩ = false := (dec_h hS 6 _ rfl).2
  have H := Lib.hid (dec_set_h (dec_set_h (dec_set_h (dec_set_h (dec_set_h hS 5 (by omega) (.int .i64 0)) 6 (by omega) (.int .i64 12)) 1 (by omega) (.int .i64 8)) 5 (by omega) (.int .i64 1)) 6 (by omega) (.int .i64 13))
  clear hS
  go_enter Try.func56, Try.ntmps56
  go_wp2
  go_end0
  rw [show lenE 9 = (1, 13) from by decide, show wrap64 (wrap64 (bits BinOp.or IntKind.i64 4 (bits BinOp.and IntKind.i64 9 3) * 2) + 3) = 13 from by decide +kernel]
  exact ⟨rfl, H.out⟩

set_option maxRecDepth 100000 in
set_option maxHeartbeats 1000000 in
theorem len_10 {w : World} {d total e : Nat} {limit : Int} {s : DS} {c : DC} {Rs : List Res} (hS : Sat w (decR d (headV s c) c.win (footV total limit c.ov c.rv e) :: Rs)) :
    Calls Try.prog 56 #[.pointer (some ⟨d, 0, none⟩), .int .i64 (10 : Nat)] w fun e' w' => e' = .returned (.tuple #[]) ∧
      Sat w' (decR d (headV { s with extra := (lenE 10).1, base := (lenE 10).2, st := 8 } c) c.win (footV total limit c.ov c.rv e) :: Rs) := by
  have q1 : w.cell? ⟨d, 1, none⟩ = some (.int .i64 s.st) := (dec_h hS 1 _ rfl).1
  have f1 : w.frozen? ⟨d, 1, none⟩ = false := (dec_h hS 1 _ rfl).2
  have q5 : w.cell? ⟨d, 5, none⟩ = some (.int .i64 s.extra) := (dec_h hS 5 _ rfl).1
  have f5 : w.frozen? ⟨d, 5, none⟩ = false := (dec_h hS 5 _ rfl).2
  have q6 : w.cell? ⟨d, 6, none⟩ = some (.int .i64 s.base) := (dec_h hS 6 _ rfl).1
  have f6 : w.frozen? ⟨d, 6, none⟩ = false := (dec_h hS 6 _ rfl).2
  have H := Lib.hid (dec_set_h (dec_set_h (dec_set_h (dec_set_h (dec_set_h hS 5 (by omega) (.int .i64 0)) 6 (by omega) (.int .i64 13)) 1 (by omega) (.int .i64 8)) 5 (by omega) (.int .i64 1)) 6 (by omega) (.int .i64 15))
  clear hS
  go_enter Try.func56, Try.ntmps56
  go_wp2
  go_end0
  rw [show lenE 10 = (1, 15) from by decide, show wrap64 (wrap64 (bits BinOp.or IntKind.i64 4 (bits BinOp.and IntKind.i64 10 3) * 2) + 3) = 15 from by decide +kernel]
  exact ⟨rfl, H.out⟩

set_option maxRecDepth 100000 in
set_option maxHeartbeats 1000000 in
theorem len_11 {w : World} {d total e : Nat} {limit : Int} {s : DS} {c : DC} {Rs : List Res} (hS : Sat w (decR d (headV s c) c.win (footV total limit c.ov c.rv e) :: Rs)) :
    Calls Try.prog 56 #[.pointer (some ⟨d, 0, none⟩), .int .i64 (11 : Nat)] w fun e' w' => e' = .returned (.tuple #[]) ∧
      Sat w' (decR d (headV { s with extra := (lenE 11).1, base := (lenE 11).2, st := 8 } c) c.win (footV total limit c.ov c.rv e) :: Rs) := by
  have q1 : w.cell? ⟨d, 1, none⟩ = some (.int .i64 s.st) := (dec_h hS 1 _ rfl).1
  have f1 : w.frozen? ⟨d, 1, none⟩ = false := (dec_h hS 1 _ rfl).2
  have q5 : w.cell? ⟨d, 5, none⟩ = some (.int .i64 s.extra) := (dec_h hS 5 _ rfl).1
  have f5 : w.frozen? ⟨d, 5, none⟩ = false := (dec_h hS 5 _ rfl).2
  have q6 : w.cell? ⟨d, 6, none⟩ = some (.int .i64 s.base) := (dec_h hS 6 _ rfl).1
  have f6 : w.frozen? ⟨d, 6, none⟩ = false := (dec_h hS 6 _ rfl).2
  have H := Lib.hid (dec_set_h (dec_set_h (dec_set_h (dec_set_h (dec_set_h hS 5 (by omega) (.int .i64 0)) 6 (by omega) (.int .i64 14)) 1 (by omega) (.int .i64 8)) 5 (by omega) (.int .i64 1)) 6 (by omega) (.int .i64 17))
  clear hS
  go_enter Try.func56, Try.ntmps56
  go_wp2
  go_end0
  rw [show lenE 11 = (1, 17) from by decide, show wrap64 (wrap64 (bits BinOp.or IntKind.i64 4 (bits BinOp.and IntKind.i64 11 3) * 2) + 3) = 17 from by decide +kernel]
  exact ⟨rfl, H.out⟩

set_option maxRecDepth 100000 in
set_option maxHeartbeats 1000000 in
theorem len_12 {w : World} {d total e : Nat} {limit : Int} {s : DS} {c : DC} {Rs : List Res} (hS : Sat w (decR d (headV s c) c.win (footV total limit c.ov c.rv e) :: Rs)) :
    Calls Try.prog 56 #[.pointer (some ⟨d, 0, none⟩), .int .i64 (12 : Nat)] w fun e' w' => e' = .returned (.tuple #[]) ∧
      Sat w' (decR d (headV { s with extra := (lenE 12).1, base := (lenE 12).2, st := 8 } c) c.win (footV total limit c.ov c.rv e) :: Rs) := by
  have q1 : w.cell? ⟨d, 1, none⟩ = some (.int .i64 s.st) := (dec_h hS 1 _ rfl).1
  have f1 : w.frozen? ⟨d, 1, none⟩ = false := (dec_h hS 1 _ rfl).2
  have q5 : w.cell? ⟨d, 5, none⟩ = some (.int .i64 s.extra) := (dec_h hS 5 _ rfl).1
  have f5 : w.frozen? ⟨d, 5, none⟩ = false := (dec_h hS 5 _ rfl).2
  have q6 : w.cell? ⟨d, 6, none⟩ = some (.int .i64 s.base) := (dec_h hS 6 _ rfl).1
  have f6 : w.frozen? ⟨d, 6, none⟩ = false := (dec_h hS 6 _ rfl).2
  have H := Lib.hid (dec_set_h (dec_set_h (dec_set_h (dec_set_h (dec_set_h hS 5 (by omega) (.int .i64 0)) 6 (by omega) (.int .i64 15)) 1 (by omega) (.int .i64 8)) 5 (by omega) (.int .i64 2)) 6 (by omega) (.int .i64 19))
  clear hS
  go_enter Try.func56, Try.ntmps56
  go_wp2
  go_end0
  rw [show lenE 12 = (2, 19) from by decide, show wrap64 (wrap64 (bits BinOp.or IntKind.i64 4 (bits BinOp.and IntKind.i64 12 3) * 4) + 3) = 19 from by decide +kernel]
  exact ⟨rfl, H.out⟩

set_option maxRecDepth 100000 in
set_option maxHeartbeats 1000000 in
theorem len_13 {w : World} {d total e : Nat} {limit : Int} {s : DS} {c : DC} {Rs : List Res} (hS : Sat w (decR d (headV s c) c.win (footV total limit c.ov c.rv e) :: Rs)) :
    Calls Try.prog 56 #[.pointer (some ⟨d, 0, none⟩), .int .i64 (13 : Nat)] w fun e' w' => e' = .returned (.tuple #[]) ∧
      Sat w' (decR d (headV { s with extra := (lenE 13).1, base := (lenE 13).2, st := 8 } c) c.win (footV total limit c.ov c.rv e) :: Rs) := by
  have q1 : w.cell? ⟨d, 1, none⟩ = some (.int .i64 s.st) := (dec_h hS 1 _ rfl).1
  have f1 : w.frozen? ⟨d, 1, none⟩ = false := (dec_h hS 1 _ rfl).2
  have q5 : w.cell? ⟨d, 5, none⟩ = some (.int .i64 s.extra) := (dec_h hS 5 _ rfl).1
  have f5 : w.frozen? ⟨d, 5, none⟩ = false := (dec_h hS 5 _ rfl).2
  have q6 : w.cell? ⟨d, 6, none⟩ = some (.int .i64 s.base) := (dec_h hS 6 _ rfl).1
  have f6 : w.frozen? ⟨d, 6, none⟩ = false := (dec_h hS 6 _ rfl).2
  have H := Lib.hid (dec_set_h (dec_set_h (dec_set_h (dec_set_h (dec_set_h hS 5 (by omega) (.int .i64 0)) 6 (by omega) (.int .i64 16)) 1 (by omega) (.int .i64 8)) 5 (by omega) (.int .i64 2)) 6 (by omega) (.int .i64 23))
  clear hS
  go_enter Try.func56, Try.ntmps56
  go_wp2
  go_end0
  rw [show lenE 13 = (2, 23) from by decide, show wrap64 (wrap64 (bits BinOp.or IntKind.i64 4 (bits BinOp.and IntKind.i64 13 3) * 4) + 3) = 23 from by decide +kernel]
  exact ⟨rfl, H.out⟩

set_option maxRecDepth 100000 in
set_option maxHeartbeats 1000000 in
theorem len_14 {w : World} {d total e : Nat} {limit : Int} {s : DS} {c : DC} {Rs : List Res} (hS : Sat w (decR d (headV s c) c.win (footV total limit c.ov c.rv e) :: Rs)) :
    Calls Try.prog 56 #[.pointer (some ⟨d, 0, none⟩), .int .i64 (14 : Nat)] w fun e' w' => e' = .returned (.tuple #[]) ∧
      Sat w' (decR d (headV { s with extra := (lenE 14).1, base := (lenE 14).2, st := 8 } c) c.win (footV total limit c.ov c.rv e) :: Rs) := by
  have q1 : w.cell? ⟨d, 1, none⟩ = some (.int .i64 s.st) := (dec_h hS 1 _ rfl).1
  have f1 : w.frozen? ⟨d, 1, none⟩ = false := (dec_h hS 1 _ rfl).2
  have q5 : w.cell? ⟨d, 5, none⟩ = some (.int .i64 s.extra) := (dec_h hS 5 _ rfl).1
  have f5 : w.frozen? ⟨d, 5, none⟩ = false := (dec_h hS 5 _ rfl).2
  have q6 : w.cell? ⟨d, 6, none⟩ = some (.int .i64 s.base) := (dec_h hS 6 _ rfl).1
  have f6 : w.frozen? ⟨d, 6, none⟩ = false := (dec_h hS 6 _ rfl).2
  have H := Lib.hid (dec_set_h (dec_set_h (dec_set_h (dec_set_h (dec_set_h hS 5 (by omega) (.int .i64 0)) 6 (by omega) (.int .i64 17)) 1 (by omega) (.int .i64 8)) 5 (by omega) (.int .i64 2)) 6 (by omega) (.int .i64 27))
  clear hS
  go_enter Try.func56, Try.ntmps56
  go_wp2
  go_end0
  rw [show lenE 14 = (2, 27) from by decide, show wrap64 (wrap64 (bits BinOp.or IntKind.i64 4 (bits BinOp.and IntKind.i64 14 3) * 4) + 3) = 27 from by decide +kernel]
  exact ⟨rfl, H.out⟩

set_option maxRecDepth 100000 in
set_option maxHeartbeats 1000000 in
theorem len_15 {w : World} {d total e : Nat} {limit : Int} {s : DS} {c : DC} {Rs : List Res} (hS : Sat w (decR d (headV s c) c.win (footV total limit c.ov c.rv e) :: Rs)) :
    Calls Try.prog 56 #[.pointer (some ⟨d, 0, none⟩), .int .i64 (15 : Nat)] w fun e' w' => e' = .returned (.tuple #[]) ∧
      Sat w' (decR d (headV { s with extra := (lenE 15).1, base := (lenE 15).2, st := 8 } c) c.win (footV total limit c.ov c.rv e) :: Rs) := by
  have q1 : w.cell? ⟨d, 1, none⟩ = some (.int .i64 s.st) := (dec_h hS 1 _ rfl).1
  have f1 : w.frozen? ⟨d, 1, none⟩ = false := (dec_h hS 1 _ rfl).2
  have q5 : w.cell? ⟨d, 5, none⟩ = some (.int .i64 s.extra) := (dec_h hS 5 _ rfl).1
  have f5 : w.frozen? ⟨d, 5, none⟩ = false := (dec_h hS 5 _ rfl).2
  have q6 : w.cell? ⟨d, 6, none⟩ = some (.int .i64 s.base) := (dec_h hS 6 _ rfl).1
  have f6 : w.frozen? ⟨d, 6, none⟩ = false := (dec_h hS 6 _ rfl).2
  have H := Lib.hid (dec_set_h (dec_set_h (dec_set_h (dec_set_h (dec_set_h hS 5 (by omega) (.int .i64 0)) 6 (by omega) (.int .i64 18)) 1 (by omega) (.int .i64 8)) 5 (by omega) (.int .i64 2)) 6 (by omega) (.int .i64 31))
  clear hS
  go_enter Try.func56, Try.ntmps56
  go_wp2
  go_end0
  rw [show lenE 15 = (2, 31) from by decide, show wrap64 (wrap64 (bits BinOp.or IntKind.i64 4 (bits BinOp.and IntKind.i64 15 3) * 4) + 3) = 31 from by decide +kernel]
  exact ⟨rfl, H.out⟩

set_option maxRecDepth 100000 in
set_option maxHeartbeats 1000000 in
theorem len_16 {w : World} {d total e : Nat} {limit : Int} {s : DS} {c : DC} {Rs : List Res} (hS : Sat w (decR d (headV s c) c.win (footV total limit c.ov c.rv e) :: Rs)) :
    Calls Try.prog 56 #[.pointer (some ⟨d, 0, none⟩), .int .i64 (16 : Nat)] w fun e' w' => e' = .returned (.tuple #[]) ∧
      Sat w' (decR d (headV { s with extra := (lenE 16).1, base := (lenE 16).2, st := 8 } c) c.win (footV total limit c.ov c.rv e) :: Rs) := by
  have q1 : w.cell? ⟨d, 1, none⟩ = some (.int .i64 s.st) := (dec_h hS 1 _ rfl).1
  have f1 : w.frozen? ⟨d, 1, none⟩ = false := (dec_h hS 1 _ rfl).2
  have q5 : w.cell? ⟨d, 5, none⟩ = some (.int .i64 s.extra) := (dec_h hS 5 _ rfl).1
  have f5 : w.frozen? ⟨d, 5, none⟩ = false := (dec_h hS 5 _ rfl).2
  have q6 : w.cell? ⟨d, 6, none⟩ = some (.int .i64 s.base) := (dec_h hS 6 _ rfl).1
  have f6 : w.frozen? ⟨d, 6, none⟩ = false := (dec_h hS 6 _ rfl).2
  have H := Lib.hid (dec_set_h (dec_set_h (dec_set_h (dec_set_h (dec_set_h hS 5 (by omega) (.int .i64 0)) 6 (by omega) (.int .i64 19)) 1 (by omega) (.int .i64 8)) 5 (by omega) (.int .i64 3)) 6 (by omega) (.int .i64 35))
  clear hS
  go_enter Try.func56, Try.ntmps56
  go_wp2
  go_end0
  rw [show lenE 16 = (3, 35) from by decide, show wrap64 (wrap64 (bits BinOp.or IntKind.i64 4 (bits BinOp.and IntKind.i64 16 3) * 8) + 3) = 35 from by decide +kernel]
  exact ⟨rfl, H.out⟩

set_option maxRecDepth 100000 in
set_option maxHeartbeats 1000000 in
theorem len_17 {w : World} {d total e : Nat} {limit : Int} {s : DS} {c : DC} {Rs : List Res} (hS : Sat w (decR d (headV s c) c.win (footV total limit c.ov c.rv e) :: Rs)) :
    Calls Try.prog 56 #[.pointer (some ⟨d, 0, none⟩), .int .i64 (17 : Nat)] w fun e' w' => e' = .returned (.tuple #[]) ∧
      Sat w' (decR d (headV { s with extra := (lenE 17).1, base := (lenE 17).2, st := 8 } c) c.win (footV total limit c.ov c.rv e) :: Rs) := by
  have q1 : w.cell? ⟨d, 1, none⟩ = some (.int .i64 s.st) := (dec_h hS 1 _ rfl).1
  have f1 : w.frozen? ⟨d, 1, none⟩ = false := (dec_h hS 1 _ rfl).2
  have q5 : w.cell? ⟨d, 5, none⟩ = some (.int .i64 s.extra) := (dec_h hS 5 _ rfl).1
  have f5 : w.frozen? ⟨d, 5, none⟩ = false := (dec_h hS 5 _ rfl).2
  have q6 : w.cell? ⟨d, 6, none⟩ = some (.int .i64 s.base) := (dec_h hS 6 _ rfl).1
  have f6 : w.frozen? ⟨d, 6, none⟩ = false := (dec_h hS 6 _ rfl).2
  have H := Lib.hid (dec_set_h (dec_set_h (dec_set_h (dec_set_h (dec_set_h hS 5 (by omega) (.int .i64 0)) 6 (by omega) (.int .i64 20)) 1 (by omega) (.int .i64 8)) 5 (by omega) (.int .i64 3)) 6 (by omega) (.int .i64 43))
  clear hS
  go_enter Try.func56, Try.ntmps56
  go_wp2
  go_end0
  rw [show lenE 17 = (3, 43) from by decide, show wrap64 (wrap64 (bits BinOp.or IntKind.i64 4 (bits BinOp.and IntKind.i64 17 3) * 8) + 3) = 43 from by decide +kernel]
  exact ⟨rfl, H.out⟩

set_option maxRecDepth 100000 in
set_option maxHeartbeats 1000000 in
theorem len_18 {w : World} {d total e : Nat} {limit : Int} {s : DS} {c : DC} {Rs : List Res} (hS : Sat w (decR d (headV s c) c.win (footV total limit c.ov c.rv e) :: Rs)) :
    Calls Try.prog 56 #[.pointer (some ⟨d, 0, none⟩), .int .i64 (18 : Nat)] w fun e' w' => e' = .returned (.tuple #[]) ∧
      Sat w' (decR d (headV { s with extra := (lenE 18).1, base := (lenE 18).2, st := 8 } c) c.win (footV total limit c.ov c.rv e) :: Rs) := by
  have q1 : w.cell? ⟨d, 1, none⟩ = some (.int .i64 s.st) := (dec_h hS 1 _ rfl).1
  have f1 : w.frozen? ⟨d, 1, none⟩ = false := (dec_h hS 1 _ rfl).2
  have q5 : w.cell? ⟨d, 5, none⟩ = some (.int .i64 s.extra) := (dec_h hS 5 _ rfl).1
  have f5 : w.frozen? ⟨d, 5, none⟩ = false := (dec_h hS 5 _ rfl).2
  have q6 : w.cell? ⟨d, 6, none⟩ = some (.int .i64 s.base) := (dec_h hS 6 _ rfl).1
  have f6 : w.frozen? ⟨d, 6, none⟩ = false := (dec_h hS 6 _ rfl).2
  have H := Lib.hid (dec_set_h (dec_set_h (dec_set_h (dec_set_h (dec_set_h hS 5 (by omega) (.int .i64 0)) 6 (by omega) (.int .i64 21)) 1 (by omega) (.int .i64 8)) 5 (by omega) (.int .i64 3)) 6 (by omega) (.int .i64 51))
  clear hS
  go_enter Try.func56, Try.ntmps56
  go_wp2
  go_end0
  rw [show lenE 18 = (3, 51) from by decide, show wrap64 (wrap64 (bits BinOp.or IntKind.i64 4 (bits BinOp.and IntKind.i64 18 3) * 8) + 3) = 51 from by decide +kernel]
  exact ⟨rfl, H.out⟩

set_option maxRecDepth 100000 in
set_option maxHeartbeats 1000000 in
theorem len_19 {w : World} {d total e : Nat} {limit : Int} {s : DS} {c : DC} {Rs : List Res} (hS : Sat w (decR d (headV s c) c.win (footV total limit c.ov c.rv e) :: Rs)) :
    Calls Try.prog 56 #[.pointer (some ⟨d, 0, none⟩), .int .i64 (19 : Nat)] w fun e' w' => e' = .returned (.tuple #[]) ∧
      Sat w' (decR d (headV { s with extra := (lenE 19).1, base := (lenE 19).2, st := 8 } c) c.win (footV total limit c.ov c.rv e) :: Rs) := by
  have q1 : w.cell? ⟨d, 1, none⟩ = some (.int .i64 s.st) := (dec_h hS 1 _ rfl).1
  have f1 : w.frozen? ⟨d, 1, none⟩ = false := (dec_h hS 1 _ rfl).2
  have q5 : w.cell? ⟨d, 5, none⟩ = some (.int .i64 s.extra) := (dec_h hS 5 _ rfl).1
  have f5 : w.frozen? ⟨d, 5, none⟩ = false := (dec_h hS 5 _ rfl).2
  have q6 : w.cell? ⟨d, 6, none⟩ = some (.int .i64 s.base) := (dec_h hS 6 _ rfl).1
  have f6 : w.frozen? ⟨d, 6, none⟩ = false := (dec_h hS 6 _ rfl).2
  have H := Lib.hid (dec_set_h (dec_set_h (dec_set_h (dec_set_h (dec_set_h hS 5 (by omega) (.int .i64 0)) 6 (by omega) (.int .i64 22)) 1 (by omega) (.int .i64 8)) 5 (by omega) (.int .i64 3)) 6 (by omega) (.int .i64 59))
  clear hS
  go_enter Try.func56, Try.ntmps56
  go_wp2
  go_end0
  rw [show lenE 19 = (3, 59) from by decide, show wrap64 (wrap64 (bits BinOp.or IntKind.i64 4 (bits BinOp.and IntKind.i64 19 3) * 8) + 3) = 59 from by decide +kernel]
  exact ⟨rfl, H.out⟩

set_option maxRecDepth 100000 in
set_option maxHeartbeats 1000000 in
theorem len_20 {w : World} {d total e : Nat} {limit : Int} {s : DS} {c : DC} {Rs : List Res} (hS : Sat w (decR d (headV s c) c.win (footV total limit c.ov c.rv e) :: Rs)) :
    Calls Try.prog 56 #[.pointer (some ⟨d, 0, none⟩), .int .i64 (20 : Nat)] w fun e' w' => e' = .returned (.tuple #[]) ∧
      Sat w' (decR d (headV { s with extra := (lenE 20).1, base := (lenE 20).2, st := 8 } c) c.win (footV total limit c.ov c.rv e) :: Rs) := by
  have q1 : w.cell? ⟨d, 1, none⟩ = some (.int .i64 s.st) := (dec_h hS 1 _ rfl).1
  have f1 : w.frozen? ⟨d, 1, none⟩ = false := (dec_h hS 1 _ rfl).2
  have q5 : w.cell? ⟨d, 5, none⟩ = some (.int .i64 s.extra) := (dec_h hS 5 _ rfl).1
  have f5 : w.frozen? ⟨d, 5, none⟩ = false := (dec_h hS 5 _ rfl).2
  have q6 : w.cell? ⟨d, 6, none⟩ = some (.int .i64 s.base) := (dec_h hS 6 _ rfl).1
  have f6 : w.frozen? ⟨d, 6, none⟩ = false := (dec_h hS 6 _ rfl).2
  have H := Lib.hid (dec_set_h (dec_set_h (dec_set_h (dec_set_h (dec_set_h hS 5 (by omega) (.int .i64 0)) 6 (by omega) (.int .i64 23)) 1 (by omega) (.int .i64 8)) 5 (by omega) (.int .i64 4)) 6 (by omega) (.int .i64 67))
  clear hS
  go_enter Try.func56, Try.ntmps56
  go_wp2
  go_end0
  rw [show lenE 20 = (4, 67) from by decide, show wrap64 (wrap64 (bits BinOp.or IntKind.i64 4 (bits BinOp.and IntKind.i64 20 3) * 16) + 3) = 67 from by decide +kernel]
  exact ⟨rfl, H.out⟩

set_option maxRecDepth 100000 in
set_option maxHeartbeats 1000000 in
theorem len_21 {w : World} {d total e : Nat} {limit : Int} {s : DS} {c : DC} {Rs : List Res} (hS : Sat w (decR d (headV s c) c.win (footV total limit c.ov c.rv e) :: Rs)) :
    Calls Try.prog 56 #[.pointer (some ⟨d, 0, none⟩), .int .i64 (21 : Nat)] w fun e' w' => e' = .returned (.tuple #[]) ∧
      Sat w' (decR d (headV { s with extra := (lenE 21).1, base := (lenE 21).2, st := 8 } c) c.win (footV total limit c.ov c.rv e) :: Rs) := by
  have q1 : w.cell? ⟨d, 1, none⟩ = some (.int .i64 s.st) := (dec_h hS 1 _ rfl).1
  have f1 : w.frozen? ⟨d, 1, none⟩ = false := (dec_h hS 1 _ rfl).2
  have q5 : w.cell? ⟨d, 5, none⟩ = some (.int .i64 s.extra) := (dec_h hS 5 _ rfl).1
  have f5 : w.frozen? ⟨d, 5, none⟩ = false := (dec_h hS 5 _ rfl).2
  have q6 : w.cell? ⟨d, 6, none⟩ = some (.int .i64 s.base) := (dec_h hS 6 _ rfl).1
  have f6 : w.frozen? ⟨d, 6, none⟩ = false := (dec_h hS 6 _ rfl).2
  have H := Lib.hid (dec_set_h (dec_set_h (dec_set_h (dec_set_h (dec_set_h hS 5 (by omega) (.int .i64 0)) 6 (by omega) (.int .i64 24)) 1 (by omega) (.int .i64 8)) 5 (by omega) (.int .i64 4)) 6 (by omega) (.int .i64 83))
  clear hS
  go_enter Try.func56, Try.ntmps56
  go_wp2
  go_end0
  rw [show lenE 21 = (4, 83) from by decide, show wrap64 (wrap64 (bits BinOp.or IntKind.i64 4 (bits BinOp.and IntKind.i64 21 3) * 16) + 3) = 83 from by decide +kernel]
  exact ⟨rfl, H.out⟩

set_option maxRecDepth 100000 in
set_option maxHeartbeats 1000000 in
theorem len_22 {w : World} {d total e : Nat} {limit : Int} {s : DS} {c : DC} {Rs : List Res} (hS : Sat w (decR d (headV s c) c.win (footV total limit c.ov c.rv e) :: Rs)) :
    Calls Try.prog 56 #[.pointer (some ⟨d, 0, none⟩), .int .i64 (22 : Nat)] w fun e' w' => e' = .returned (.tuple #[]) ∧
      Sat w' (decR d (headV { s with extra := (lenE 22).1, base := (lenE 22).2, st := 8 } c) c.win (footV total limit c.ov c.rv e) :: Rs) := by
  have q1 : w.cell? ⟨d, 1, none⟩ = some (.int .i64 s.st) := (dec_h hS 1 _ rfl).1
  have f1 : w.frozen? ⟨d, 1, none⟩ = false := (dec_h hS 1 _ rfl).2
  have q5 : w.cell? ⟨d, 5, none⟩ = some (.int .i64 s.extra) := (dec_h hS 5 _ rfl).1
  have f5 : w.frozen? ⟨d, 5, none⟩ = false := (dec_h hS 5 _ rfl).2
  have q6 : w.cell? ⟨d, 6, none⟩ = some (.int .i64 s.base) := (dec_h hS 6 _ rfl).1
  have f6 : w.frozen? ⟨d, 6, none⟩ = false := (dec_h hS 6 _ rfl).2
  have H := Lib.hid (dec_set_h (dec_set_h (dec_set_h (dec_set_h (dec_set_h hS 5 (by omega) (.int .i64 0)) 6 (by omega) (.int .i64 25)) 1 (by omega) (.int .i64 8)) 5 (by omega) (.int .i64 4)) 6 (by omega) (.int .i64 99))
  clear hS
  go_enter Try.func56, Try.ntmps56
  go_wp2
  go_end0
  rw [show lenE 22 = (4, 99) from by decide, show wrap64 (wrap64 (bits BinOp.or IntKind.i64 4 (bits BinOp.and IntKind.i64 22 3) * 16) + 3) = 99 from by decide +kernel]
  exact ⟨rfl, H.out⟩

set_option maxRecDepth 100000 in
set_option maxHeartbeats 1000000 in
theorem len_23 {w : World} {d total e : Nat} {limit : Int} {s : DS} {c : DC} {Rs : List Res} (hS : Sat w (decR d (headV s c) c.win (footV total limit c.ov c.rv e) :: Rs)) :
    Calls Try.prog 56 #[.pointer (some ⟨d, 0, none⟩), .int .i64 (23 : Nat)] w fun e' w' => e' = .returned (.tuple #[]) ∧
      Sat w' (decR d (headV { s with extra := (lenE 23).1, base := (lenE 23).2, st := 8 } c) c.win (footV total limit c.ov c.rv e) :: Rs) := by
  have q1 : w.cell? ⟨d, 1, none⟩ = some (.int .i64 s.st) := (dec_h hS 1 _ rfl).1
  have f1 : w.frozen? ⟨d, 1, none⟩ = false := (dec_h hS 1 _ rfl).2
  have q5 : w.cell? ⟨d, 5, none⟩ = some (.int .i64 s.extra) := (dec_h hS 5 _ rfl).1
  have f5 : w.frozen? ⟨d, 5, none⟩ = false := (dec_h hS 5 _ rfl).2
  have q6 : w.cell? ⟨d, 6, none⟩ = some (.int .i64 s.base) := (dec_h hS 6 _ rfl).1
  have f6 : w.frozen? ⟨d, 6, none⟩ = false := (dec_h hS 6 _ rfl).2
  have H := Lib.hid (dec_set_h (dec_set_h (dec_set_h (dec_set_h (dec_set_h hS 5 (by omega) (.int .i64 0)) 6 (by omega) (.int .i64 26)) 1 (by omega) (.int .i64 8)) 5 (by omega) (.int .i64 4)) 6 (by omega) (.int .i64 115))
  clear hS
  go_enter Try.func56, Try.ntmps56
  go_wp2
  go_end0
  rw [show lenE 23 = (4, 115) from by decide, show wrap64 (wrap64 (bits BinOp.or IntKind.i64 4 (bits BinOp.and IntKind.i64 23 3) * 16) + 3) = 115 from by decide +kernel]
  exact ⟨rfl, H.out⟩

set_option maxRecDepth 100000 in
set_option maxHeartbeats 1000000 in
theorem len_24 {w : World} {d total e : Nat} {limit : Int} {s : DS} {c : DC} {Rs : List Res} (hS : Sat w (decR d (headV s c) c.win (footV total limit c.ov c.rv e) :: Rs)) :
    Calls Try.prog 56 #[.pointer (some ⟨d, 0, none⟩), .int .i64 (24 : Nat)] w fun e' w' => e' = .returned (.tuple #[]) ∧
      Sat w' (decR d (headV { s with extra := (lenE 24).1, base := (lenE 24).2, st := 8 } c) c.win (footV total limit c.ov c.rv e) :: Rs) := by
  have q1 : w.cell? ⟨d, 1, none⟩ = some (.int .i64 s.st) := (dec_h hS 1 _ rfl).1
  have f1 : w.frozen? ⟨d, 1, none⟩ = false := (dec_h hS 1 _ rfl).2
  have q5 : w.cell? ⟨d, 5, none⟩ = some (.int .i64 s.extra) := (dec_h hS 5 _ rfl).1
  have f5 : w.frozen? ⟨d, 5, none⟩ = false := (dec_h hS 5 _ rfl).2
  have q6 : w.cell? ⟨d, 6, none⟩ = some (.int .i64 s.base) := (dec_h hS 6 _ rfl).1
  have f6 : w.frozen? ⟨d, 6, none⟩ = false := (dec_h hS 6 _ rfl).2
  have H := Lib.hid (dec_set_h (dec_set_h (dec_set_h (dec_set_h (dec_set_h hS 5 (by omega) (.int .i64 0)) 6 (by omega) (.int .i64 27)) 1 (by omega) (.int .i64 8)) 5 (by omega) (.int .i64 5)) 6 (by omega) (.int .i64 131))
  clear hS
  go_enter Try.func56, Try.ntmps56
  go_wp2
  go_end0
  rw [show lenE 24 = (5, 131) from by decide, show wrap64 (wrap64 (bits BinOp.or IntKind.i64 4 (bits BinOp.and IntKind.i64 24 3) * 32) + 3) = 131 from by decide +kernel]
  exact ⟨rfl, H.out⟩

set_option maxRecDepth 100000 in
set_option maxHeartbeats 1000000 in
theorem len_25 {w : World} {d total e : Nat} {limit : Int} {s : DS} {c : DC} {Rs : List Res} (hS : Sat w (decR d (headV s c) c.win (footV total limit c.ov c.rv e) :: Rs)) :
    Calls Try.prog 56 #[.pointer (some ⟨d, 0, none⟩), .int .i64 (25 : Nat)] w fun e' w' => e' = .returned (.tuple #[]) ∧
      Sat w' (decR d (headV { s with extra := (lenE 25).1, base := (lenE 25).2, st := 8 } c) c.win (footV total limit c.ov c.rv e) :: Rs) := by
  have q1 : w.cell? ⟨d, 1, none⟩ = some (.int .i64 s.st) := (dec_h hS 1 _ rfl).1
  have f1 : w.frozen? ⟨d, 1, none⟩ = false := (dec_h hS 1 _ rfl).2
  have q5 : w.cell? ⟨d, 5, none⟩ = some (.int .i64 s.extra) := (dec_h hS 5 _ rfl).1
  have f5 : w.frozen? ⟨d, 5, none⟩ = false := (dec_h hS 5 _ rfl).2
  have q6 : w.cell? ⟨d, 6, none⟩ = some (.int .i64 s.base) := (dec_h hS 6 _ rfl).1
  have f6 : w.frozen? ⟨d, 6, none⟩ = false := (dec_h hS 6 _ rfl).2
  have H := Lib.hid (dec_set_h (dec_set_h (dec_set_h (dec_set_h (dec_set_h hS 5 (by omega) (.int .i64 0)) 6 (by omega) (.int .i64 28)) 1 (by omega) (.int .i64 8)) 5 (by omega) (.int .i64 5)) 6 (by omega) (.int .i64 163))
  clear hS
  go_enter Try.func56, Try.ntmps56
  go_wp2
  go_end0
  rw [show lenE 25 = (5, 163) from by decide, show wrap64 (wrap64 (bits BinOp.or IntKind.i64 4 (bits BinOp.and IntKind.i64 25 3) * 32) + 3) = 163 from by decide +kernel]
  exact ⟨rfl, H.out⟩

set_option maxRecDepth 100000 in
set_option maxHeartbeats 1000000 in
theorem len_26 {w : World} {d total e : Nat} {limit : Int} {s : DS} {c : DC} {Rs : List Res} (hS : Sat w (decR d (headV s c) c.win (footV total limit c.ov c.rv e) :: Rs)) :
    Calls Try.prog 56 #[.pointer (some ⟨d, 0, none⟩), .int .i64 (26 : Nat)] w fun e' w' => e' = .returned (.tuple #[]) ∧
      Sat w' (decR d (headV { s with extra := (lenE 26).1, base := (lenE 26).2, st := 8 } c) c.win (footV total limit c.ov c.rv e) :: Rs) := by
  have q1 : w.cell? ⟨d, 1, none⟩ = some (.int .i64 s.st) := (dec_h hS 1 _ rfl).1
  have f1 : w.frozen? ⟨d, 1, none⟩ = false := (dec_h hS 1 _ rfl).2
  have q5 : w.cell? ⟨d, 5, none⟩ = some (.int .i64 s.extra) := (dec_h hS 5 _ rfl).1
  have f5 : w.frozen? ⟨d, 5, none⟩ = false := (dec_h hS 5 _ rfl).2
  have q6 : w.cell? ⟨d, 6, none⟩ = some (.int .i64 s.base) := (dec_h hS 6 _ rfl).1
  have f6 : w.frozen? ⟨d, 6, none⟩ = false := (dec_h hS 6 _ rfl).2
  have H := Lib.hid (dec_set_h (dec_set_h (dec_set_h (dec_set_h (dec_set_h hS 5 (by omega) (.int .i64 0)) 6 (by omega) (.int .i64 29)) 1 (by omega) (.int .i64 8)) 5 (by omega) (.int .i64 5)) 6 (by omega) (.int .i64 195))
  clear hS
  go_enter Try.func56, Try.ntmps56
  go_wp2
  go_end0
  rw [show lenE 26 = (5, 195) from by decide, show wrap64 (wrap64 (bits BinOp.or IntKind.i64 4 (bits BinOp.and IntKind.i64 26 3) * 32) + 3) = 195 from by decide +kernel]
  exact ⟨rfl, H.out⟩

set_option maxRecDepth 100000 in
set_option maxHeartbeats 1000000 in
theorem len_27 {w : World} {d total e : Nat} {limit : Int} {s : DS} {c : DC} {Rs : List Res} (hS : Sat w (decR d (headV s c) c.win (footV total limit c.ov c.rv e) :: Rs)) :
    Calls Try.prog 56 #[.pointer (some ⟨d, 0, none⟩), .int .i64 (27 : Nat)] w fun e' w' => e' = .returned (.tuple #[]) ∧
      Sat w' (decR d (headV { s with extra := (lenE 27).1, base := (lenE 27).2, st := 8 } c) c.win (footV total limit c.ov c.rv e) :: Rs) := by
  have q1 : w.cell? ⟨d, 1, none⟩ = some (.int .i64 s.st) := (dec_h hS 1 _ rfl).1
  have f1 : w.frozen? ⟨d, 1, none⟩ = false := (dec_h hS 1 _ rfl).2
  have q5 : w.cell? ⟨d, 5, none⟩ = some (.int .i64 s.extra) := (dec_h hS 5 _ rfl).1
  have f5 : w.frozen? ⟨d, 5, none⟩ = false := (dec_h hS 5 _ rfl).2
  have q6 : w.cell? ⟨d, 6, none⟩ = some (.int .i64 s.base) := (dec_h hS 6 _ rfl).1
  have f6 : w.frozen? ⟨d, 6, none⟩ = false := (dec_h hS 6 _ rfl).2
  have H := Lib.hid (dec_set_h (dec_set_h (dec_set_h (dec_set_h (dec_set_h hS 5 (by omega) (.int .i64 0)) 6 (by omega) (.int .i64 30)) 1 (by omega) (.int .i64 8)) 5 (by omega) (.int .i64 5)) 6 (by omega) (.int .i64 227))
  clear hS
  go_enter Try.func56, Try.ntmps56
  go_wp2
  go_end0
  rw [show lenE 27 = (5, 227) from by decide, show wrap64 (wrap64 (bits BinOp.or IntKind.i64 4 (bits BinOp.and IntKind.i64 27 3) * 32) + 3) = 227 from by decide +kernel]
  exact ⟨rfl, H.out⟩

set_option maxRecDepth 100000 in
set_option maxHeartbeats 8000000 in
theorem length_d {w : World} {d total e : Nat} {limit : Int} {s : DS} {c : DC} {Rs : List Res} (hS : Sat w (decR d (headV s c) c.win (footV total limit c.ov c.rv e) :: Rs)) (x : Nat) (hx : x ≤ 28) :
    Calls Try.prog 56 #[.pointer (some ⟨d, 0, none⟩), .int .i64 x] w fun e' w' => e' = .returned (.tuple #[]) ∧
      Sat w' (decR d (headV { s with extra := (lenE x).1, base := (lenE x).2, st := 8 } c) c.win (footV total limit c.ov c.rv e) :: Rs) := by
  have q1 : w.cell? ⟨d, 1, none⟩ = some (.int .i64 s.st) := (dec_h hS 1 _ rfl).1
  have f1 : w.frozen? ⟨d, 1, none⟩ = false := (dec_h hS 1 _ rfl).2
  have q5 : w.cell? ⟨d, 5, none⟩ = some (.int .i64 s.extra) := (dec_h hS 5 _ rfl).1
  have f5 : w.frozen? ⟨d, 5, none⟩ = false := (dec_h hS 5 _ rfl).2
  have q6 : w.cell? ⟨d, 6, none⟩ = some (.int .i64 s.base) := (dec_h hS 6 _ rfl).1
  have f6 : w.frozen? ⟨d, 6, none⟩ = false := (dec_h hS 6 _ rfl).2
  by_cases h28 : x = 28
  · subst h28
    have H := Lib.hid (dec_set_h (dec_set_h (dec_set_h (dec_set_h hS 5 (by omega) (.int .i64 0)) 6 (by omega) (.int .i64 31)) 1 (by omega) (.int .i64 8)) 6 (by omega) (.int .i64 258))
    clear hS hx
    go_enter Try.func56, Try.ntmps56
    go_wp2
    go_end0
    exact ⟨rfl, H.out⟩
  · by_cases h7 : x ≤ 7
    · have H := Lib.hid (dec_set_h (dec_set_h (dec_set_h hS 5 (by omega) (.int .i64 0)) 6 (by omega) (.int .i64 ((x : Int) + 3))) 1 (by omega) (.int .i64 8))
      have he : lenE x = (0, x + 3) := by unfold lenE; rw [if_neg h28, if_neg (by omega)]
      have He := Lib.hid he
      have d1 : ((x : Int) == 28) = false := beq_eq_false_iff_ne.2 (by omega)
      have d2 : decide ((7 : Int) < x) = false := decide_eq_false (by omega)
      clear hS h28 he
      go_enter Try.func56, Try.ntmps56
      go_wp2
      go_end0
      rw [He.out]
      exact ⟨rfl, H.out⟩
    · have hc : x = 8 ∨ x = 9 ∨ x = 10 ∨ x = 11 ∨ x = 12 ∨ x = 13 ∨ x = 14 ∨ x = 15 ∨ x = 16 ∨ x = 17 ∨ x = 18 ∨ x = 19 ∨ x = 20 ∨ x = 21 ∨ x = 22 ∨ x = 23 ∨ x = 24 ∨ x = 25 ∨ x = 26 ∨ x = 27 := by omega
      clear h28 h7 hx q1 q5 q6 f1 f5 f6
      rcases hc with rfl | rfl | rfl | rfl | rfl | rfl | rfl | rfl | rfl | rfl | rfl | rfl | rfl | rfl | rfl | rfl | rfl | rfl | rfl | rfl
      · exact len_8 hS
      · exact len_9 hS
      · exact len_10 hS
      · exact len_11 hS
      · exact len_12 hS
      · exact len_13 hS
      · exact len_14 hS
      · exact len_15 hS
      · exact len_16 hS
      · exact len_17 hS
      · exact len_18 hS
      · exact len_19 hS
      · exact len_20 hS
      · exact len_21 hS
      · exact len_22 hS
      · exact len_23 hS
      · exact len_24 hS
      · exact len_25 hS
      · exact len_26 hS
      · exact len_27 hS

end Go.Proofs.Ytdpocnkeokplpaa
