/- inflate.Decoder: told, counts. inflate.Decoder: told, codes. inflate.Decoder: told, lens: the row is full. -/
import Derived.Test.YtdpocnkeokplpaaQi
import Derived.Deep.RegionWith
import Derived.Deep.LoopGhost
import Derived.Test.YtdpocnkeokplpaaQc
namespace Go.Proofs.Ytdpocnkeokplpaa
open Go.RowKit Go.Hal
set_option linter.unusedVariables false
set_option linter.unusedSimpArgs false

set_option maxRecDepth 100000 in
set_option maxHeartbeats 2000000 in
theorem counts_stop {w : World} {d total e : Nat} {limit : Int} {s : DS} {c : DC} {l : List Bool} {Rs : List Res} (hS : Sat w (decR d (headV s c) c.win (footV total limit c.ov c.rv e) :: rd c.r l :: Rs)) (hst : s.st = 3)
    (h : l.length < 14) :
    Calls Try.prog 54 #[.pointer (some ⟨d, 0, none⟩)] w fun e' w' => e' = .returned (.bool false) ∧
      Sat w' (decR d (headV s c) c.win (footV total limit c.ov c.rv e) :: rd c.r l :: Rs) := by
  have q0 : w.cell? ⟨d, 0, none⟩ = some (.pointer (some ⟨c.r, 0, none⟩)) := (dec_h hS 0 _ rfl).1
  have q1 : w.cell? ⟨d, 1, none⟩ = some (.int .i64 3) := by have := (dec_h hS 1 _ rfl).1; rw [hst] at this; exact this
  have Ht := Lib.hid (take_rd_short hS.swap 14 (by omega) h)
  have HS := Lib.hid (fun k => hS.drewN k)
  clear hS h hst
  go_enter Try.func54, Try.ntmps54
  go_wp2_with (go_at_call 48; refine Ht.out.mono ?_; rintro e' w2 ⟨rfl, k2, rfl⟩)
  go_ret
  exact ⟨rfl, HS.out _⟩

set_option maxRecDepth 100000 in
set_option maxHeartbeats 2000000 in
theorem counts_go {w : World} {d total e : Nat} {limit : Int} {s : DS} {c : DC} {l : List Bool} {Rs : List Res} (hS : Sat w (decR d (headV s c) c.win (footV total limit c.ov c.rv e) :: rd c.r l :: Rs)) (hst : s.st = 3)
    (h : 14 ≤ l.length) (v : Nat) (hv : num (l.take 14) = v) :
    Calls Try.prog 54 #[.pointer (some ⟨d, 0, none⟩)] w fun e' w' => e' = .returned (.bool true) ∧
      Sat w' (decR d (headV { s with lits := v % 32 + 257, dists := v / 32 % 32 + 1, left := v / 1024 + 4, st := 4 } c) c.win (footV total limit c.ov c.rv (if 286 < v % 32 + 257 ∨ 30 < v / 32 % 32 + 1 then 5 else e)) :: rd c.r (l.drop 14) :: Rs) := by
  have q0 : w.cell? ⟨d, 0, none⟩ = some (.pointer (some ⟨c.r, 0, none⟩)) := (dec_h hS 0 _ rfl).1
  have q1 : w.cell? ⟨d, 1, none⟩ = some (.int .i64 3) := by have := (dec_h hS 1 _ rfl).1; rw [hst] at this; exact this
  have ht := take_rd hS.swap 14 (by omega) h
  have hv14 := num_take_lt l 14 14 (by omega)
  rw [hv] at ht hv14
  have Ht := Lib.hid ht
  have Hst := Lib.hid hst
  have hv2 : (v : Int) < 16384 := by omega
  clear ht hS h hst hv hv14
  obtain ⟨a, ha⟩ : ∃ a, v % 32 + 257 = a := ⟨_, rfl⟩
  obtain ⟨b, hb⟩ : ∃ b, v / 32 % 32 + 1 = b := ⟨_, rfl⟩
  have h31 : wrap64 (bits BinOp.and IntKind.i64 (v : Int) 31 + 257) = (a : Int) := by
    rw [show bits BinOp.and IntKind.i64 (v : Int) 31 = (v : Int) % 32 from mask_i64 5 (by decide) _ (by omega) (by omega), wrap64_id _ (by omega) (by omega), ← ha]; omega
  have h32 : wrap64 (bits BinOp.and IntKind.i64 ((v : Int) / 32) 31 + 1) = (b : Int) := by
    rw [show bits BinOp.and IntKind.i64 ((v : Int) / 32) 31 = (v : Int) / 32 % 32 from mask_i64 5 (by decide) _ (by omega) (by omega), wrap64_id _ (by omega) (by omega), ← hb]; omega
  rw [ha, hb]
  clear ha hb
  obtain ⟨y, Hy, hy⟩ : ∃ y, Hid ((if 286 < a ∨ 30 < b then 5 else e) = y) ∧ ((y = 5 ∧ decide ((286 : Int) < a) = true) ∨ (y = 5 ∧ decide ((286 : Int) < a) = false ∧ decide ((30 : Int) < b) = true) ∨ (e = y ∧ decide ((286 : Int) < a) = false ∧ decide ((30 : Int) < b) = false)) := by
    refine ⟨_, Lib.hid rfl, ?_⟩
    by_cases h1 : 286 < a
    · exact .inl ⟨if_pos (.inl h1), decide_eq_true (by omega)⟩
    · by_cases h2 : 30 < b
      · exact .inr (.inl ⟨if_pos (.inr h2), decide_eq_false (by omega), decide_eq_true (by omega)⟩)
      · exact .inr (.inr ⟨(if_neg (by omega)).symm, decide_eq_false (by omega), decide_eq_false (by omega)⟩)
  rw [Hy.out]
  clear Hy
  rcases hy with ⟨rfl, hy⟩ | ⟨rfl, hy, hz⟩ | ⟨rfl, hy, hz⟩
  · go_enter Try.func54, Try.ntmps54
    go_wp2_with (go_at_call 48; refine Ht.out.mono ?_; rintro e' w2 ⟨rfl, hS2⟩; have p1 : w2.cell? ⟨d, 1, none⟩ = some (.int .i64 3) := (by have := (dec_h hS2.swap 1 _ rfl).1; rw [Hst.out] at this; exact this); have f1 : w2.frozen? ⟨d, 1, none⟩ = false := (dec_h hS2.swap 1 _ rfl).2; have p7 : w2.cell? ⟨d, 7, none⟩ = some (.int .i64 s.lits) := (dec_h hS2.swap 7 _ rfl).1; have f7 : w2.frozen? ⟨d, 7, none⟩ = false := (dec_h hS2.swap 7 _ rfl).2; have p8 : w2.cell? ⟨d, 8, none⟩ = some (.int .i64 s.dists) := (dec_h hS2.swap 8 _ rfl).1; have f8 : w2.frozen? ⟨d, 8, none⟩ = false := (dec_h hS2.swap 8 _ rfl).2; have p3 : w2.cell? ⟨d, 3, none⟩ = some (.int .i64 s.left) := (dec_h hS2.swap 3 _ rfl).1; have f3 : w2.frozen? ⟨d, 3, none⟩ = false := (dec_h hS2.swap 3 _ rfl).2; have t4 : w2.cell? ⟨d, 32785, none⟩ = some (.int .i64 e) := (dec_t hS2.swap 4 _ rfl).1; have tf : w2.frozen? ⟨d, 32785, none⟩ = false := (dec_t hS2.swap 4 _ rfl).2)
    go_ret
    exact ⟨rfl, dec_set_h (dec_set_t (dec_set_h (dec_set_h (dec_set_h hS2.swap 7 (by omega) _) 8 (by omega) _) 3 (by omega) _) 4 (by omega) _) 1 (by omega) _⟩
  · go_enter Try.func54, Try.ntmps54
    go_wp2_with (go_at_call 48; refine Ht.out.mono ?_; rintro e' w2 ⟨rfl, hS2⟩; have p1 : w2.cell? ⟨d, 1, none⟩ = some (.int .i64 3) := (by have := (dec_h hS2.swap 1 _ rfl).1; rw [Hst.out] at this; exact this); have f1 : w2.frozen? ⟨d, 1, none⟩ = false := (dec_h hS2.swap 1 _ rfl).2; have p7 : w2.cell? ⟨d, 7, none⟩ = some (.int .i64 s.lits) := (dec_h hS2.swap 7 _ rfl).1; have f7 : w2.frozen? ⟨d, 7, none⟩ = false := (dec_h hS2.swap 7 _ rfl).2; have p8 : w2.cell? ⟨d, 8, none⟩ = some (.int .i64 s.dists) := (dec_h hS2.swap 8 _ rfl).1; have f8 : w2.frozen? ⟨d, 8, none⟩ = false := (dec_h hS2.swap 8 _ rfl).2; have p3 : w2.cell? ⟨d, 3, none⟩ = some (.int .i64 s.left) := (dec_h hS2.swap 3 _ rfl).1; have f3 : w2.frozen? ⟨d, 3, none⟩ = false := (dec_h hS2.swap 3 _ rfl).2; have t4 : w2.cell? ⟨d, 32785, none⟩ = some (.int .i64 e) := (dec_t hS2.swap 4 _ rfl).1; have tf : w2.frozen? ⟨d, 32785, none⟩ = false := (dec_t hS2.swap 4 _ rfl).2)
    go_ret
    exact ⟨rfl, dec_set_h (dec_set_t (dec_set_h (dec_set_h (dec_set_h hS2.swap 7 (by omega) _) 8 (by omega) _) 3 (by omega) _) 4 (by omega) _) 1 (by omega) _⟩
  · go_enter Try.func54, Try.ntmps54
    go_wp2_with (go_at_call 48; refine Ht.out.mono ?_; rintro e' w2 ⟨rfl, hS2⟩; have p1 : w2.cell? ⟨d, 1, none⟩ = some (.int .i64 3) := (by have := (dec_h hS2.swap 1 _ rfl).1; rw [Hst.out] at this; exact this); have f1 : w2.frozen? ⟨d, 1, none⟩ = false := (dec_h hS2.swap 1 _ rfl).2; have p7 : w2.cell? ⟨d, 7, none⟩ = some (.int .i64 s.lits) := (dec_h hS2.swap 7 _ rfl).1; have f7 : w2.frozen? ⟨d, 7, none⟩ = false := (dec_h hS2.swap 7 _ rfl).2; have p8 : w2.cell? ⟨d, 8, none⟩ = some (.int .i64 s.dists) := (dec_h hS2.swap 8 _ rfl).1; have f8 : w2.frozen? ⟨d, 8, none⟩ = false := (dec_h hS2.swap 8 _ rfl).2; have p3 : w2.cell? ⟨d, 3, none⟩ = some (.int .i64 s.left) := (dec_h hS2.swap 3 _ rfl).1; have f3 : w2.frozen? ⟨d, 3, none⟩ = false := (dec_h hS2.swap 3 _ rfl).2; have t4 : w2.cell? ⟨d, 32785, none⟩ = some (.int .i64 e) := (dec_t hS2.swap 4 _ rfl).1; have tf : w2.frozen? ⟨d, 32785, none⟩ = false := (dec_t hS2.swap 4 _ rfl).2)
    go_ret
    exact ⟨rfl, dec_set_h (dec_set_h (dec_set_h (dec_set_h hS2.swap 7 (by omega) _) 8 (by omega) _) 3 (by omega) _) 1 (by omega) _⟩

end Go.Proofs.Ytdpocnkeokplpaa

namespace Go.Proofs.Ytdpocnkeokplpaa
open Go.RowKit Go.Hal
set_option linter.unusedVariables false
set_option linter.unusedSimpArgs false

theorem sl_frozen {w : World} {e : TypeId} {n b o cap : Nat} {xs : List Value} {Rs : List Res} (hS : Sat w (sl e 1 n (.slice (some ⟨b, o, none⟩) n cap) xs :: Rs)) (hn : 0 < n) (j : Nat) : w.frozen? ⟨b, o + j, none⟩ = false := by
  obtain ⟨b', o', cap', heq, -, -, -, -, h⟩ := hS.sl_cells hn
  simp only [Value.slice.injEq, Option.some.injEq, Addr.mk.injEq, and_true, true_and] at heq
  obtain ⟨⟨rfl, rfl⟩, -⟩ := heq
  exact h j
theorem natsV_set (L : List Nat) (x y : Nat) : ((natsV L).map intV).set x (.int .i64 (y : Nat)) = (natsV (L.set x y)).map intV := by
  unfold natsV
  rw [List.map_set, List.map_set]
  rfl
theorem ord19_at : ∀ k, k < 19 → ∃ x, ord19[k]? = some x ∧ x < 19 ∧ ord19.idxOf x = k := by
  have : ∀ k : Fin 19, ∃ x : Fin 19, ord19[k.val]? = some x.val ∧ ord19.idxOf x.val = k.val := by decide
  intro k hk
  obtain ⟨x, h1, h2⟩ := this ⟨k, hk⟩
  exact ⟨x.val, h1, x.isLt, h2⟩
theorem ord19_one : ∀ s t, s < 19 → t < 19 → ord19.idxOf s = ord19.idxOf t → s = t := by
  have : ∀ s t : Fin 19, ord19.idxOf s.val = ord19.idxOf t.val → s = t := by decide
  intro s t hs ht h
  exact congrArg Fin.val (this ⟨s, hs⟩ ⟨t, ht⟩ h)
theorem lens19_at {k : Nat} {l : List Bool} {s : Nat} (h : s < 19) : (lens19 k l)[s]? = some (if ord19.idxOf s < k then num ((l.drop (3 * ord19.idxOf s)).take 3) else 0) := by
  unfold lens19
  rw [List.getElem?_map, List.getElem?_range h]
  rfl
theorem lens19_zero (l : List Bool) : lens19 0 l = List.replicate 19 0 := by
  refine List.ext_getElem? fun s => ?_
  by_cases h : s < 19
  · rw [lens19_at h, if_neg (by omega), List.getElem?_replicate, if_pos h]
  · rw [List.getElem?_eq_none (by rw [lens19_length]; omega), List.getElem?_eq_none (by simp; omega)]
theorem lens19_succ {k x : Nat} {l : List Bool} (hk : k < 19) (hx : x < 19) (hi : ord19.idxOf x = k) : lens19 (k + 1) l = (lens19 k l).set x (num ((l.drop (3 * k)).take 3)) := by
  refine List.ext_getElem? fun s => ?_
  by_cases h : s < 19
  · rw [lens19_at h, List.getElem?_set]
    by_cases hs : x = s
    · subst hs
      rw [if_pos rfl, if_pos (show x < (lens19 k l).length by rw [lens19_length]; exact hx), hi, if_pos (by omega)]
    · rw [if_neg hs, lens19_at h]
      have : ord19.idxOf s ≠ k := fun e => hs (ord19_one x s hx h (hi.trans e.symm))
      by_cases h1 : ord19.idxOf s < k
      · rw [if_pos h1, if_pos (by omega)]
      · rw [if_neg h1, if_neg (by omega)]
  · rw [List.getElem?_eq_none (by rw [lens19_length]; omega), List.getElem?_eq_none (by rw [List.length_set, lens19_length]; omega)]
/-- The last symbol that has a length, or -1. -/
def SomeOk (l : List Bool) (k : Nat) (sm : Int) : Prop := (sm = -1 ∧ ∀ x ∈ lens19 k l, x = 0) ∨ ∃ q : Nat, q < 19 ∧ sm = q ∧ 0 < ((lens19 k l)[q]?).getD 0
theorem some_zero (l : List Bool) : SomeOk l 0 (-1) := .inl ⟨rfl, fun x hx => by rw [lens19_zero] at hx; exact (List.mem_replicate.1 hx).2⟩
theorem some_pos {l : List Bool} {k x : Nat} {sm : Int} (hk : k < 19) (hx : x < 19) (hi : ord19.idxOf x = k) (hy : 0 < num ((l.drop (3 * k)).take 3)) : SomeOk l (k + 1) x := by
  refine .inr ⟨x, hx, rfl, ?_⟩
  rw [lens19_at hx, hi, if_pos (by omega)]
  exact hy
theorem some_nil {l : List Bool} {k x : Nat} {sm : Int} (h : SomeOk l k sm) (hk : k < 19) (hx : x < 19) (hi : ord19.idxOf x = k) (hy : num ((l.drop (3 * k)).take 3) = 0) : SomeOk l (k + 1) sm := by
  rcases h with ⟨h1, h2⟩ | ⟨q, h1, h2, h3⟩
  · refine .inl ⟨h1, fun z hz => ?_⟩
    rw [lens19_succ hk hx hi, hy] at hz
    rcases List.mem_or_eq_of_mem_set hz with hz | hz
    · exact h2 z hz
    · exact hz
  · refine .inr ⟨q, h1, h2, ?_⟩
    rw [lens19_at h1] at h3 ⊢
    by_cases h4 : ord19.idxOf q < k
    · rw [if_pos h4] at h3; rw [if_pos (by omega)]; exact h3
    · rw [if_neg h4] at h3; exact absurd h3 (by decide)
theorem some_code {l : List Bool} {k : Nat} {sm : Int} (h : SomeOk l k sm) : (sm = -1 ∧ (codeS (lens19 k l) (some 0) = some (lens19 k l) ↔ checkI (natsV (lens19 k l)) = 0 ∧ ∃ x ∈ lens19 k l, 0 < x)) ∨
    ∃ q : Nat, q < 19 ∧ sm = q ∧ (codeS (lens19 k l) (some q) = some (lens19 k l) ↔ checkI (natsV (lens19 k l)) = 0 ∧ ∃ x ∈ lens19 k l, 0 < x) := by
  have key : ∀ q, codeS (lens19 k l) (some q) = some (lens19 k l) ↔ checkI (natsV (lens19 k l)) = 0 ∧ 0 < ((lens19 k l)[q]?).getD 0 := by
    intro q
    unfold codeS
    constructor
    · intro h
      split at h
      · rename_i h2; exact ⟨h2.1, h2.2 q rfl⟩
      · cases h
    · rintro ⟨h1, h2⟩
      rw [if_pos ⟨h1, fun m hm => by cases hm; exact h2⟩]
  rcases h with ⟨h1, h2⟩ | ⟨q, h1, h2, h3⟩
  · refine .inl ⟨h1, ?_⟩
    rw [key]
    constructor
    · rintro ⟨h3, h4⟩
      rw [lens19_at (by omega), Option.getD_some] at h4
      have h5 := h2 _ (List.mem_of_getElem? (lens19_at (k := k) (l := l) (s := 0) (by omega)))
      omega
    · rintro ⟨h3, x, hx, h4⟩
      have := h2 x hx
      omega
  · refine .inr ⟨q, h1, h2, ?_⟩
    rw [key]
    constructor
    · rintro ⟨h4, h5⟩
      rw [lens19_at h1, Option.getD_some] at h5
      exact ⟨h4, _, List.mem_of_getElem? (lens19_at (k := k) (l := l) h1), h5⟩
    · rintro ⟨h4, -⟩
      exact ⟨h4, h3⟩
def ordC : Array Value := #[.int .i64 16, .int .i64 17, .int .i64 18, .int .i64 0, .int .i64 8, .int .i64 7, .int .i64 9, .int .i64 6, .int .i64 10, .int .i64 5, .int .i64 11, .int .i64 4, .int .i64 12, .int .i64 3, .int .i64 13, .int .i64 2, .int .i64 14, .int .i64 1, .int .i64 15]
theorem ordC_at {k x : Nat} (h : ord19[k]? = some x) : ordC[k]? = some (.int .i64 (x : Nat)) := by
  have h1 : ordC = (ord19.map fun n : Nat => Value.int .i64 n).toArray := rfl
  rw [h1, List.getElem?_toArray, List.getElem?_map, h]
  rfl

set_option maxRecDepth 100000 in
set_option maxHeartbeats 2000000 in
theorem codes_stop {w : World} {d total e : Nat} {limit : Int} {s : DS} {c : DC} {l : List Bool} {Rs : List Res} (hS : Sat w (decR d (headV s c) c.win (footV total limit c.ov c.rv e) :: rd c.r l :: Rs)) (hst : s.st = 4) (hl : s.left ≤ 19)
    (h : l.length < 3 * s.left) :
    Calls Try.prog 54 #[.pointer (some ⟨d, 0, none⟩)] w fun e' w' => e' = .returned (.bool false) ∧
      Sat w' (decR d (headV s c) c.win (footV total limit c.ov c.rv e) :: rd c.r l :: Rs) := by
  have q0 : w.cell? ⟨d, 0, none⟩ = some (.pointer (some ⟨c.r, 0, none⟩)) := (dec_h hS 0 _ rfl).1
  have q1 : w.cell? ⟨d, 1, none⟩ = some (.int .i64 4) := by have := (dec_h hS 1 _ rfl).1; rw [hst] at this; exact this
  have q3 : w.cell? ⟨d, 3, none⟩ = some (.int .i64 s.left) := (dec_h hS 3 _ rfl).1
  have Ht := Lib.hid (fun k => have_rd (hS.drewN k).swap)
  have HS := Lib.hid (fun k => hS.drewN k)
  obtain ⟨m3, Hm3⟩ : ∃ m, Hid (3 * s.left = m) := ⟨_, Lib.hid rfl⟩
  have hsum : 3 * (s.left : Int) = (m3 : Int) := by have := Hm3.out; omega
  have hw1 : IntKind.i64.wrap (m3 : Int) = (m3 : Int) := i64_id _ (by have := Hm3.out; omega) (by have := Hm3.out; omega)
  have hd : decide ((l.length : Int) < (m3 : Int)) = true := decide_eq_true (by have := Hm3.out; omega)
  have hd2 : l.length < m3 := by have := Hm3.out; omega
  clear hS h hst
  go_enter Try.func54, Try.ntmps54
  go_wp2_with fail
  go_region_with (go_at_call 50; refine (Ht.out 1).mono ?_; rintro e' w2 ⟨rfl, k2, rfl⟩)
  all_goals
    go_wp2
    go_ret
    exact ⟨rfl, HS.out _⟩

set_option maxRecDepth 100000 in
set_option maxHeartbeats 4000000 in
theorem codes_go {w : World} {d total e : Nat} {limit : Int} {s : DS} {c : DC} {l : List Bool} {Rs : List Res} (hS : Sat w (decR d (headV s c) c.win (footV total limit c.ov c.rv e) :: rd c.r l :: Rs)) (hst : s.st = 4) (hl4 : 4 ≤ s.left) (hl : s.left ≤ 19)
    (h : 3 * s.left ≤ l.length) :
    Calls Try.prog 54 #[.pointer (some ⟨d, 0, none⟩)] w fun e' w' => e' = .returned (.bool true) ∧
      ((checkI (natsV (lens19 s.left l)) = 0 ∧ (∃ x ∈ lens19 s.left l, 0 < x) ∧ ∃ fv, Sat w' (decR d (headV { s with first := some (lens19 s.left l), row := [], st := 5 } { c with rowv := .slice none 0 0, fv := fv }) c.win (footV total limit c.ov c.rv e) :: rd c.r (l.drop (3 * s.left)) ::
        oc fv (some (lens19 s.left l)) :: Rs)) ∨
       (¬ (checkI (natsV (lens19 s.left l)) = 0 ∧ ∃ x ∈ lens19 s.left l, 0 < x) ∧ ∃ h', Sat w' (decR d h' c.win (footV total limit c.ov c.rv 5) :: Rs) ∧ ∃ k : Int, h'[1]? = some (.int .i64 k))) := by
  have q0 : w.cell? ⟨d, 0, none⟩ = some (.pointer (some ⟨c.r, 0, none⟩)) := (dec_h hS 0 _ rfl).1
  have q1 : w.cell? ⟨d, 1, none⟩ = some (.int .i64 4) := by have := (dec_h hS 1 _ rfl).1; rw [hst] at this; exact this
  have q3 : w.cell? ⟨d, 3, none⟩ = some (.int .i64 s.left) := (dec_h hS 3 _ rfl).1
  have Ht := Lib.hid (fun k => have_rd (hS.drewN k).swap)
  have HS := Lib.hid (fun k => hS.drewN k)
  obtain ⟨m3, Hm3⟩ : ∃ m, Hid (3 * s.left = m) := ⟨_, Lib.hid rfl⟩
  have hsum : 3 * (s.left : Int) = (m3 : Int) := by have := Hm3.out; omega
  have hw1 : IntKind.i64.wrap (m3 : Int) = (m3 : Int) := i64_id _ (by have := Hm3.out; omega) (by have := Hm3.out; omega)
  have hd : decide ((l.length : Int) < (m3 : Int)) = false := decide_eq_false (by have := Hm3.out; omega)
  have hd2 : m3 ≤ l.length := by have := Hm3.out; omega
  have H3 := Lib.hid h
  clear hS h
  go_enter Try.func54, Try.ntmps54
  go_wp2_with fail
  go_region_with (go_at_call 50; refine (Ht.out 1).mono ?_; rintro e' w2 ⟨rfl, k2, rfl⟩)
  all_goals
    have hSq := HS.out (1 + k2)
    generalize w.drewN (1 + k2) = W at hSq ⊢
    have p3 : W.cell? ⟨d, 3, none⟩ = some (.int .i64 s.left) := (dec_h hSq 3 _ rfl).1
    have hmk : (Instr.makeSlice 28 (.int .i64 19) (.int .i64 19)).run Try.prog W = .ok (.slice (some ⟨W.heap.size, 0, none⟩) 19 19) (W.alloc (.cells (madeCells #[.int .i64 0] 19) 3)) := make_ints 19 (by omega) W
    have h1 := hSq.sl_made (e := 3) (size := 1) (n := 19) (cap := 19) (cur := madeCells #[.int .i64 0] 19) (xs := (natsV (lens19 0 l)).map intV) (by omega) (by decide) (by simp [natsV, lens19]) (by simp [madeCells]) (fun j u hu => by rw [lens19_zero] at hu; exact madeInts 19 j u (by simpa [natsV] using hu))
    have h2 := h1.alloc (.cells ordC 3)
    unfold ordC at h2
    have p3' := (dec_h (Sat.perm (As := [_, _, _]) h2 [2, 0, 1] [_, _, _] rfl (by simp)) 3 (.int .i64 s.left) rfl).1
    have hlI : (s.left : Int) ≤ 19 := by omega
    have hlI0 : (0 : Int) ≤ (s.left : Int) := by omega
    go_wp2
    have hob : (W.alloc (Obj.cells (madeCells #[Value.int IntKind.i64 0] 19) 3)).heap.size = W.heap.size + 1 := by simp
    rw [hob] at h2
    have h3 := h2.swap
    clear hmk h1 h2 p3 p3' hob q0 q1 q3
    generalize ((W.alloc (Obj.cells (madeCells #[Value.int IntKind.i64 0] 19) 3)).alloc (Obj.cells #[.int .i64 16, .int .i64 17, .int .i64 18, .int .i64 0, .int .i64 8, .int .i64 7, .int .i64 9, .int .i64 6, .int .i64 10, .int .i64 5, .int .i64 11, .int .i64 4, .int .i64 12, .int .i64 3, .int .i64 13, .int .i64 2, .int .i64 14, .int .i64 1, .int .i64 15] 3)) = W2 at h3 ⊢
    generalize W.heap.size + 1 = ob at h3 ⊢
    generalize W.heap.size = lb at h3 ⊢
    go_loopg [6, 87] 20 (fun g a z wr => ∃ (k : Nat) (sm : Int), g + k = 20 ∧ z = .int .i64 (k : Nat) ∧ a = .int .i64 sm ∧ k ≤ s.left ∧ Hid (SomeOk l k sm) ∧
      Sat wr (sl 3 1 19 (.slice (some ⟨lb, 0, none⟩) 19 19) ((natsV (lens19 k l)).map intV) :: blk ob (.cells ordC 3 (0, 0)) :: decR d (headV s c) c.win (footV total limit c.ov c.rv e) :: rd c.r (l.drop (3 * k)) :: Rs))
    case atStart => exact ⟨0, -1, by omega, rfl, rfl, by omega, Lib.hid (some_zero l), h3⟩
    case round =>
      obtain ⟨k, sm, hg, rfl, rfl, hk, HM, hS1⟩ := hrel
      by_cases hkl : k < s.left
      · obtain ⟨x, hx1, hx2, hx3⟩ := ord19_at k (by omega)
        have qo : wr.cell? ⟨ob, k, none⟩ = some (.int .i64 x) := by rw [cell_of_row wr ob k _ _ _ hS1.swap.heap]; exact ordC_at hx1
        have q0 : wr.cell? ⟨d, 0, none⟩ = some (.pointer (some ⟨c.r, 0, none⟩)) := (dec_h (Sat.perm (As := [_, _, _]) hS1 [2, 0, 1] [_, _, _] rfl (by simp)) 0 _ rfl).1
        have ht := take_rd (Sat.perm (As := [_, _, _, _]) hS1 [3, 0, 1, 2] [_, _, _, _] rfl (by simp)) 3 (by omega) (by rw [List.length_drop]; have := H3.out; omega)
        obtain ⟨y, Hy⟩ : ∃ y, Hid (num ((l.drop (3 * k)).take 3) = y) := ⟨_, Lib.hid rfl⟩
        rw [Hy.out] at ht
        have Ht3 := Lib.hid ht
        obtain ⟨u, Hu⟩ : ∃ u, Hid (((natsV (lens19 k l)).map intV)[x]? = some u) := ⟨_, Lib.hid (List.getElem?_eq_getElem (by unfold natsV; simp [lens19_length]; exact hx2))⟩
        have hxl : x < ((natsV (lens19 k l)).map intV).length := by unfold natsV; simp [lens19_length]; exact hx2
        have Hxl := Lib.hid hxl
        have Hk : Hid (k < 19 ∧ x < 19 ∧ ord19.idxOf x = k ∧ gk + k = 20 ∧ k < s.left) := ⟨by omega, hx2, hx3, hg, hkl⟩
        have hxI : (x : Int) < 19 := by omega
        have hkI : (k : Int) < (s.left : Int) := by omega
        have HL := Lib.hid (lens19_succ (l := l) (by omega : k < 19) hx2 hx3)
        clear ht hS1 hxl hx1 hx3 hg hk h3
        rcases Nat.eq_zero_or_pos y with rfl | hy
        · go_wp2_with (go_at_call 48; refine Ht3.out.mono ?_; rintro e' w3 ⟨rfl, hS3⟩; have hS4 := Sat.perm (As := [_, _, _, _]) hS3 [1, 2, 3, 0] [_, _, _, _] rfl (by simp); have g1 := slr_cell hS4.sl_read Hu.out; rw [Nat.zero_add] at g1; have g2 := sl_frozen hS4 (by omega) x; rw [Nat.zero_add] at g2; have hS5 := hS4.sl_set x Hxl.out (.int .i64 (0 : Nat)); rw [Nat.zero_add] at hS5; have H5 := Lib.hid hS5; clear hS3 hS4 hS5)
          go_roundg (gk - 1)
          case measure => have := Hk.out; omega
          case rel =>
            refine ⟨k + 1, sm, by have := Hk.out; omega, by rw [Int.natCast_add]; rfl, rfl, by have := Hk.out; omega, Lib.hid (some_nil HM.out Hk.out.1 Hk.out.2.1 Hk.out.2.2.1 Hy.out), ?_⟩
            rw [HL.out, Hy.out, ← natsV_set, show 3 * (k + 1) = 3 * k + 3 by omega, ← List.drop_drop]
            exact H5.out
        · have hyI : (0 : Int) < (y : Int) := by omega
          go_wp2_with (go_at_call 48; refine Ht3.out.mono ?_; rintro e' w3 ⟨rfl, hS3⟩; have hS4 := Sat.perm (As := [_, _, _, _]) hS3 [1, 2, 3, 0] [_, _, _, _] rfl (by simp); have g1 := slr_cell hS4.sl_read Hu.out; rw [Nat.zero_add] at g1; have g2 := sl_frozen hS4 (by omega) x; rw [Nat.zero_add] at g2; have hS5 := hS4.sl_set x Hxl.out (.int .i64 (y : Nat)); rw [Nat.zero_add] at hS5; have H5 := Lib.hid hS5; clear hS3 hS4 hS5)
          go_roundg (gk - 1)
          case measure => have := Hk.out; omega
          case rel =>
            refine ⟨k + 1, x, by have := Hk.out; omega, by rw [Int.natCast_add]; rfl, rfl, by have := Hk.out; omega, Lib.hid (some_pos (sm := 0) Hk.out.1 Hk.out.2.1 Hk.out.2.2.1 (by rw [Hy.out]; exact hy)), ?_⟩
            rw [HL.out, Hy.out, ← natsV_set, show 3 * (k + 1) = 3 * k + 3 by omega, ← List.drop_drop]
            exact H5.out
      · have hke : k = s.left := by omega
        subst hke
        have hex := some_code HM.out
        have Hst := Lib.hid hst
        have hiv : ∀ w', Sat w' (sl 3 1 19 (.slice (some ⟨lb, 0, none⟩) 19 19) ((natsV (lens19 s.left l)).map intV) :: blk ob (.cells ordC 3 (0, 0)) :: rd c.r (l.drop (3 * s.left)) :: Rs) → IntsR w' (.slice (some ⟨lb, 0, none⟩) 19 19) (natsV (lens19 s.left l)) := by
          intro w' h'
          have h9 : (natsV (lens19 s.left l)).length = 19 := by unfold natsV; simp [lens19_length]
          unfold IntsR
          rw [h9]
          exact h'.sl_read
        have hcode := fun q hq => code_d2 (Sat.perm (As := [_, _, _, _]) hS1 [2, 0, 1, 3] [_, _, _, _] rfl (by simp)) (.slice (some ⟨lb, 0, none⟩) 19 19) (lens19 s.left l) (q : Nat) (some q) hiv (.inr ⟨q, rfl, rfl, by rw [lens19_length]; exact hq⟩)
        rcases hex with ⟨rfl, hex⟩ | ⟨q, hq, rfl, hex⟩
        · have Hc := Lib.hid (hcode 0 (by omega))
          have Hex := Lib.hid hex
          clear hcode hiv hex hS1 hst hg hk hkl h3
          go_wp2_with (go_at_call 87; refine Hc.out.mono ?_; rintro e' w3 ⟨p, e2, R2, rfl, hS4, hQ⟩; have p1 : w3.cell? ⟨d, 1, none⟩ = some (.int .i64 4) := (by have := (dec_h hS4 1 _ rfl).1; rw [Hst.out] at this; exact this); have f1 : w3.frozen? ⟨d, 1, none⟩ = false := (dec_h hS4 1 _ rfl).2; have p9 : w3.cell? ⟨d, 9, none⟩ = some c.rowv := (dec_h hS4 9 _ rfl).1; have f9 : w3.frozen? ⟨d, 9, none⟩ = false := (dec_h hS4 9 _ rfl).2; have p10 : w3.cell? ⟨d, 10, none⟩ = some c.fv := (dec_h hS4 10 _ rfl).1; have f10 : w3.frozen? ⟨d, 10, none⟩ = false := (dec_h hS4 10 _ rfl).2; have H := Lib.hid (dec_set_h (dec_set_h (dec_set_h hS4 10 (by omega) (.pointer p)) 9 (by omega) (.slice none 0 0)) 1 (by omega) (.int .i64 5)); have HQ := Lib.hid hQ; clear hS4 hQ)
          go_ret
          refine ⟨rfl, ?_⟩
          rcases HQ.out with ⟨hcs, cc, rfl, hft, hle, rfl, rfl⟩ | ⟨hcs, rfl, rfl, rfl⟩
          · obtain ⟨hc1, hc2⟩ := Hex.out.1 hcs
            refine .inl ⟨hc1, hc2, .pointer (some ⟨cc, 0, none⟩), ?_⟩
            exact Sat.perm (As := [_, _, _]) (oc_some (Sat.perm (As := [_, _, _, _, _]) H.out [1, 0, 4] [_, _, _] rfl (by simp)) hft hle) [1, 2, 0] [_, _, _] rfl (by simp)
          · refine .inr ⟨fun h => ?_, _, Sat.perm (As := [_, _, _, _]) H.out [0] [_] rfl (by simp), _, rfl⟩
            have := Hex.out.2 h
            rw [hcs] at this
            cases this
        · have Hc := Lib.hid (hcode q hq)
          have Hex := Lib.hid hex
          clear hcode hiv hex hS1 hst hg hk hkl h3
          go_wp2_with (go_at_call 87; refine Hc.out.mono ?_; rintro e' w3 ⟨p, e2, R2, rfl, hS4, hQ⟩; have p1 : w3.cell? ⟨d, 1, none⟩ = some (.int .i64 4) := (by have := (dec_h hS4 1 _ rfl).1; rw [Hst.out] at this; exact this); have f1 : w3.frozen? ⟨d, 1, none⟩ = false := (dec_h hS4 1 _ rfl).2; have p9 : w3.cell? ⟨d, 9, none⟩ = some c.rowv := (dec_h hS4 9 _ rfl).1; have f9 : w3.frozen? ⟨d, 9, none⟩ = false := (dec_h hS4 9 _ rfl).2; have p10 : w3.cell? ⟨d, 10, none⟩ = some c.fv := (dec_h hS4 10 _ rfl).1; have f10 : w3.frozen? ⟨d, 10, none⟩ = false := (dec_h hS4 10 _ rfl).2; have H := Lib.hid (dec_set_h (dec_set_h (dec_set_h hS4 10 (by omega) (.pointer p)) 9 (by omega) (.slice none 0 0)) 1 (by omega) (.int .i64 5)); have HQ := Lib.hid hQ; clear hS4 hQ)
          go_ret
          refine ⟨rfl, ?_⟩
          rcases HQ.out with ⟨hcs, cc, rfl, hft, hle, rfl, rfl⟩ | ⟨hcs, rfl, rfl, rfl⟩
          · obtain ⟨hc1, hc2⟩ := Hex.out.1 hcs
            refine .inl ⟨hc1, hc2, .pointer (some ⟨cc, 0, none⟩), ?_⟩
            exact Sat.perm (As := [_, _, _]) (oc_some (Sat.perm (As := [_, _, _, _, _]) H.out [1, 0, 4] [_, _, _] rfl (by simp)) hft hle) [1, 2, 0] [_, _, _] rfl (by simp)
          · refine .inr ⟨fun h => ?_, _, Sat.perm (As := [_, _, _, _]) H.out [0] [_] rfl (by simp), _, rfl⟩
            have := Hex.out.2 h
            rw [hcs] at this
            cases this

end Go.Proofs.Ytdpocnkeokplpaa

namespace Go.Proofs.Ytdpocnkeokplpaa
open Go.RowKit Go.Hal
set_option linter.unusedVariables false
set_option linter.unusedSimpArgs false

theorem slr_take {w : World} {e : TypeId} {n b o cap : Nat} {xs : List Value} (h : SlR w e 1 n (.slice (some ⟨b, o, none⟩) n cap) xs) (m : Nat) (hm : m ≤ n) : SlR w e 1 m (.slice (some ⟨b, o, none⟩) m cap) (xs.take m) := by
  obtain ⟨ao, cap', heq, k1, k2, k3, k4⟩ := h
  simp only [Value.slice.injEq, true_and] at heq
  obtain ⟨rfl, rfl⟩ := heq
  refine ⟨_, _, rfl, by omega, k2, by rw [List.length_take]; omega, fun h0 => ?_⟩
  obtain ⟨b', o', he, hb, hc⟩ := k4 (by omega)
  refine ⟨b', o', he, hb, fun j u hu => hc j u ?_⟩
  rw [List.getElem?_take] at hu
  split at hu
  · exact hu
  · cases hu
theorem slr_drop {w : World} {e : TypeId} {n b o cap : Nat} {xs : List Value} (h : SlR w e 1 n (.slice (some ⟨b, o, none⟩) n cap) xs) (m : Nat) (hm : m ≤ n) : SlR w e 1 (n - m) (.slice (if cap = m then some ⟨b, o, none⟩ else some ⟨b, o + m, none⟩) (n - m) (cap - m)) (xs.drop m) := by
  obtain ⟨ao, cap', heq, k1, k2, k3, k4⟩ := h
  simp only [Value.slice.injEq, true_and] at heq
  obtain ⟨rfl, rfl⟩ := heq
  refine ⟨_, _, rfl, by omega, by omega, by rw [List.length_drop]; omega, fun h0 => ?_⟩
  obtain ⟨b', o', he, hb, hc⟩ := k4 (by omega)
  simp only [Option.some.injEq, Addr.mk.injEq, and_true] at he
  obtain ⟨rfl, rfl⟩ := he
  refine ⟨b, o + m, if_neg (by omega), hb, fun j u hu => ?_⟩
  rw [List.getElem?_drop] at hu
  have := hc _ u hu
  rw [← Nat.add_assoc] at this
  exact this

theorem codeQ_rest {L : List Nat} {k : Option Nat} {Rs : List Res} {e : Nat} {p : Option Addr} {e2 : Nat} {R2 : List Res} (h : CodeQ L k Rs e p e2 R2) (w' : World) (hS : Sat w' R2) : Sat w' Rs := by
  rcases h with ⟨-, c, -, -, -, -, rfl⟩ | ⟨-, -, -, rfl⟩
  · exact hS.tail
  · exact hS

set_option maxRecDepth 100000 in
set_option maxHeartbeats 4000000 in
theorem full_go {w : World} {d total : Nat} {limit : Int} {s : DS} {c : DC} {Rs : List Res} (hS : Sat w (decR d (headV s c) c.win (footV total limit c.ov c.rv 0) :: sl 3 1 s.row.length c.rowv ((natsV s.row).map intV) :: Rs)) (hst : s.st = 5)
    (hf : s.row.length = s.lits + s.dists) (h257 : 257 ≤ s.lits) (hd1 : 1 ≤ s.dists) (hl : s.lits ≤ 286) (hl2 : s.dists ≤ 30) :
    Calls Try.prog 54 #[.pointer (some ⟨d, 0, none⟩)] w fun e' w' => e' = .returned (.bool true) ∧
      ((∃ lv wv, codeS (s.row.take s.lits) (some 256) = some (s.row.take s.lits) ∧ codeS (s.row.drop s.lits) none = some (s.row.drop s.lits) ∧
        Sat w' (decR d (headV { s with lit := some (s.row.take s.lits), way := some (s.row.drop s.lits), st := 7 } { c with lv := lv, wv := wv }) c.win (footV total limit c.ov c.rv 0) :: sl 3 1 s.row.length c.rowv ((natsV s.row).map intV) ::
          oc lv (some (s.row.take s.lits)) :: oc wv (some (s.row.drop s.lits)) :: Rs)) ∨
       (¬ (codeS (s.row.take s.lits) (some 256) = some (s.row.take s.lits) ∧ codeS (s.row.drop s.lits) none = some (s.row.drop s.lits)) ∧ ∃ h', Sat w' (decR d h' c.win (footV total limit c.ov c.rv 5) :: Rs) ∧ ∃ k : Int, h'[1]? = some (.int .i64 k))) := by
  obtain ⟨b, o, cap, hv, hcap, hcm, -, -, -⟩ := hS.swap.sl_cells (by omega)
  have q1 : w.cell? ⟨d, 1, none⟩ = some (.int .i64 5) := by have := (dec_h hS 1 _ rfl).1; rw [hst] at this; exact this
  have q7 : w.cell? ⟨d, 7, none⟩ = some (.int .i64 s.lits) := (dec_h hS 7 _ rfl).1
  have q8 : w.cell? ⟨d, 8, none⟩ = some (.int .i64 s.dists) := (dec_h hS 8 _ rfl).1
  have q9 : w.cell? ⟨d, 9, none⟩ = some (.slice (some ⟨b, o, none⟩) s.row.length cap) := by have := (dec_h hS 9 _ rfl).1; rw [hv] at this; exact this
  have hsum : (s.lits : Int) + (s.dists : Int) = (s.row.length : Int) := by omega
  have Hst := Lib.hid hst
  have hlI : (s.lits : Int) ≤ 286 := by omega
  have hlr : s.lits ≤ s.row.length := by omega
  have hlc : s.lits ≤ cap := by omega
  have hcl : ¬ cap = s.lits := by omega
  have Hf := Lib.hid hf
  have hSd := hS.drew
  unfold maxLen at hcm
  have hrl : s.row.length ≤ 316 := by omega
  clear hf hS hst
  go_enter Try.func54, Try.ntmps54
  go_wp2
  go_region
  go_wp2_with fail
  generalize w.drew = W at hSd ⊢
  have hS1 := hSd.drew
  rw [hv] at hS1
  have hS2 : Sat W.drew (decR d (headV s c) c.win (footV total limit c.ov c.rv 0) :: sl 3 1 s.row.length (.slice (some ⟨b, o, none⟩) s.row.length cap) ((natsV s.row).map intV) :: Rs) := hS1
  have HSf : Hid (∀ (w' : World) (h : List Value) (e2 : Nat) (R2 : List Res), h[9]? = some c.rowv → h[7]? = some (.int .i64 s.lits) → Sat w' (decR d h c.win (footV total limit c.ov c.rv e2) :: R2) → w'.cell? ⟨d, 9, none⟩ = some (.slice (some ⟨b, o, none⟩) s.row.length cap) ∧ w'.cell? ⟨d, 7, none⟩ = some (.int .i64 s.lits)) := by
    intro w' h e2 R2 h9 h7 h'
    refine ⟨?_, (dec_h h' 7 _ h7).1⟩
    have := (dec_h h' 9 _ h9).1
    rw [hv] at this
    exact this
  refine wp_region_hz (z := 29) (S := fun w' => w'.cell? ⟨d, 9, none⟩ = some (.slice (some ⟨b, o, none⟩) s.row.length cap) ∧ w'.cell? ⟨d, 7, none⟩ = some (.int .i64 s.lits)) (by kernel_rfl) (HSf.out _ _ _ _ rfl rfl hS2) (fun hHeld => ?_)
  refine wpHz_taken 0 140 ?v1 (by kernel_rfl) (by kernel_rfl) (by kernel_rfl) (by kernel_rfl) (by kernel_rfl) (fun _ _ _ h => h) (by rfl) ?hy1 (by assumption) ?rest1
  case hy1 => intro w hSw; (try dsimp only at hSw); simp only [List.getElem?_toArray, List.getElem?_cons_zero, List.getElem?_cons_succ]; go_simp; (try with_reducible rfl)
  try simp only [Act.put, List.setIfInBounds_toArray, List.set_cons_zero, List.set_cons_succ]
  refine wpHz_taken 1 141 ?v2 (by kernel_rfl) (by kernel_rfl) (by kernel_rfl) (by kernel_rfl) (by kernel_rfl) (fun _ _ _ h => h) (by rfl) ?hy2 (by assumption) ?rest2
  case hy2 => intro w hSw; (try dsimp only at hSw); simp only [List.getElem?_toArray, List.getElem?_cons_zero, List.getElem?_cons_succ]; go_simp; (try with_reducible rfl)
  try simp only [Act.put, List.setIfInBounds_toArray, List.set_cons_zero, List.set_cons_succ]
  refine wpHz_taken 2 142 ?v3 (by kernel_rfl) (by kernel_rfl) (by kernel_rfl) (by kernel_rfl) (by kernel_rfl) (fun _ _ _ h => h) (by rfl) ?hy3 (by assumption) ?rest3
  case hy3 => intro w hSw; (try dsimp only at hSw); simp only [List.getElem?_toArray, List.getElem?_cons_zero, List.getElem?_cons_succ]; go_simp; (try with_reducible rfl)
  try simp only [Act.put, List.setIfInBounds_toArray, List.set_cons_zero, List.set_cons_succ]
  refine wpHz_taken 3 143 ?v4 (by kernel_rfl) (by kernel_rfl) (by kernel_rfl) (by kernel_rfl) (by kernel_rfl) (fun _ _ _ h => h) (by rfl) ?hy4 (by assumption) ?rest4
  case hy4 => intro w hSw; (try dsimp only at hSw); simp only [List.getElem?_toArray, List.getElem?_cons_zero, List.getElem?_cons_succ]; go_simp; (try with_reducible rfl)
  try simp only [Act.put, List.setIfInBounds_toArray, List.set_cons_zero, List.set_cons_succ]
  refine wpHz_taken 4 144 ?v5 (by kernel_rfl) (by kernel_rfl) (by kernel_rfl) (by kernel_rfl) (by kernel_rfl) (fun _ _ _ h => h) (by rfl) ?hy5 (by assumption) ?rest5
  case hy5 => intro w hSw; (try dsimp only at hSw); simp only [List.getElem?_toArray, List.getElem?_cons_zero, List.getElem?_cons_succ]; go_simp; (try with_reducible rfl)
  try simp only [Act.put, List.setIfInBounds_toArray, List.set_cons_zero, List.set_cons_succ]
  refine wpHz_taken 5 145 ?v6 (by kernel_rfl) (by kernel_rfl) (by kernel_rfl) (by kernel_rfl) (by kernel_rfl) (fun _ _ _ h => h) (by rfl) ?hy6 (by assumption) ?rest6
  case hy6 => intro w hSw; (try dsimp only at hSw); simp only [List.getElem?_toArray, List.getElem?_cons_zero, List.getElem?_cons_succ]; go_simp; (try with_reducible rfl)
  try simp only [Act.put, List.setIfInBounds_toArray, List.set_cons_zero, List.set_cons_succ]
  refine wpHz_taken 6 146 ?v7 (by kernel_rfl) (by kernel_rfl) (by kernel_rfl) (by kernel_rfl) (by kernel_rfl) (fun _ _ _ h => h) (by rfl) ?hy7 (by assumption) ?rest7
  case hy7 => intro w hSw; (try dsimp only at hSw); simp only [List.getElem?_toArray, List.getElem?_cons_zero, List.getElem?_cons_succ]; go_simp; (try with_reducible rfl)
  try simp only [Act.put, List.setIfInBounds_toArray, List.set_cons_zero, List.set_cons_succ]
  refine wpHz_taken 7 147 ?v8 (by kernel_rfl) (by kernel_rfl) (by kernel_rfl) (by kernel_rfl) (by kernel_rfl) (fun _ _ _ h => h) (by rfl) ?hy8 (by assumption) ?rest8
  case hy8 => intro w hSw; (try dsimp only at hSw); simp only [List.getElem?_toArray, List.getElem?_cons_zero, List.getElem?_cons_succ]; go_simp; (try with_reducible rfl)
  try simp only [Act.put, List.setIfInBounds_toArray, List.set_cons_zero, List.set_cons_succ]
  refine wpHz_taken 8 148 ?v9 (by kernel_rfl) (by kernel_rfl) (by kernel_rfl) (by kernel_rfl) (by kernel_rfl) (fun _ _ _ h => h) (by rfl) ?hy9 (by assumption) ?rest9
  case hy9 => intro w hSw; (try dsimp only at hSw); simp only [List.getElem?_toArray, List.getElem?_cons_zero, List.getElem?_cons_succ]; go_simp; (try with_reducible rfl)
  try simp only [Act.put, List.setIfInBounds_toArray, List.set_cons_zero, List.set_cons_succ]
  refine wpHz_taken 9 149 ?v10 (by kernel_rfl) (by kernel_rfl) (by kernel_rfl) (by kernel_rfl) (by kernel_rfl) (fun _ _ _ h => h) (by rfl) ?hy10 (by assumption) ?rest10
  case hy10 => intro w hSw; (try dsimp only at hSw); simp only [List.getElem?_toArray, List.getElem?_cons_zero, List.getElem?_cons_succ]; go_simp; (try with_reducible rfl)
  try simp only [Act.put, List.setIfInBounds_toArray, List.set_cons_zero, List.set_cons_succ]
  refine wpHz_taken 10 150 ?v11 (by kernel_rfl) (by kernel_rfl) (by kernel_rfl) (by kernel_rfl) (by kernel_rfl) (fun _ _ _ h => h) (by rfl) ?hy11 (by assumption) ?rest11
  case hy11 => intro w hSw; (try dsimp only at hSw); simp only [List.getElem?_toArray, List.getElem?_cons_zero, List.getElem?_cons_succ]; go_simp; (try with_reducible rfl)
  try simp only [Act.put, List.setIfInBounds_toArray, List.set_cons_zero, List.set_cons_succ]
  refine wpHz_taken 11 151 ?v12 (by kernel_rfl) (by kernel_rfl) (by kernel_rfl) (by kernel_rfl) (by kernel_rfl) (fun _ _ _ h => h) (by rfl) ?hy12 (by assumption) ?rest12
  case hy12 => intro w hSw; (try dsimp only at hSw); simp only [List.getElem?_toArray, List.getElem?_cons_zero, List.getElem?_cons_succ]; go_simp; (try with_reducible rfl)
  try simp only [Act.put, List.setIfInBounds_toArray, List.set_cons_zero, List.set_cons_succ]
  refine wpHz_taken 13 153 ?v13 (by kernel_rfl) (by kernel_rfl) (by kernel_rfl) (by kernel_rfl) (by kernel_rfl) (fun _ _ _ h => h) (by rfl) ?hy13 (by assumption) ?rest13
  case hy13 => intro w hSw; (try dsimp only at hSw); simp only [List.getElem?_toArray, List.getElem?_cons_zero, List.getElem?_cons_succ]; go_simp; (try with_reducible rfl)
  try simp only [Act.put, List.setIfInBounds_toArray, List.set_cons_zero, List.set_cons_succ]
  refine wpHz_taken 14 154 ?v14 (by kernel_rfl) (by kernel_rfl) (by kernel_rfl) (by kernel_rfl) (by kernel_rfl) (fun _ _ _ h => h) (by rfl) ?hy14 (by assumption) ?rest14
  case hy14 => intro w hSw; (try dsimp only at hSw); simp only [List.getElem?_toArray, List.getElem?_cons_zero, List.getElem?_cons_succ]; go_simp; (try with_reducible rfl)
  try simp only [Act.put, List.setIfInBounds_toArray, List.set_cons_zero, List.set_cons_succ]
  refine wpHz_taken 15 155 ?v15 (by kernel_rfl) (by kernel_rfl) (by kernel_rfl) (by kernel_rfl) (by kernel_rfl) (fun _ _ _ h => h) (by rfl) ?hy15 (by assumption) ?rest15
  case hy15 => intro w hSw; (try dsimp only at hSw); simp only [List.getElem?_toArray, List.getElem?_cons_zero, List.getElem?_cons_succ]; go_simp; (try with_reducible rfl)
  try simp only [Act.put, List.setIfInBounds_toArray, List.set_cons_zero, List.set_cons_succ]
  refine wpHz_taken 16 156 ?v16 (by kernel_rfl) (by kernel_rfl) (by kernel_rfl) (by kernel_rfl) (by kernel_rfl) (fun _ _ _ h => h) (by rfl) ?hy16 (by assumption) ?rest16
  case hy16 => intro w hSw; (try dsimp only at hSw); simp only [List.getElem?_toArray, List.getElem?_cons_zero, List.getElem?_cons_succ]; go_simp; (try with_reducible rfl)
  try simp only [Act.put, List.setIfInBounds_toArray, List.set_cons_zero, List.set_cons_succ]
  refine wpHz_taken 17 157 ?v17 (by kernel_rfl) (by kernel_rfl) (by kernel_rfl) (by kernel_rfl) (by kernel_rfl) (fun _ _ _ h => h) (by rfl) ?hy17 (by assumption) ?rest17
  case hy17 => intro w hSw; (try dsimp only at hSw); simp only [List.getElem?_toArray, List.getElem?_cons_zero, List.getElem?_cons_succ]; go_simp; (try with_reducible rfl)
  try simp only [Act.put, List.setIfInBounds_toArray, List.set_cons_zero, List.set_cons_succ]
  refine wpHz_taken 18 158 ?v18 (by kernel_rfl) (by kernel_rfl) (by kernel_rfl) (by kernel_rfl) (by kernel_rfl) (fun _ _ _ h => h) (by rfl) ?hy18 (by assumption) ?rest18
  case hy18 => intro w hSw; (try dsimp only at hSw); simp only [List.getElem?_toArray, List.getElem?_cons_zero, List.getElem?_cons_succ]; go_simp; (try with_reducible rfl)
  try simp only [Act.put, List.setIfInBounds_toArray, List.set_cons_zero, List.set_cons_succ]
  refine wpHz_taken 19 159 ?v19 (by kernel_rfl) (by kernel_rfl) (by kernel_rfl) (by kernel_rfl) (by kernel_rfl) (fun _ _ _ h => h) (by rfl) ?hy19 (by assumption) ?rest19
  case hy19 => intro w hSw; (try dsimp only at hSw); simp only [List.getElem?_toArray, List.getElem?_cons_zero, List.getElem?_cons_succ]; go_simp; (try with_reducible rfl)
  try simp only [Act.put, List.setIfInBounds_toArray, List.set_cons_zero, List.set_cons_succ]
  refine wpHz_taken 20 160 ?v20 (by kernel_rfl) (by kernel_rfl) (by kernel_rfl) (by kernel_rfl) (by kernel_rfl) (fun _ _ _ h => h) (by rfl) ?hy20 (by assumption) ?rest20
  case hy20 => intro w hSw; (try dsimp only at hSw); simp only [List.getElem?_toArray, List.getElem?_cons_zero, List.getElem?_cons_succ]; go_simp; (try with_reducible rfl)
  try simp only [Act.put, List.setIfInBounds_toArray, List.set_cons_zero, List.set_cons_succ]
  refine wpHz_taken 21 161 ?v21 (by kernel_rfl) (by kernel_rfl) (by kernel_rfl) (by kernel_rfl) (by kernel_rfl) (fun _ _ _ h => h) (by rfl) ?hy21 (by assumption) ?rest21
  case hy21 => intro w hSw; (try dsimp only at hSw); simp only [List.getElem?_toArray, List.getElem?_cons_zero, List.getElem?_cons_succ]; go_simp; (try with_reducible rfl)
  try simp only [Act.put, List.setIfInBounds_toArray, List.set_cons_zero, List.set_cons_succ]
  refine wpHz_taken 22 162 ?v22 (by kernel_rfl) (by kernel_rfl) (by kernel_rfl) (by kernel_rfl) (by kernel_rfl) (fun _ _ _ h => h) (by rfl) ?hy22 (by assumption) ?rest22
  case hy22 => intro w hSw; (try dsimp only at hSw); simp only [List.getElem?_toArray, List.getElem?_cons_zero, List.getElem?_cons_succ]; go_simp; (try with_reducible rfl)
  try simp only [Act.put, List.setIfInBounds_toArray, List.set_cons_zero, List.set_cons_succ]
  refine wpHz_one 12 (by kernel_rfl) (by rfl) (fun K hK => ?_)
  simp only [List.getElem?_toArray, List.getElem?_cons_zero, List.getElem?_cons_succ]
  have hi1 : ∀ w', Sat w' (sl 3 1 s.row.length (.slice (some ⟨b, o, none⟩) s.row.length cap) ((natsV s.row).map intV) :: Rs) → IntsR w' (.slice (some ⟨b, o, none⟩) s.lits cap) (natsV (s.row.take s.lits)) := by
    intro w' h'
    have h9 : (natsV (s.row.take s.lits)).length = s.lits := by unfold natsV; rw [List.length_map, List.length_take]; omega
    have h8 : (natsV (s.row.take s.lits)).map intV = ((natsV s.row).map intV).take s.lits := by unfold natsV; rw [List.map_take, List.map_take]
    unfold IntsR
    rw [h9]
    have := slr_take h'.sl_read s.lits hlr
    rw [← h8] at this
    exact this
  have hi2 : ∀ w', Sat w' (sl 3 1 s.row.length (.slice (some ⟨b, o, none⟩) s.row.length cap) ((natsV s.row).map intV) :: Rs) → IntsR w' (.slice (some ⟨b, o + s.lits, none⟩) (s.row.length - s.lits) (cap - s.lits)) (natsV (s.row.drop s.lits)) := by
    intro w' h'
    have h9 : (natsV (s.row.drop s.lits)).length = s.row.length - s.lits := by unfold natsV; rw [List.length_map, List.length_drop]
    have h8 : (natsV (s.row.drop s.lits)).map intV = ((natsV s.row).map intV).drop s.lits := by unfold natsV; rw [List.map_drop, List.map_drop]
    unfold IntsR
    rw [h9]
    have := slr_drop h'.sl_read s.lits hlr
    rw [← h8, if_neg hcl] at this
    exact this
  have Hc1 := Lib.hid (code_d2 hS2 (.slice (some ⟨b, o, none⟩) s.lits cap) (s.row.take s.lits) 256 (some 256) hi1 (.inr ⟨256, rfl, rfl, by rw [List.length_take]; omega⟩))
  have Hi2 := Lib.hid hi2
  clear hi1 hi2
  go_wp2_with (go_at_call 87; refine Hc1.out.mono ?_; rintro e' w2 ⟨p, e2, R2, rfl, hS3, hQ⟩)
  clear hHeld
  refine hK.out _ _ (fun _ => (HSf.out _ _ _ _ rfl rfl hS3)) (fun hHeld => ?_)
  replace hHeld := hHeld (by decide)
  clear hK K
  try simp only [Act.put, List.setIfInBounds_toArray, List.set_cons_zero, List.set_cons_succ]
  have Hr := Lib.hid (codeQ_rest hQ)
  have Hc2 := Lib.hid (code_d2 hS3 (.slice (some ⟨b, o + s.lits, none⟩) (s.row.length - s.lits) (cap - s.lits)) (s.row.drop s.lits) (-1) none (fun w' h' => Hi2.out w' (Hr.out w' h')) (.inl ⟨rfl, rfl⟩))
  have HQ := Lib.hid hQ
  clear hQ
  refine wpHz_one 23 (by kernel_rfl) (by rfl) (fun K hK => ?_)
  simp only [List.getElem?_toArray, List.getElem?_cons_zero, List.getElem?_cons_succ]
  go_wp2_with (go_at_call 87; refine Hc2.out.mono ?_; rintro e' w3 ⟨p3, e3, R3, rfl, hS4, hQ3⟩)
  clear hHeld
  refine hK.out _ _ (fun _ => (HSf.out _ _ _ _ rfl rfl hS4)) (fun hHeld => ?_)
  replace hHeld := hHeld (by decide)
  clear hK K
  try simp only [Act.put, List.setIfInBounds_toArray, List.set_cons_zero, List.set_cons_succ]
  have HQ3 := Lib.hid hQ3
  have f11 : w3.frozen? ⟨d, 11, none⟩ = false := (dec_h hS4 11 _ rfl).2
  have q11 : w3.cell? ⟨d, 11, none⟩ = some c.lv := (dec_h hS4 11 _ rfl).1
  have f12 : w3.frozen? ⟨d, 12, none⟩ = false := (dec_h hS4 12 _ rfl).2
  have q12 : w3.cell? ⟨d, 12, none⟩ = some c.wv := (dec_h hS4 12 _ rfl).1
  clear hQ3
  refine wpHz_taken 24 164 ?v25 (by kernel_rfl) (by kernel_rfl) (by kernel_rfl) (by kernel_rfl) (by kernel_rfl) (fun _ _ _ h => h) (by rfl) ?hy25 (by assumption) ?rest25
  case hy25 => intro w hSw; (try dsimp only at hSw); simp only [List.getElem?_toArray, List.getElem?_cons_zero, List.getElem?_cons_succ]; go_simp; (try with_reducible rfl)
  try simp only [Act.put, List.setIfInBounds_toArray, List.set_cons_zero, List.set_cons_succ]
  refine wpHz_taken 25 165 ?v26 (by kernel_rfl) (by kernel_rfl) (by kernel_rfl) (by kernel_rfl) (by kernel_rfl) (fun _ _ _ h => h) (by rfl) ?hy26 (by assumption) ?rest26
  case hy26 => intro w hSw; (try dsimp only at hSw); simp only [List.getElem?_toArray, List.getElem?_cons_zero, List.getElem?_cons_succ]; go_simp; (try with_reducible rfl)
  try simp only [Act.put, List.setIfInBounds_toArray, List.set_cons_zero, List.set_cons_succ]
  have g1 : w3.cell? ⟨d, 1, none⟩ = some (.int .i64 5) := by have := (dec_h hS4 1 _ rfl).1; rw [Hst.out] at this; exact this
  have g2 : w3.frozen? ⟨d, 1, none⟩ = false := (dec_h hS4 1 _ rfl).2
  refine wpHz_one 26 (by kernel_rfl) (by rfl) (fun K hK => ?_)
  simp only [List.getElem?_toArray, List.getElem?_cons_zero, List.getElem?_cons_succ]
  go_simp
  have hS5 := dec_set_h hS4 11 (by omega) (.pointer p)
  clear hHeld
  refine hK.out _ _ (fun _ => (HSf.out _ _ _ _ rfl rfl hS5)) (fun hHeld => ?_)
  replace hHeld := hHeld (by decide)
  clear hK K
  try simp only [Act.put, List.setIfInBounds_toArray, List.set_cons_zero, List.set_cons_succ]
  refine wpHz_one 27 (by kernel_rfl) (by rfl) (fun K hK => ?_)
  simp only [List.getElem?_toArray, List.getElem?_cons_zero, List.getElem?_cons_succ]
  go_simp
  clear hHeld
  refine hK.out _ _ (fun _ => (HSf.out _ _ _ _ rfl rfl hS5)) (fun hHeld => ?_)
  replace hHeld := hHeld (by decide)
  clear hK K
  try simp only [Act.put, List.setIfInBounds_toArray, List.set_cons_zero, List.set_cons_succ]
  refine wpHz_one 28 (by kernel_rfl) (by rfl) (fun K hK => ?_)
  simp only [List.getElem?_toArray, List.getElem?_cons_zero, List.getElem?_cons_succ]
  go_simp
  clear hHeld
  refine hK.out _ _ (fun _ => (HSf.out _ _ _ _ rfl rfl hS5)) (fun hHeld => ?_)
  replace hHeld := hHeld (by decide)
  clear hK K
  try simp only [Act.put, List.setIfInBounds_toArray, List.set_cons_zero, List.set_cons_succ]
  refine wpHz_one 29 (by kernel_rfl) (by rfl) (fun K hK => ?_)
  simp only [List.getElem?_toArray, List.getElem?_cons_zero, List.getElem?_cons_succ]
  go_simp
  refine hK.out _ _ (fun h => absurd rfl h) (fun _ => ?_)
  clear hK K
  try simp only [Act.put, List.setIfInBounds_toArray, List.set_cons_zero, List.set_cons_succ]
  refine wpHz_done (by kernel_rfl) ?_ _
  have H := Lib.hid (dec_set_h (dec_set_h hS5 12 (by omega) (.pointer p3)) 1 (by omega) (.int .i64 7))
  clear hS5 hS4 hS3 hS2 hS1 hSd HSf Hc1 Hc2 Hi2 Hr
  go_wp2
  go_ret
  refine ⟨rfl, ?_⟩
  rcases HQ.out with ⟨h1, c1, rfl, hf1, hl1, rfl, rfl⟩ | ⟨h1, rfl, rfl, rfl⟩
  · rcases HQ3.out with ⟨h2, c2, rfl, hf2, hl2, rfl, rfl⟩ | ⟨h2, rfl, rfl, rfl⟩
    · refine .inl ⟨.pointer (some ⟨c1, 0, none⟩), .pointer (some ⟨c2, 0, none⟩), h1, h2, ?_⟩
      have a1 := oc_some (Sat.perm (As := [_, _, _, _]) H.out [1, 0, 2, 3] [_, _, _, _] rfl (by simp)) hf2 hl2
      have a2 := oc_some (Sat.perm (As := [_, _, _, _]) a1 [2, 0, 1, 3] [_, _, _, _] rfl (by simp)) hf1 hl1
      rw [← hv] at a2
      exact Sat.perm (As := [_, _, _, _]) a2 [2, 3, 0, 1] [_, _, _, _] rfl (by simp)
    · refine .inr ⟨fun h => ?_, _, Sat.perm (As := [_, _, _]) H.out [0] [_] rfl (by simp), _, rfl⟩
      have := h.2
      rw [h2] at this
      cases this
  · have hno : ¬ (codeS (s.row.take s.lits) (some 256) = some (s.row.take s.lits) ∧ codeS (s.row.drop s.lits) none = some (s.row.drop s.lits)) := fun h => by
      have := h.1
      rw [h1] at this
      cases this
    rcases HQ3.out with ⟨h2, c2, rfl, hf2, hl2, rfl, rfl⟩ | ⟨h2, rfl, rfl, rfl⟩
    · exact .inr ⟨hno, _, Sat.perm (As := [_, _, _]) H.out [0] [_] rfl (by simp), _, rfl⟩
    · exact .inr ⟨hno, _, Sat.perm (As := [_, _]) H.out [0] [_] rfl (by simp), _, rfl⟩

end Go.Proofs.Ytdpocnkeokplpaa
