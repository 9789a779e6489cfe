/- inflate.Decoder: what lies in memory. inflate.New. inflate.Decoder: tell, close, word. inflate.Decoder: codes that may be nil, word, close, code. inflate.Decoder: the whole of it; code. -/
import Derived.Test.YtdpocnkeokplpaaQg
import Derived.OwnWalk
import Derived.Test.YtdpocnkeokplpaaQh
namespace Go.Proofs.Ytdpocnkeokplpaa
open Go.RowKit Go.Hal
set_option linter.unusedVariables false
set_option linter.unusedSimpArgs false

def isZ : Value → Bool
  | .int .u8 0 => true
  | _ => false
theorem isZ_eq {v : Value} (h : isZ v = true) : v = .int .u8 0 := by
  unfold isZ at h
  split at h
  · rfl
  · cases h
def headZ : List Value → Bool
  | [.pointer none, .int .i64 0, .bool false, .int .i64 0, .int .i64 0, .int .i64 0, .int .i64 0, .int .i64 0, .int .i64 0, .slice none 0 0, .pointer none, .pointer none, .pointer none] => true
  | _ => false
def footZ : List Value → Bool
  | [.int .i64 0, .int .i64 0, .slice none 0 0, .slice none 0 0, .int .i64 0] => true
  | _ => false
theorem headZ_eq {l : List Value} (h : headZ l = true) : l = [.pointer none, .int .i64 0, .bool false, .int .i64 0, .int .i64 0, .int .i64 0, .int .i64 0, .int .i64 0, .int .i64 0, .slice none 0 0, .pointer none, .pointer none, .pointer none] := by
  unfold headZ at h
  split at h
  · rfl
  · cases h
theorem footZ_eq {l : List Value} (h : footZ l = true) : l = [.int .i64 0, .int .i64 0, .slice none 0 0, .slice none 0 0, .int .i64 0] := by
  unfold footZ at h
  split at h
  · rfl
  · cases h
theorem all_take {l : List Value} {p : Value → Bool} {a n : Nat} (h : ((l.drop a).take n).all p = true) {j : Nat} (hj : j < n) {v : Value} (hv : l[a + j]? = some v) : p v = true := by
  refine List.all_eq_true.1 h _ (List.mem_iff_getElem?.2 ⟨j, ?_⟩)
  rw [List.getElem?_take, if_pos hj, List.getElem?_drop, hv]
/-- The zero decoder: the head, the window, the foot. -/
def zeroOk (z : Array Value) : Bool :=
  z.size == 32786 && headZ (z.toList.take 13) && ((z.toList.drop 13).take 32768).all isZ && footZ (z.toList.drop 32781)
set_option maxRecDepth 1000000 in
theorem Try.zeroDec : zeroOk Try.zeroCells80 = true := by kernel_rfl

/-- A decoder's block: its head, its window, its foot. -/
def DecC (C : Array Value) (h : List Value) (win : Nat → Value) (t : List Value) : Prop :=
  C.size = 32786 ∧ (∀ i v, h[i]? = some v → i < 13 ∧ C[i]? = some v) ∧ (∀ j, j < 32768 → C[13 + j]? = some (win j)) ∧ (∀ i v, t[i]? = some v → i < 5 ∧ C[32781 + i]? = some v)
theorem zero_dec : DecC Try.zeroCells80 [.pointer none, .int .i64 0, .bool false, .int .i64 0, .int .i64 0, .int .i64 0, .int .i64 0, .int .i64 0, .int .i64 0, .slice none 0 0, .pointer none, .pointer none, .pointer none] (fun _ => .int .u8 0)
      [.int .i64 0, .int .i64 0, .slice none 0 0, .slice none 0 0, .int .i64 0] := by
  have h2 := Try.zeroDec
  generalize Try.zeroCells80 = z at h2 ⊢
  unfold zeroOk at h2
  simp only [Bool.and_eq_true, beq_iff_eq] at h2
  obtain ⟨⟨⟨a1, a2⟩, a3⟩, a4⟩ := h2
  have b2 := headZ_eq a2
  have b4 := footZ_eq a4
  refine ⟨a1, fun k v hk => ?_, fun j hj => ?_, fun k v hk => ?_⟩
  · rw [← b2, List.getElem?_take] at hk
    split at hk
    · exact ⟨by omega, by rw [Array.getElem?_toList] at hk; exact hk⟩
    · cases hk
  · have hj2 : 13 + j < z.size := by omega
    have h9 : z.toList[13 + j]? = some (z[13 + j]) := by rw [Array.getElem?_toList, Array.getElem?_eq_getElem hj2]
    rw [Array.getElem?_eq_getElem hj2, isZ_eq (all_take a3 hj h9)]
  · rw [← b4, List.getElem?_drop, Array.getElem?_toList] at hk
    have := (Array.getElem?_eq_some_iff.1 hk).1
    exact ⟨by omega, hk⟩

theorem DecC.set_h {C : Array Value} {h : List Value} {win : Nat → Value} {t : List Value} (hC : DecC C h win t) (k : Nat) (hk : k < 13) (v : Value) : DecC (C.setIfInBounds k v) (h.set k v) win t := by
  obtain ⟨h1, h2, h3, h4⟩ := hC
  refine ⟨by simpa using h1, fun i u hi => ?_, fun j hj => ?_, fun i u hi => ?_⟩
  · rw [List.getElem?_set] at hi
    by_cases hki : k = i
    · subst hki
      rw [if_pos rfl] at hi
      split at hi
      · cases hi
        exact ⟨hk, by rw [Array.getElem?_setIfInBounds_self_of_lt (by omega)]⟩
      · cases hi
    · rw [if_neg hki] at hi
      have := h2 i u hi
      exact ⟨this.1, by rw [Array.getElem?_setIfInBounds_ne hki]; exact this.2⟩
  · rw [Array.getElem?_setIfInBounds_ne (by omega)]; exact h3 j hj
  · have := h4 i u hi
    exact ⟨this.1, by rw [Array.getElem?_setIfInBounds_ne (by omega)]; exact this.2⟩
theorem DecC.set_t {C : Array Value} {h : List Value} {win : Nat → Value} {t : List Value} (hC : DecC C h win t) (k : Nat) (hk : k < 5) (v : Value) : DecC (C.setIfInBounds (32781 + k) v) h win (t.set k v) := by
  obtain ⟨h1, h2, h3, h4⟩ := hC
  refine ⟨by simpa using h1, fun i u hi => ?_, fun j hj => ?_, fun i u hi => ?_⟩
  · have := h2 i u hi
    exact ⟨this.1, by rw [Array.getElem?_setIfInBounds_ne (by omega)]; exact this.2⟩
  · rw [Array.getElem?_setIfInBounds_ne (by omega)]; exact h3 j hj
  · rw [List.getElem?_set] at hi
    by_cases hki : k = i
    · subst hki
      rw [if_pos rfl] at hi
      split at hi
      · cases hi
        exact ⟨hk, by rw [Array.getElem?_setIfInBounds_self_of_lt (by omega)]⟩
      · cases hi
    · rw [if_neg hki] at hi
      have := h4 i u hi
      exact ⟨this.1, by rw [Array.getElem?_setIfInBounds_ne (by omega)]; exact this.2⟩
theorem DecC.set_w {C : Array Value} {h : List Value} {win : Nat → Value} {t : List Value} (hC : DecC C h win t) (k : Nat) (hk : k < 32768) (v : Value) : DecC (C.setIfInBounds (13 + k) v) h (fun j => if j = k then v else win j) t := by
  obtain ⟨h1, h2, h3, h4⟩ := hC
  refine ⟨by simpa using h1, fun i u hi => ?_, fun j hj => ?_, fun i u hi => ?_⟩
  · have := h2 i u hi
    exact ⟨this.1, by rw [Array.getElem?_setIfInBounds_ne (by omega)]; exact this.2⟩
  · by_cases hjk : j = k
    · subst hjk
      simp only [if_true]
      rw [Array.getElem?_setIfInBounds_self_of_lt (by omega)]
    · simp only [hjk, if_false]
      rw [Array.getElem?_setIfInBounds_ne (by omega)]; exact h3 j hj
  · have := h4 i u hi
    exact ⟨this.1, by rw [Array.getElem?_setIfInBounds_ne (by omega)]; exact this.2⟩

/-- The resource. -/
def decR (d : Nat) (h : List Value) (win : Nat → Value) (t : List Value) : Res := ex fun C : Array Value => star (blk d (.cells C 80 (0, 0))) (pur (DecC C h win t))
theorem dec_open {w : World} {d : Nat} {h t : List Value} {win : Nat → Value} {Rs : List Res} (hS : Sat w (decR d h win t :: Rs)) : ∃ C, DecC C h win t ∧ Sat w (blk d (.cells C 80 (0, 0)) :: Rs) := by
  obtain ⟨C, hC⟩ := hS.ex_out
  have h2 := hC.star_out
  have h3 := (h2.swap).pur_out
  exact ⟨C, h3.1, h3.2⟩
theorem dec_shut {w : World} {d : Nat} {h t : List Value} {win : Nat → Value} {Rs : List Res} {C : Array Value} (hC : DecC C h win t) (hS : Sat w (blk d (.cells C 80 (0, 0)) :: Rs)) : Sat w (decR d h win t :: Rs) :=
  Sat.ex_in C (Sat.star_in (Sat.swap (Sat.pur_in hC hS)))
theorem dec_h {w : World} {d : Nat} {h t : List Value} {win : Nat → Value} {Rs : List Res} (hS : Sat w (decR d h win t :: Rs)) (i : Nat) (v : Value) (hi : h[i]? = some v) : w.cell? ⟨d, i, none⟩ = some v ∧ w.frozen? ⟨d, i, none⟩ = false := by
  obtain ⟨C, hC, h1⟩ := dec_open hS
  have hb := h1.heap
  exact ⟨by rw [cell_of_row w d i _ _ _ hb]; exact (hC.2.1 i v hi).2, frozen_of_row w d i _ _ hb⟩
theorem dec_t {w : World} {d : Nat} {h t : List Value} {win : Nat → Value} {Rs : List Res} (hS : Sat w (decR d h win t :: Rs)) (i : Nat) (v : Value) (hi : t[i]? = some v) : w.cell? ⟨d, 32781 + i, none⟩ = some v ∧ w.frozen? ⟨d, 32781 + i, none⟩ = false := by
  obtain ⟨C, hC, h1⟩ := dec_open hS
  have hb := h1.heap
  exact ⟨by rw [cell_of_row w d _ _ _ _ hb]; exact (hC.2.2.2 i v hi).2, frozen_of_row w d _ _ _ hb⟩
theorem dec_w {w : World} {d : Nat} {h t : List Value} {win : Nat → Value} {Rs : List Res} (hS : Sat w (decR d h win t :: Rs)) (j : Nat) (hj : j < 32768) : w.cell? ⟨d, 13 + j, none⟩ = some (win j) ∧ w.frozen? ⟨d, 13 + j, none⟩ = false := by
  obtain ⟨C, hC, h1⟩ := dec_open hS
  have hb := h1.heap
  exact ⟨by rw [cell_of_row w d _ _ _ _ hb]; exact hC.2.2.1 j hj, frozen_of_row w d _ _ _ hb⟩
theorem dec_set_h {w : World} {d : Nat} {h t : List Value} {win : Nat → Value} {Rs : List Res} (hS : Sat w (decR d h win t :: Rs)) (k : Nat) (hk : k < 13) (v : Value) : Sat (w.setCell ⟨d, k, none⟩ v) (decR d (h.set k v) win t :: Rs) := by
  obtain ⟨C, hC, h1⟩ := dec_open hS
  exact dec_shut (hC.set_h k hk v) (h1.setCell v)
theorem dec_set_t {w : World} {d : Nat} {h t : List Value} {win : Nat → Value} {Rs : List Res} (hS : Sat w (decR d h win t :: Rs)) (k : Nat) (hk : k < 5) (v : Value) : Sat (w.setCell ⟨d, 32781 + k, none⟩ v) (decR d h win (t.set k v) :: Rs) := by
  obtain ⟨C, hC, h1⟩ := dec_open hS
  exact dec_shut (hC.set_t k hk v) (h1.setCell v)
theorem dec_set_w {w : World} {d : Nat} {h t : List Value} {win : Nat → Value} {Rs : List Res} (hS : Sat w (decR d h win t :: Rs)) (k : Nat) (hk : k < 32768) (v : Value) : Sat (w.setCell ⟨d, 13 + k, none⟩ v) (decR d h (fun j => if j = k then v else win j) t :: Rs) := by
  obtain ⟨C, hC, h1⟩ := dec_open hS
  exact dec_shut (hC.set_w k hk v) (h1.setCell v)

end Go.Proofs.Ytdpocnkeokplpaa

namespace Go.Proofs.Ytdpocnkeokplpaa
open Go.RowKit Go.Hal
set_option linter.unusedVariables false
set_option linter.unusedSimpArgs false

set_option maxHeartbeats 400000 in
theorem infl_new {w : World} {Rs : List Res} (hS : Sat w Rs) (n : Int) :
    Calls Try.prog 18 #[.int .i64 n] w fun e w' => ∃ d r, e = .returned (.pointer (some ⟨d, 0, none⟩)) ∧
      Sat w' (decR d [.pointer (some ⟨r, 0, none⟩), .int .i64 0, .bool false, .int .i64 0, .int .i64 0, .int .i64 0, .int .i64 0, .int .i64 0, .int .i64 0, .slice none 0 0, .pointer none, .pointer none, .pointer none] (fun _ => .int .u8 0)
      [.int .i64 0, .int .i64 n, .slice none 0 0, .slice none 0 0, .int .i64 0] :: rd r [] :: Rs) := by
  have hn := new_rd hS
  go_enter Try.func18, Try.ntmps18
  go_wp2_with (go_at_call 46; refine hn.mono ?_; rintro e w1 ⟨rfl, hS1⟩)
  go_ret
  exact ⟨_, _, rfl, dec_shut ((zero_dec.set_h 0 (by omega) (.pointer (some ⟨w.heap.size, 0, none⟩))).set_t 1 (by omega) (.int .i64 n)) (hS1.alloc _)⟩

end Go.Proofs.Ytdpocnkeokplpaa

namespace Go.Proofs.Ytdpocnkeokplpaa
open Go.RowKit Go.Hal
set_option linter.unusedVariables false
set_option linter.unusedSimpArgs false


def footV (total : Nat) (limit : Int) (ov rv : Value) (e : Nat) : List Value := [.int .i64 total, .int .i64 limit, ov, rv, .int .i64 e]

set_option maxRecDepth 100000 in
set_option maxHeartbeats 1000000 in
theorem tell_no {w : World} {d total e : Nat} {limit : Int} {h : List Value} {win : Nat → Value} {ov rv : Value} {Rs : List Res} (hS : Sat w (decR d h win (footV total limit ov rv e) :: Rs)) (c : UInt8) (hl : limit ≤ total) :
    Calls Try.prog 52 #[.pointer (some ⟨d, 0, none⟩), byteV c] w fun e' w' => e' = .returned (.tuple #[]) ∧ Sat w' (decR d h win (footV total limit ov rv 9) :: Rs) := by
  have q0 : w.cell? ⟨d, 32781, none⟩ = some (.int .i64 total) := (dec_t hS 0 _ rfl).1
  have q1 : w.cell? ⟨d, 32782, none⟩ = some (.int .i64 limit) := (dec_t hS 1 _ rfl).1
  have f4 : w.frozen? ⟨d, 32785, none⟩ = false := (dec_t hS 4 _ rfl).2
  have q4 : w.cell? ⟨d, 32785, none⟩ = some (.int .i64 e) := (dec_t hS 4 _ rfl).1
  have hd : decide (limit ≤ (total : Int)) = true := decide_eq_true hl
  have hSd := fun k => dec_set_t (hS.drewN k) 4 (by omega) (.int .i64 9)
  have HS := Lib.hid hSd
  unfold byteV
  clear hSd hS
  go_enter Try.func52, Try.ntmps52
  go_wp2
  go_quiet (fail)
  go_wp2
  ((try simp only [Exit.inBlock, Exit.then]); refine bodyPost_ret (results_none rfl _ _ _) rfl ?_)
  exact ⟨rfl, HS.out _⟩

set_option maxRecDepth 100000 in
set_option maxHeartbeats 1000000 in
theorem tell_yes {w : World} {d total e : Nat} {limit : Int} {h : List Value} {win : Nat → Value} {ov rv : Value} {out : List UInt8} {Rs : List Res} (hS : Sat w (decR d h win (footV total limit ov rv e) :: sl 5 1 out.length ov (out.map byteV) :: Rs)) (c : UInt8) (hl : (total : Int) < limit)
    (ht : total ≤ 140737488355000) (ho : out.length ≤ total) :
    Calls Try.prog 52 #[.pointer (some ⟨d, 0, none⟩), byteV c] w fun e' w' => e' = .returned (.tuple #[]) ∧ ∃ ov', Sat w' (decR d h (fun j => if j = total % 32768 then byteV c else win j) (footV (total + 1) limit ov' rv e) :: sl 5 1 (out ++ [c]).length ov' ((out ++ [c]).map byteV) :: Rs) := by
  have q0 : w.cell? ⟨d, 32781, none⟩ = some (.int .i64 total) := (dec_t hS 0 _ rfl).1
  have q1 : w.cell? ⟨d, 32782, none⟩ = some (.int .i64 limit) := (dec_t hS 1 _ rfl).1
  have q2 : w.cell? ⟨d, 32783, none⟩ = some ov := (dec_t hS 2 _ rfl).1
  have f0 : w.frozen? ⟨d, 32781, none⟩ = false := (dec_t hS 0 _ rfl).2
  have f2 : w.frozen? ⟨d, 32783, none⟩ = false := (dec_t hS 2 _ rfl).2
  obtain ⟨p, Hp⟩ : ∃ p, Hid (p = total % 32768) := ⟨_, Lib.hid rfl⟩
  have hp : p < 32768 := by rw [Hp.out]; omega
  have fw : w.frozen? ⟨d, 13 + p, none⟩ = false := (dec_w hS p hp).2
  have qw : w.cell? ⟨d, 13 + p, none⟩ = some (win p) := (dec_w hS p hp).1
  have hmod : (total : Int) % 32768 = (p : Int) := by rw [Hp.out]; omega
  have hd : decide (limit ≤ (total : Int)) = false := decide_eq_false (by omega)
  obtain ⟨F, ao, cap, rfl, -, -, -, -⟩ := hS.at_ 1 _ rfl
  have HS := Lib.hid hS
  unfold byteV
  clear hS
  go_enter Try.func52, Try.ntmps52
  go_wp2
  go_quiet (fail)
  go_wp2_with fail
  have HSq := Lib.hid (HS.out.drewN nq)
  have r0 : (w.drewN nq).cell? ⟨d, 32781, none⟩ = some (.int .i64 total) := q0
  have rf : (w.drewN nq).frozen? ⟨d, 13 + p, none⟩ = false := fw
  have rw' : (w.drewN nq).cell? ⟨d, 13 + p, none⟩ = some (win p) := qw
  generalize w.drewN nq = W at HSq r0 rf rw' ⊢
  clear q0 q1 q2 f0 f2 fw qw HS
  go_region
  have HS2 := (dec_set_w HSq.out p hp (.int .u8 c.toNat)).drew
  have s0 : (W.setCell ⟨d, 13 + p, none⟩ (.int .u8 c.toNat)).drew.cell? ⟨d, 32781, none⟩ = some (.int .i64 total) := (dec_t HS2 0 _ rfl).1
  have s1 : (W.setCell ⟨d, 13 + p, none⟩ (.int .u8 c.toNat)).drew.frozen? ⟨d, 32781, none⟩ = false := (dec_t HS2 0 _ rfl).2
  have s2 : (W.setCell ⟨d, 13 + p, none⟩ (.int .u8 c.toNat)).drew.cell? ⟨d, 32783, none⟩ = some (.slice ao out.length cap) := (dec_t HS2 2 _ rfl).1
  generalize (W.setCell ⟨d, 13 + p, none⟩ (.int .u8 c.toNat)).drew = W2 at HS2 s0 s1 s2 ⊢
  clear r0 rf rw' HSq
  have HS3 : Sat (W2.setCell ⟨d, 32781, none⟩ (.int .i64 ((total : Int) + 1))) (decR d h (fun j => if j = p then .int .u8 c.toNat else win j) (footV (total + 1) limit (.slice ao out.length cap) rv e) :: sl 5 1 out.length (.slice ao out.length cap) (out.map byteV) :: Rs) := dec_set_t HS2 0 (by omega) (.int .i64 ((total : Int) + 1))
  have hA := HS3.sl_made (e := 5) (size := 1) (n := 1) (cap := 1) (cur := #[.int .u8 c.toNat]) (xs := [.int .u8 c.toNat]) (by omega) (by decide) rfl (by simp) (fun j u hu => by simpa using hu)
  have hsz : (W2.setCell ⟨d, 32781, none⟩ (.int .i64 ((total : Int) + 1))).heap.size = W2.heap.size := by simp
  rw [hsz] at hA
  have hsrc := SlR.src (P := Try.prog) hA.sl_read Try.underlying22 (by simp [Value.oneCell'])
  have hA2 := Sat.perm (As := [_, _, _]) hA [2, 1] [_, _] rfl (by simp)
  have Hsrc := Lib.hid hsrc
  obtain ⟨i0, hi, hz0, hz1, hz2⟩ := info_parts Try.infoU8
  clear hsrc hA HS3 HS2 hmod hsz
  go_wp2_with (at_builtin; refine wpList_append_sat _ rfl _ _ 22 22 rfl 5 i0 (.int .u8 0) 1 1 Try.underlying22 hi hz0 hz1 hz2 rfl (by decide) _ _ _ _ rfl hA2 1 _ _ rfl Hsrc.out ?_ ?_ ?_)
  · unfold maxLen; omega
  · omega
  · intro v' w' hS7
    have HS8 := hS7.swap
    have t2 : w'.cell? ⟨d, 32783, none⟩ = some (.slice ao out.length cap) := (dec_t HS8 2 _ rfl).1
    have t3 : w'.frozen? ⟨d, 32783, none⟩ = false := (dec_t HS8 2 _ rfl).2
    have HS9 := dec_set_t HS8 2 (by omega) v'
    obtain ⟨F9, ao9, cap9, rfl, -, -, -, -⟩ := HS9.at_ 1 _ rfl
    have H9 := Lib.hid HS9
    clear HS8 HS9 hS7
    go_wp2
    go_end0
    rw [← Hp.out, List.length_append, List.map_append]
    exact ⟨rfl, _, H9.out⟩

end Go.Proofs.Ytdpocnkeokplpaa

namespace Go.Proofs.Ytdpocnkeokplpaa
open Go.RowKit Go.Hal
set_option linter.unusedVariables false
set_option linter.unusedSimpArgs false

/-- A code, or nil. -/
def oc (v : Value) (o : Option (List Nat)) : Res := ex fun c : Nat => match o with
  | none => pur (v = .pointer none)
  | some L => star (code c L) (pur (v = .pointer (some ⟨c, 0, none⟩) ∧ Fits L ∧ L.length ≤ 288))
theorem oc_none {w : World} {Rs : List Res} (hS : Sat w Rs) : Sat w (oc (.pointer none) none :: Rs) := Sat.ex_in 0 (Sat.pur_in rfl hS)
theorem oc_some {w : World} {c : Nat} {L : List Nat} {Rs : List Res} (hS : Sat w (code c L :: Rs)) (hf : Fits L) (hl : L.length ≤ 288) : Sat w (oc (.pointer (some ⟨c, 0, none⟩)) (some L) :: Rs) :=
  Sat.ex_in c (Sat.star_in (Sat.swap (Sat.pur_in ⟨rfl, hf, hl⟩ hS)))
theorem oc_out {w : World} {v : Value} {o : Option (List Nat)} {Rs : List Res} (hS : Sat w (oc v o :: Rs)) :
    (o = none ∧ v = .pointer none ∧ Sat w Rs) ∨ ∃ c L, o = some L ∧ v = .pointer (some ⟨c, 0, none⟩) ∧ Fits L ∧ L.length ≤ 288 ∧ Sat w (code c L :: Rs) := by
  obtain ⟨c, h⟩ := hS.ex_out
  cases o with
  | none =>
    have h2 := Sat.pur_out h
    exact .inl ⟨rfl, h2.1, h2.2⟩
  | some L =>
    have h2 := (Sat.swap (Sat.star_out h)).pur_out
    exact .inr ⟨c, L, rfl, h2.1.1, h2.1.2.1, h2.1.2.2, h2.2⟩

set_option maxHeartbeats 400000 in
theorem next_nil_rd {w : World} {r : Nat} {l : List Bool} {Rs : List Res} (hS : Sat w (rd r l :: Rs)) :
    Calls Try.prog 89 #[.pointer none, .pointer (some ⟨r, 0, none⟩)] w fun e w' => e = .returned (.tuple #[.int .i64 0, .int .i64 ((decO none l).2.1 : Nat)]) ∧ Sat w' (rd r l :: Rs) := by
  have h0 := hS.alloc_drop (.cells #[.int .i64 0, .int .i64 0] 153)
  have hc : ∃ b : Bool, (((l.length : Nat) : Int) == 0) = b ∧ (decO none l).2.1 = if b then 2 else 6 := by
    refine ⟨_, rfl, ?_⟩
    unfold decO
    by_cases h : l.length = 0
    · simp [h]
    · rw [if_neg h, beq_eq_false_iff_ne.2 (by omega : ((l.length : Nat) : Int) ≠ 0)]; rfl
  obtain ⟨b, hz, hd⟩ := hc
  have Hd := Lib.hid hd
  clear hd hS
  cases b
  all_goals
    go_enter Try.func89, Try.ntmps89
    go_wp2
    refine wp_loop_rounds 1 ?_
    rw [rounds_succ]
    go_wp2_with (go_at_call 50; refine (have_rd h0).mono ?_; rintro e w2 ⟨rfl, k, rfl⟩)
    go_ret2
    rw [Hd.out]
    exact ⟨rfl, h0.drewN k⟩

theorem next_o {w : World} {r : Nat} {l : List Bool} {v : Value} {o : Option (List Nat)} {Rs : List Res} (hS : Sat w (rd r l :: oc v o :: Rs)) :
    Calls Try.prog 89 #[v, .pointer (some ⟨r, 0, none⟩)] w fun e w' => e = .returned (.tuple #[.int .i64 ((decO o l).1 : Nat), .int .i64 ((decO o l).2.1 : Nat)]) ∧ Sat w' (rd r (l.drop (decO o l).2.2) :: oc v o :: Rs) := by
  rcases oc_out hS.swap with ⟨rfl, rfl, h⟩ | ⟨c, L, rfl, rfl, hf, hl, h⟩
  · refine (next_nil_rd h).mono ?_
    rintro e w' ⟨rfl, h'⟩
    exact ⟨rfl, (oc_none h').swap⟩
  · rw [show decO (some L) l = decL L l from rfl]
    refine (next_ok h.swap hf).mono ?_
    rintro e w' ⟨rfl, h'⟩
    exact ⟨rfl, (oc_some h'.swap hf hl).swap⟩

/-- The decoder's error behind a word. -/
def errW (e x : Nat) : Nat := if x = 0 ∨ x = 2 then e else x

set_option maxRecDepth 100000 in
set_option maxHeartbeats 1000000 in
theorem word_d {w : World} {d r total e : Nat} {limit : Int} {l : List Bool} {h : List Value} {win : Nat → Value} {v ov rv : Value} {o : Option (List Nat)} {Rs : List Res}
    (hS : Sat w (decR d h win (footV total limit ov rv e) :: rd r l :: oc v o :: Rs)) (hr : h[0]? = some (.pointer (some ⟨r, 0, none⟩))) :
    Calls Try.prog 55 #[.pointer (some ⟨d, 0, none⟩), v] w fun e' w' => e' = .returned (.tuple #[.int .i64 ((decO o l).1 : Nat), .bool ((decO o l).2.1 == 0)]) ∧
      Sat w' (decR d h win (footV total limit ov rv (errW e (decO o l).2.1)) :: rd r (l.drop (decO o l).2.2) :: oc v o :: Rs) := by
  have q0 : w.cell? ⟨d, 0, none⟩ = some (.pointer (some ⟨r, 0, none⟩)) := (dec_h hS 0 _ hr).1
  have hn := next_o (Sat.perm (As := [_, _, _]) hS [1, 2, 0] [_, _, _] rfl (by simp))
  obtain ⟨⟨s, x, n⟩, hD⟩ : ∃ D, decO o l = D := ⟨_, rfl⟩
  rw [hD] at hn ⊢
  simp only at hn ⊢
  have Hn := Lib.hid hn
  obtain ⟨Vv, hV⟩ : ∃ Vv, Vv = v := ⟨_, rfl⟩
  have hvp : ∃ a, v = .pointer a := by
    rcases oc_out (Sat.front hS 2 _ rfl) with ⟨-, rfl, -⟩ | ⟨c, L, -, rfl, -, -, -⟩
    · exact ⟨_, rfl⟩
    · exact ⟨_, rfl⟩
  obtain ⟨av, rfl⟩ := hvp
  clear hn hD hV hS
  by_cases hx0 : x = 0
  · subst hx0
    go_enter Try.func55, Try.ntmps55
    go_wp2_with (go_at_call 89; refine Hn.out.mono ?_; rintro e' w2 ⟨rfl, hS2⟩)
    go_ret2
    exact ⟨rfl, Sat.perm (As := [_, _, _]) hS2 [2, 0, 1] [_, _, _] rfl (by simp)⟩
  · by_cases hx2 : x = 2
    · subst hx2
      clear hx0
      go_enter Try.func55, Try.ntmps55
      go_wp2_with (go_at_call 89; refine Hn.out.mono ?_; rintro e' w2 ⟨rfl, hS2⟩)
      go_ret2
      exact ⟨rfl, Sat.perm (As := [_, _, _]) hS2 [2, 0, 1] [_, _, _] rfl (by simp)⟩
    · have hz0 : ((x : Int) == 0) = false := beq_eq_false_iff_ne.2 (by omega)
      have hz1 : ((x : Int) != 0) = true := bne_iff_ne.2 (by omega)
      have hz2 : ((x : Int) != 2) = true := bne_iff_ne.2 (by omega)
      have hzn : (x == 0) = false := beq_eq_false_iff_ne.2 hx0
      have he : errW e x = x := by unfold errW; rw [if_neg (by omega)]
      have He := Lib.hid he
      clear hx0 hx2 he
      go_enter Try.func55, Try.ntmps55
      go_wp2_with (go_at_call 89; refine Hn.out.mono ?_; rintro e' w2 ⟨rfl, hS2⟩; have hS3 := Sat.perm (As := [_, _, _]) hS2 [2, 0, 1] [_, _, _] rfl (by simp); have f4 : w2.frozen? ⟨d, 32785, none⟩ = false := (dec_t hS3 4 _ rfl).2; have q4 : w2.cell? ⟨d, 32785, none⟩ = some (.int .i64 e) := (dec_t hS3 4 _ rfl).1; have H3 := Lib.hid (dec_set_t hS3 4 (by omega) (.int .i64 x)); clear hS3)
      go_ret2
      rw [He.out, hzn]
      exact ⟨rfl, H3.out⟩

set_option maxRecDepth 100000 in
set_option maxHeartbeats 1000000 in
theorem close_go {w : World} {d : Nat} {s : Int} {h t : List Value} {win : Nat → Value} {Rs : List Res} (hS : Sat w (decR d h win t :: Rs)) (h1 : h[1]? = some (.int .i64 s)) (h2 : h[2]? = some (.bool false)) :
    Calls Try.prog 53 #[.pointer (some ⟨d, 0, none⟩)] w fun e' w' => e' = .returned (.tuple #[]) ∧ Sat w' (decR d (h.set 1 (.int .i64 0)) win t :: Rs) := by
  have q1 : w.cell? ⟨d, 1, none⟩ = some (.int .i64 s) := (dec_h hS 1 _ h1).1
  have f1 : w.frozen? ⟨d, 1, none⟩ = false := (dec_h hS 1 _ h1).2
  have q2 : w.cell? ⟨d, 2, none⟩ = some (.bool false) := (dec_h hS 2 _ h2).1
  have H := Lib.hid (dec_set_h hS 1 (by omega) (.int .i64 0))
  clear hS
  go_enter Try.func53, Try.ntmps53
  go_wp2
  go_end0
  exact ⟨rfl, H.out⟩

set_option maxRecDepth 100000 in
set_option maxHeartbeats 1000000 in
theorem close_end {w : World} {d r : Nat} {s : Int} {l : List Bool} {h t : List Value} {win : Nat → Value} {Rs : List Res} (hS : Sat w (decR d h win t :: rd r l :: Rs)) (h0 : h[0]? = some (.pointer (some ⟨r, 0, none⟩))) (h1 : h[1]? = some (.int .i64 s)) (h2 : h[2]? = some (.bool true)) :
    Calls Try.prog 53 #[.pointer (some ⟨d, 0, none⟩)] w fun e' w' => e' = .returned (.tuple #[]) ∧ Sat w' (decR d (h.set 1 (.int .i64 12)) win t :: rd r (l.drop (l.length % 8)) :: Rs) := by
  have q0 : w.cell? ⟨d, 0, none⟩ = some (.pointer (some ⟨r, 0, none⟩)) := (dec_h hS 0 _ h0).1
  have q1 : w.cell? ⟨d, 1, none⟩ = some (.int .i64 s) := (dec_h hS 1 _ h1).1
  have f1 : w.frozen? ⟨d, 1, none⟩ = false := (dec_h hS 1 _ h1).2
  have q2 : w.cell? ⟨d, 2, none⟩ = some (.bool true) := (dec_h hS 2 _ h2).1
  have hS2 := dec_set_h hS 1 (by omega) (.int .i64 0)
  have hal := align_rd hS2.swap
  have Hal := Lib.hid hal
  clear hal hS2 hS
  go_enter Try.func53, Try.ntmps53
  go_wp2_with (go_at_call 51; refine Hal.out.mono ?_; rintro e' w2 ⟨rfl, hS3⟩; have k1 : (h.set 1 (.int .i64 0))[1]? = some (.int .i64 0) := (by rw [List.getElem?_set]; rw [if_pos rfl, if_pos]; exact (List.getElem?_eq_some_iff.1 h1).1); have g1 : w2.cell? ⟨d, 1, none⟩ = some (.int .i64 0) := (dec_h hS3.swap 1 _ k1).1; have g2 : w2.frozen? ⟨d, 1, none⟩ = false := (dec_h hS3.swap 1 _ k1).2; have H3 := Lib.hid (dec_set_h hS3.swap 1 (by omega) (.int .i64 12)); clear hS3 k1)
  go_end0
  have := H3.out
  rw [List.set_set] at this
  exact ⟨rfl, this⟩

end Go.Proofs.Ytdpocnkeokplpaa

namespace Go.Proofs.Ytdpocnkeokplpaa
open Go.RowKit Go.Hal
set_option linter.unusedVariables false
set_option linter.unusedSimpArgs false

/-- What lies where. -/
structure DC where
  r : Nat
  rowv : Value
  fv : Value
  lv : Value
  wv : Value
  ov : Value
  rv : Value
  win : Nat → Value
  cb : List Bool
  rs : List UInt8
def headV (s : DS) (c : DC) : List Value := [.pointer (some ⟨c.r, 0, none⟩), .int .i64 s.st, .bool s.last, .int .i64 s.left, .int .i64 s.far, .int .i64 s.extra, .int .i64 s.base, .int .i64 s.lits, .int .i64 s.dists, c.rowv, c.fv, c.lv, c.wv]

theorem slr_cell {w : World} {e : TypeId} {n b o l cap : Nat} {xs : List Value} (h : SlR w e 1 n (.slice (some ⟨b, o, none⟩) l cap) xs) {j : Nat} {x : Value} (hx : xs[j]? = some x) : w.cell? ⟨b, o + j, none⟩ = some x := by
  obtain ⟨ao, cap', heq, k1, k2, k3, k4⟩ := h
  simp only [Value.slice.injEq] at heq
  obtain ⟨rfl, rfl, rfl⟩ := heq
  have hj := (List.getElem?_eq_some_iff.1 hx).1
  obtain ⟨b', o', he, -, hc⟩ := k4 (by omega)
  simp only [Option.some.injEq, Addr.mk.injEq, and_true] at he
  obtain ⟨rfl, rfl⟩ := he
  exact hc j x hx

set_option maxRecDepth 100000 in
set_option maxHeartbeats 1000000 in
/-- code, of right lengths or wrong ones. -/
theorem code_d {w : World} {d total e : Nat} {limit : Int} {h : List Value} {win : Nat → Value} {ov rv : Value} {Rs : List Res} (hS : Sat w (decR d h win (footV total limit ov rv e) :: Rs)) (v : Value) (L : List Nat) (sym : Int) (k : Option Nat)
    (hv : ∀ w', Sat w' Rs → IntsR w' v (natsV L)) (hk : (k = none ∧ sym = -1) ∨ ∃ n, k = some n ∧ sym = (n : Nat) ∧ n < L.length) :
    Calls Try.prog 87 #[.pointer (some ⟨d, 0, none⟩), v, .int .i64 sym] w fun e' w' =>
      (codeS L k = some L ∧ ∃ c, e' = .returned (.pointer (some ⟨c, 0, none⟩)) ∧ Fits L ∧ L.length ≤ 288 ∧ Sat w' (decR d h win (footV total limit ov rv e) :: code c L :: Rs)) ∨
      (codeS L k = none ∧ e' = .returned (.pointer none) ∧ Sat w' (decR d h win (footV total limit ov rv 5) :: Rs)) := by
  have hn := new_any hS v (natsV L) (fun w' h' => hv w' h'.tail)
  have Hn := Lib.hid hn
  have Hv := Lib.hid hv
  have hvs := hv w hS.tail
  obtain ⟨ao, cap, rfl, -, -, -, k4⟩ := hvs
  have hcode : codeS L k = if checkI (natsV L) = 0 ∧ (∀ n, k = some n → 0 < (L[n]?).getD 0) then some L else none := rfl
  have Hc := Lib.hid hcode
  have hlen : (natsV L).length = L.length := by unfold natsV; simp
  have HL := Lib.hid hlen
  have K4 := Lib.hid k4
  clear hn hv hcode hlen k4
  have hbad : ∀ w' : World, Sat w' (decR d h win (footV total limit ov rv e) :: Rs) → Sat (w'.setCell ⟨d, 32785, none⟩ (.int .i64 5)) (decR d h win (footV total limit ov rv 5) :: Rs) := fun w' h' => dec_set_t h' 4 (by omega) _
  have Hbad := Lib.hid hbad
  clear hbad hS
  by_cases hcz : checkI (natsV L) = 0
  · have hcz' := Lib.hid hcz
    have hft := check_fits hcz
    have Hft := Lib.hid hft
    clear hcz hft
    rcases hk with ⟨rfl, rfl⟩ | ⟨n, rfl, rfl, hlt⟩
    · go_enter Try.func87, Try.ntmps87
      go_wp2_with (go_at_call 74; refine Hn.out.mono ?_; rintro e' w2 (⟨-, c, rfl, hS2⟩ | ⟨hne, rfl, hS2⟩); rotate_left; exact absurd hcz'.out hne; rw [natL_natsV'] at hS2)
      go_ret
      exact .inl ⟨by rw [Hc.out, if_pos ⟨hcz'.out, fun n hn => by cases hn⟩], c, rfl, Hft.out.1, Hft.out.2, hS2.swap⟩
    · obtain ⟨b, o, rfl, -, hc⟩ := K4.out (by rw [HL.out]; omega)
      clear hc
      obtain ⟨x, hx⟩ : ∃ x, L[n]? = some x := ⟨_, List.getElem?_eq_getElem hlt⟩
      have hcell : ∀ w', Sat w' Rs → w'.cell? ⟨b, o + n, none⟩ = some (.int .i64 (x : Nat)) := fun w' h' => slr_cell (Hv.out w' h') (by unfold natsV; rw [List.getElem?_map, List.getElem?_map, hx]; rfl)
      have Hcell := Lib.hid hcell
      have Hx := Lib.hid hx
      have hln : (n : Int) < ((natsV L).length : Int) := by rw [HL.out]; omega
      have hn0 : decide ((n : Int) < 0) = false := decide_eq_false (by omega)
      clear hcell hx
      by_cases hx0 : x = 0
      · subst hx0
        go_enter Try.func87, Try.ntmps87
        go_wp2_with (go_at_call 74; refine Hn.out.mono ?_; rintro e' w2 (⟨-, c, rfl, hS2⟩ | ⟨hne, rfl, hS2⟩); rotate_left; exact absurd hcz'.out hne; rw [natL_natsV'] at hS2; have hcl := Hcell.out w2 hS2.tail.tail; have f4 : w2.frozen? ⟨d, 32785, none⟩ = false := (dec_t hS2.tail 4 _ rfl).2; have q4 : w2.cell? ⟨d, 32785, none⟩ = some (.int .i64 e) := (dec_t hS2.tail 4 _ rfl).1)
        go_ret
        exact .inr ⟨by rw [Hc.out, if_neg]; rintro ⟨-, h0⟩; have := h0 n rfl; rw [Hx.out] at this; exact absurd this (by decide), rfl, Hbad.out _ hS2.tail⟩
      · have hxp : decide ((0 : Int) < (x : Int)) = true := decide_eq_true (by omega)
        go_enter Try.func87, Try.ntmps87
        go_wp2_with (go_at_call 74; refine Hn.out.mono ?_; rintro e' w2 (⟨-, c, rfl, hS2⟩ | ⟨hne, rfl, hS2⟩); rotate_left; exact absurd hcz'.out hne; rw [natL_natsV'] at hS2; have hcl := Hcell.out w2 hS2.tail.tail)
        go_ret
        exact .inl ⟨by rw [Hc.out, if_pos ⟨hcz'.out, fun m hm => by cases hm; rw [Hx.out]; exact Nat.pos_of_ne_zero hx0⟩], c, rfl, Hft.out.1, Hft.out.2, hS2.swap⟩
  · have hcz' := Lib.hid hcz
    have hce : ((checkI (natsV L) : Int) == 0) = false := beq_eq_false_iff_ne.2 (by omega)
    clear hcz
    go_enter Try.func87, Try.ntmps87
    go_wp2_with (go_at_call 74; refine Hn.out.mono ?_; rintro e' w2 (⟨he, c, rfl, hS2⟩ | ⟨hne, rfl, hS2⟩); exact absurd he hcz'.out; clear hne; have f4 : w2.frozen? ⟨d, 32785, none⟩ = false := (dec_t hS2 4 _ rfl).2; have q4 : w2.cell? ⟨d, 32785, none⟩ = some (.int .i64 e) := (dec_t hS2 4 _ rfl).1)
    go_ret
    exact .inr ⟨by rw [Hc.out, if_neg]; rintro ⟨h0, -⟩; exact hcz'.out h0, rfl, Hbad.out _ hS2⟩

/-- code, its two ends in one. -/
def CodeQ (L : List Nat) (k : Option Nat) (Rs : List Res) (e : Nat) (p : Option Addr) (e2 : Nat) (R2 : List Res) : Prop :=
  (codeS L k = some L ∧ ∃ c, p = some ⟨c, 0, none⟩ ∧ Fits L ∧ L.length ≤ 288 ∧ e2 = e ∧ R2 = code c L :: Rs) ∨ (codeS L k = none ∧ p = none ∧ e2 = 5 ∧ R2 = Rs)
theorem code_d2 {w : World} {d total e : Nat} {limit : Int} {h : List Value} {win : Nat → Value} {ov rv : Value} {Rs : List Res} (hS : Sat w (decR d h win (footV total limit ov rv e) :: Rs)) (v : Value) (L : List Nat) (sym : Int) (k : Option Nat)
    (hv : ∀ w', Sat w' Rs → IntsR w' v (natsV L)) (hk : (k = none ∧ sym = -1) ∨ ∃ n, k = some n ∧ sym = (n : Nat) ∧ n < L.length) :
    Calls Try.prog 87 #[.pointer (some ⟨d, 0, none⟩), v, .int .i64 sym] w fun e' w' =>
      ∃ p e2 R2, e' = .returned (.pointer p) ∧ Sat w' (decR d h win (footV total limit ov rv e2) :: R2) ∧ CodeQ L k Rs e p e2 R2 := by
  refine (code_d hS v L sym k hv hk).mono ?_
  rintro e' w' (⟨h1, c, rfl, h2, h3, h4⟩ | ⟨h1, rfl, h4⟩)
  · exact ⟨_, _, _, rfl, h4, .inl ⟨h1, c, rfl, h2, h3, rfl, rfl⟩⟩
  · exact ⟨_, _, _, rfl, h4, .inr ⟨h1, rfl, rfl, rfl⟩⟩

end Go.Proofs.Ytdpocnkeokplpaa
