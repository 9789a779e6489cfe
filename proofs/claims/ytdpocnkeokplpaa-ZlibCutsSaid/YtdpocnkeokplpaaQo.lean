/- inflate.Decoder between calls: New, Push, Done, Rest, Total. halftoneref01.Same: two lists of bytes are one. The fixed calls of layer 6's laws. -/
import Derived.Test.YtdpocnkeokplpaaQn
import Derived.Test.YtdpocnkeokplpaaQh
import Derived.Test.YtdpocnkeokplpaaQb
import Derived.Laws.IdiomStrings
namespace Go.Proofs.Ytdpocnkeokplpaa
open Go.RowKit Go.Hal
set_option linter.unusedVariables false
set_option linter.unusedSimpArgs false

def Idle (lim : Int) (s : DS) (c : DC) (rs : List UInt8) (cb : List Bool) : Prop :=
  DInv lim s ∧ Win s.hist c.win ∧ (s.st ≠ 12 → rs = []) ∧ (s.st = 12 → cb = []) ∧ bitsOf rs ++ cb = s.bits ∧ s.bits.length ≤ 1125899906842616
def idle (d : Nat) (lim : Int) (s : DS) : Res := ex fun x : DC × List UInt8 × List Bool => star (bag (idleL d lim s x.1 x.2.1 x.2.2)) (pur (Idle lim s x.1 x.2.1 x.2.2))
theorem idle_open {w : World} {d : Nat} {lim : Int} {s : DS} {Rs : List Res} (hS : Sat w (idle d lim s :: Rs)) : ∃ c rs cb, Idle lim s c rs cb ∧ Sat w (idleL d lim s c rs cb ++ Rs) := by
  obtain ⟨⟨c, rs, cb⟩, h⟩ := hS.ex_out
  have h2 := h.star_out
  have h3 := h2.swap.pur_out
  exact ⟨c, rs, cb, h3.1, h3.2.bag_out⟩
theorem idle_shut {w : World} {d : Nat} {lim : Int} {s : DS} {Rs : List Res} {c : DC} {rs : List UInt8} {cb : List Bool} (h : Idle lim s c rs cb) (hS : Sat w (idleL d lim s c rs cb ++ Rs)) : Sat w (idle d lim s :: Rs) :=
  Sat.ex_in (c, rs, cb) (Sat.star_in (Sat.swap (Sat.pur_in h hS.bag_in)))
def dead (d : Nat) (lim : Int) (hist : List UInt8) (e : Nat) : Res := ex fun x : List Value × (Nat → Value) × Value × Value => star (decR d x.1 x.2.1 (footV hist.length lim x.2.2.1 x.2.2.2 e)) (pur (e ≠ 0 ∧ ∃ k : Int, x.1[1]? = some (.int .i64 k)))
theorem dead_open {w : World} {d e : Nat} {lim : Int} {hist : List UInt8} {Rs : List Res} (hS : Sat w (dead d lim hist e :: Rs)) : ∃ h win ov rv, (e ≠ 0 ∧ ∃ k : Int, h[1]? = some (.int .i64 k)) ∧ Sat w (decR d h win (footV hist.length lim ov rv e) :: Rs) := by
  obtain ⟨⟨h, win, ov, rv⟩, h1⟩ := hS.ex_out
  have h2 := h1.star_out
  have h3 := h2.swap.pur_out
  exact ⟨h, win, ov, rv, h3.1, h3.2⟩
theorem dead_shut {w : World} {d e : Nat} {lim : Int} {hist : List UInt8} {Rs : List Res} {h : List Value} {win : Nat → Value} {ov rv : Value} (hp : e ≠ 0 ∧ ∃ k : Int, h[1]? = some (.int .i64 k)) (hS : Sat w (decR d h win (footV hist.length lim ov rv e) :: Rs)) : Sat w (dead d lim hist e :: Rs) :=
  Sat.ex_in (h, win, ov, rv) (Sat.star_in (Sat.swap (Sat.pur_in hp hS)))
/-- The decoder behind a run. -/
def decRes (d : Nat) (lim : Int) : DRes → Res
  | .ok s => idle d lim s
  | .bad hist e => dead d lim hist e
theorem new_idle {w : World} {Rs : List Res} (hS : Sat w Rs) (lim : Int) :
    Calls Try.prog 18 #[.int .i64 lim] w fun e w' => ∃ d, e = .returned (.pointer (some ⟨d, 0, none⟩)) ∧ Sat w' (idle d lim ds0 :: Rs) := by
  refine (infl_new hS lim).mono ?_
  rintro e w' ⟨d, r, rfl, h⟩
  refine ⟨d, rfl, ?_⟩
  have h2 := oc_none (oc_none (oc_none ((h.sl_nil 5 1 none).sl_nil 3 1 none)))
  exact idle_shut (c := ⟨r, .slice none 0 0, .pointer none, .pointer none, .pointer none, .slice none 0 0, .slice none 0 0, fun _ => .int .u8 0, [], []⟩) (rs := []) (cb := [])
    ⟨ds0_inv lim, fun k b hk => by simp [ds0] at hk, fun _ => rfl, fun _ => rfl, rfl, by decide⟩
    (Sat.perm (As := [_, _, _, _, _, _, _]) h2 [5, 6, 3, 0, 1, 2, 4] [_, _, _, _, _, _, _] rfl (by simp))

theorem push_idle {w : World} {d : Nat} {lim : Int} {s : DS} {Rs : List Res} (hlim : lim ≤ 65535) (hS : Sat w (idle d lim s :: Rs)) {v : Value} {ys : List UInt8} (hv : ∀ w', Sat w' Rs → SlR w' 5 1 ys.length v (ys.map byteV))
    (hb : s.bits.length + 8 * ys.length ≤ 1125899906842616) :
    Calls Try.prog 19 #[.pointer (some ⟨d, 0, none⟩), v] w fun e' w' => ∃ r ov, Runs lim (s.more (bitsOf ys)) r ∧ e' = .returned (.tuple #[ov, .int .i64 (r.err : Nat)]) ∧
      Sat w' (sl 5 1 (r.hist.drop s.hist.length).length ov ((r.hist.drop s.hist.length).map byteV) :: decRes d lim r :: Rs) := by
  obtain ⟨c, rs, cb, ⟨h1, h2, h3, h4, h5, -⟩, hS2⟩ := idle_open hS
  refine (push_run hlim h1 h2 rfl h3 hS2 hv hb rfl h5).mono ?_
  rintro e' w' (⟨t, c', rs', cb', a1, ⟨⟨a2, a3, a4, a5, a6, a7, -⟩, a8⟩, a9, rfl⟩ | ⟨hist, e, h, win, ov, rv, a1, a2, a3, rfl, a4, a5⟩)
  · refine ⟨.ok t, c'.ov, a2 _ (.stop a1), rfl, ?_⟩
    have h9 := Sat.perm (As := [_, _, _, _, _, _, _, _]) a8 [0, 1, 2, 3, 4, 5, 7, 6] [_, _, _, _, _, _, _, _] rfl (by simp)
    exact Sat.swap (idle_shut (Rs := _ :: Rs) ⟨a3, a4, a6, a9, a7, by
      have h7 := runs_bits (a2 _ (.stop a1)) (h1.more (bits8 ys))
      have h8 : (s.more (bitsOf ys)).bits.length = s.bits.length + 8 * ys.length := by show (s.bits ++ bitsOf ys).length = _; rw [List.length_append, bitsOf_length]
      omega⟩ h9)
  · exact ⟨.bad hist e, ov, a1, rfl, Sat.swap (dead_shut ⟨a2, a5⟩ a4)⟩

set_option maxRecDepth 100000 in
set_option maxHeartbeats 1000000 in
theorem push_dead {w : World} {d e : Nat} {lim : Int} {hist : List UInt8} {Rs : List Res} (hS : Sat w (dead d lim hist e :: Rs)) (ao : Option Addr) (n cap : Nat) :
    Calls Try.prog 19 #[.pointer (some ⟨d, 0, none⟩), .slice ao n cap] w fun e' w' => e' = .returned (.tuple #[.slice none 0 0, .int .i64 (e : Nat)]) ∧ Sat w' (dead d lim hist e :: Rs) := by
  obtain ⟨h, win, ov, rv, hp, hS2⟩ := dead_open hS
  have t4 : w.cell? ⟨d, 32785, none⟩ = some (.int .i64 e) := (dec_t hS2 4 _ rfl).1
  have hez : ((e : Int) != 0) = true := bne_iff_ne.2 (by have := hp.1; omega)
  have he0 : ¬ e = 0 := hp.1
  have HF := Lib.hid hS.drew
  clear hS hS2 hp
  go_enter Try.func19, Try.ntmps19
  go_wp2
  go_step3
  go_wp2
  go_region
  go_wp2
  rw [Exit.noGoto_ret]
  go_ret2
  exact ⟨rfl, HF.out⟩

set_option maxRecDepth 100000 in
set_option maxHeartbeats 1000000 in
theorem push_nil (w : World) (ao : Option Addr) (n cap : Nat) :
    Calls Try.prog 19 #[.pointer none, .slice ao n cap] w fun e' w' => e' = .returned (.tuple #[.slice none 0 0, .int .i64 1]) ∧ w' = w := by
  go_enter Try.func19, Try.ntmps19
  go_wp2
  go_step3
  go_wp2
  rw [Exit.noGoto_ret]
  go_ret2
  exact ⟨rfl, rfl⟩

set_option maxRecDepth 100000 in
set_option maxHeartbeats 1000000 in
theorem done_idle {w : World} {d : Nat} {lim : Int} {s : DS} {Rs : List Res} (hS : Sat w (idle d lim s :: Rs)) :
    Calls Try.prog 21 #[.pointer (some ⟨d, 0, none⟩)] w fun e' w' => e' = .returned (.bool (s.st == 12)) ∧ w' = w := by
  obtain ⟨c, rs, cb, -, hS2⟩ := idle_open hS
  have q1 : w.cell? ⟨d, 1, none⟩ = some (.int .i64 s.st) := (dec_h hS2 1 _ rfl).1
  have t4 : w.cell? ⟨d, 32785, none⟩ = some (.int .i64 0) := (dec_t hS2 4 _ rfl).1
  clear hS hS2
  by_cases h : s.st = 12
  · have hb : (s.st == 12) = true := beq_iff_eq.2 h
    rw [h] at q1
    rw [hb]
    clear h hb
    go_enter Try.func21, Try.ntmps21
    go_wp2
    go_ret
    exact ⟨rfl, rfl⟩
  · have hb : (s.st == 12) = false := beq_eq_false_iff_ne.2 h
    have hbI : ((s.st : Int) == 12) = false := beq_eq_false_iff_ne.2 (by omega)
    rw [hb]
    clear hb
    go_enter Try.func21, Try.ntmps21
    go_wp2
    go_ret
    exact ⟨rfl, rfl⟩
set_option maxRecDepth 100000 in
set_option maxHeartbeats 1000000 in
theorem done_dead {w : World} {d e : Nat} {lim : Int} {hist : List UInt8} {Rs : List Res} (hS : Sat w (dead d lim hist e :: Rs)) :
    Calls Try.prog 21 #[.pointer (some ⟨d, 0, none⟩)] w fun e' w' => e' = .returned (.bool false) ∧ w' = w := by
  obtain ⟨h, win, ov, rv, ⟨he, k, hk⟩, hS2⟩ := dead_open hS
  have q1 : w.cell? ⟨d, 1, none⟩ = some (.int .i64 k) := (dec_h hS2 1 _ hk).1
  have t4 : w.cell? ⟨d, 32785, none⟩ = some (.int .i64 e) := (dec_t hS2 4 _ rfl).1
  have hez : ((e : Int) == 0) = false := beq_eq_false_iff_ne.2 (by omega)
  clear hS hS2 hk
  cases hk12 : (k == 12)
  all_goals
    go_enter Try.func21, Try.ntmps21
    go_wp2
    go_ret
    exact ⟨rfl, rfl⟩
theorem done_all {w : World} {d : Nat} {lim : Int} {r : DRes} {Rs : List Res} (hS : Sat w (decRes d lim r :: Rs)) :
    Calls Try.prog 21 #[.pointer (some ⟨d, 0, none⟩)] w fun e' w' => e' = .returned (.bool r.done) ∧ w' = w := by
  cases r with
  | ok s => exact done_idle hS
  | bad hist e => exact done_dead hS
set_option maxHeartbeats 1000000 in
theorem done_nil (w : World) :
    Calls Try.prog 21 #[.pointer none] w fun e' w' => e' = .returned (.bool false) ∧ w' = w := by
  go_enter Try.func21, Try.ntmps21
  go_wp2
  go_ret
  exact ⟨rfl, rfl⟩

set_option maxRecDepth 100000 in
set_option maxHeartbeats 1000000 in
theorem total_all {w : World} {d : Nat} {lim : Int} {r : DRes} {Rs : List Res} (hS : Sat w (decRes d lim r :: Rs)) :
    Calls Try.prog 63 #[.pointer (some ⟨d, 0, none⟩)] w fun e' w' => e' = .returned (.int .i64 (r.hist.length : Nat)) ∧ w' = w := by
  have t0 : w.cell? ⟨d, 32781, none⟩ = some (.int .i64 r.hist.length) := by
    cases r with
    | ok s => obtain ⟨c, rs, cb, -, hS2⟩ := idle_open hS; exact (dec_t hS2 0 _ rfl).1
    | bad hist e => obtain ⟨h, win, ov, rv, -, hS2⟩ := dead_open hS; exact (dec_t hS2 0 _ rfl).1
  clear hS
  go_enter Try.func63, Try.ntmps63
  go_wp2
  go_ret
  exact ⟨rfl, rfl⟩
set_option maxHeartbeats 1000000 in
theorem total_nil (w : World) :
    Calls Try.prog 63 #[.pointer none] w fun e' w' => e' = .returned (.int .i64 0) ∧ w' = w := by
  go_enter Try.func63, Try.ntmps63
  go_wp2
  go_ret
  exact ⟨rfl, rfl⟩

/-- What stands behind the end. -/
def RestOk : DRes → List UInt8 → Prop
  | .ok s, rs => if s.st = 12 then bitsOf rs = s.bits else rs = []
  | .bad _ _, rs => rs = []
theorem rest_one {r : DRes} {a b : List UInt8} (h : RestOk r a) (h2 : RestOk r b) : a = b := by
  cases r with
  | ok s =>
    have h : if s.st = 12 then bitsOf a = s.bits else a = [] := h
    have h2 : if s.st = 12 then bitsOf b = s.bits else b = [] := h2
    by_cases hs : s.st = 12
    · rw [if_pos hs] at h h2
      exact bitsOf_inj _ _ (h.trans h2.symm)
    · rw [if_neg hs] at h h2
      rw [h, h2]
  | bad hist e => rw [show a = [] from h, show b = [] from h2]
set_option maxHeartbeats 1000000 in
theorem rest_not {w : World} {p : Option Addr} (hd : Calls Try.prog 21 #[.pointer p] w fun e' w' => e' = .returned (.bool false) ∧ w' = w) :
    Calls Try.prog 22 #[.pointer p] w fun e' w' => e' = .returned (.slice none 0 0) ∧ w' = w := by
  have Hd := Lib.hid hd
  clear hd
  go_enter Try.func22, Try.ntmps22
  go_wp2_with (go_at_call 21; refine Hd.out.mono ?_; rintro e w2 ⟨rfl, rfl⟩)
  go_ret
  exact ⟨rfl, rfl⟩

set_option maxRecDepth 100000 in
set_option maxHeartbeats 1000000 in
theorem rest_12 {w : World} {d : Nat} {lim : Int} {s : DS} {Rs : List Res} (hS : Sat w (idle d lim s :: Rs)) (h12 : s.st = 12) :
    Calls Try.prog 22 #[.pointer (some ⟨d, 0, none⟩)] w fun e' w' => ∃ v rs, e' = .returned v ∧ bitsOf rs = s.bits ∧ Sat w' (sl 5 1 rs.length v (rs.map byteV) :: idle d lim s :: Rs) := by
  obtain ⟨c, rs, cb, hI, hS2⟩ := idle_open hS
  have hd := done_idle hS
  rw [show (s.st == 12) = true from beq_iff_eq.2 h12] at hd
  have Hd := Lib.hid hd
  have Hrs : Hid (bitsOf rs = s.bits) := by
    have h := hI.2.2.2.2.1
    rw [hI.2.2.2.1 h12, List.append_nil] at h
    exact h
  obtain ⟨F, ao, cap, hrv, k1, k2, -, -⟩ := hS2.at_ 6 _ rfl
  have hS3 := hS2.alloc_drop (.cells #[] 5)
  have t3 : (w.alloc (.cells #[] 5)).cell? ⟨d, 32784, none⟩ = some (.slice ao rs.length cap) := by have := (dec_t hS3 3 _ rfl).1; rw [hrv] at this; exact this
  have hsrc := SlR.src (P := Try.prog) (Sat.front hS3 6 _ rfl).sl_read Try.underlying22 (byteV_one rs)
  rw [hrv] at hsrc
  have Hsrc := Lib.hid hsrc
  have HS3 := Lib.hid hS3
  have HI := Lib.hid hI
  obtain ⟨i0, hi, hz0, hz1, hz2⟩ := info_parts Try.infoU8
  have hrl : rs.length ≤ 140737488355327 := by
    have h := hI.2.2.2.2.2
    rw [← Hrs.out, bitsOf_length] at h
    omega
  unfold maxLen at k2
  clear hd hS hS2 hS3 hsrc hI hrv h12
  go_enter Try.func22, Try.ntmps22
  go_wp2_with (first | (go_at_call 21; refine Hd.out.mono ?_; rintro e w2 ⟨rfl, rfl⟩) | (at_builtin; refine wpList_append_sat _ rfl _ _ 22 22 rfl 5 i0 (.int .u8 0) 1 1 Try.underlying22 hi hz0 hz1 hz2 rfl (by decide) 0 _ _ _ rfl (HS3.out.sl_nil 5 1 (some _)) rs.length _ _ rfl Hsrc.out ?_ ?_ ?_))
  · unfold maxLen; omega
  · omega
  · intro v' w' hS'
    have H := Lib.hid hS'
    clear hS'
    go_wp2
    go_ret
    refine ⟨v', rs, rfl, Hrs.out, ?_⟩
    have h := H.out
    exact Sat.swap (idle_shut (Rs := _ :: Rs) HI.out (Sat.perm (As := [_, _, _, _, _, _, _, _]) h [1, 2, 3, 4, 5, 6, 7, 0] [_, _, _, _, _, _, _, _] rfl (by simp)))
theorem rest_all {w : World} {d : Nat} {lim : Int} {r : DRes} {Rs : List Res} (hS : Sat w (decRes d lim r :: Rs)) :
    Calls Try.prog 22 #[.pointer (some ⟨d, 0, none⟩)] w fun e' w' => ∃ v rs, e' = .returned v ∧ RestOk r rs ∧ Sat w' (sl 5 1 rs.length v (rs.map byteV) :: decRes d lim r :: Rs) := by
  cases r with
  | ok s =>
    by_cases h12 : s.st = 12
    · refine (rest_12 hS h12).mono ?_
      rintro e' w' ⟨v, rs, rfl, h1, h2⟩
      exact ⟨v, rs, rfl, by show if s.st = 12 then bitsOf rs = s.bits else rs = []; rw [if_pos h12]; exact h1, h2⟩
    · have hd := done_idle hS
      rw [show (s.st == 12) = false from beq_eq_false_iff_ne.2 h12] at hd
      refine (rest_not hd).mono ?_
      rintro e' w' ⟨rfl, rfl⟩
      exact ⟨_, [], rfl, by show if s.st = 12 then bitsOf [] = s.bits else ([] : List UInt8) = []; rw [if_neg h12], hS.sl_nil 5 1 none⟩
  | bad hist e =>
    refine (rest_not (done_dead hS)).mono ?_
    rintro e' w' ⟨rfl, rfl⟩
    exact ⟨_, [], rfl, rfl, hS.sl_nil 5 1 none⟩

end Go.Proofs.Ytdpocnkeokplpaa

namespace Go.Proofs.Ytdpocnkeokplpaa
open Go.RowKit Go.Hal
set_option linter.unusedVariables false
set_option linter.unusedSimpArgs false

theorem conv_bytes {w : World} {v : Value} {xs : List UInt8} (h : SlR w 5 1 xs.length v (xs.map byteV)) : (convert 22 9 v).run Try.prog w = .ok (.string ⟨xs.toArray⟩) w := by
  obtain ⟨ao, cap, rfl, k1, k2, k3, k4⟩ := h
  cases ao with
  | none =>
    have hx : xs = [] := by
      cases xs with
      | nil => rfl
      | cons x r =>
        obtain ⟨b, o, he, -⟩ := k4 (by simp)
        cases he
    subst hx
    rw [run_convert_bytes_string w _ _ 5 none _ cap Try.underlying22 (by kernel_rfl) (by kernel_rfl)]
    rfl
  | some a =>
    refine run_convert_bytes_back _ _ _ 5 a cap xs Try.underlying22 (by kernel_rfl) (by kernel_rfl) (fun j hj => ?_)
    obtain ⟨b, o, he, -, hc⟩ := k4 (by omega)
    simp only [Option.some.injEq] at he
    subst he
    rw [Addr.add_lit]
    have := hc j (byteV xs[j]) (by simp [hj])
    unfold byteV at this
    exact this

set_option maxHeartbeats 1000000 in
theorem same_d {w : World} {v u : Value} {xs ys : List UInt8} (hv : SlR w 5 1 xs.length v (xs.map byteV)) (hu : SlR w 5 1 ys.length u (ys.map byteV)) :
    Calls Try.prog 16 #[v, u] w fun e' w' => e' = .returned (.bool (xs == ys)) ∧ w' = w := by
  have h1 := conv_bytes hv
  have h2 := conv_bytes hu
  obtain ⟨ao, cap, rfl, -, -, -, -⟩ := hv
  obtain ⟨bo, bap, rfl, -, -, -, -⟩ := hu
  go_enter Try.func16, Try.ntmps16
  go_wp2
  go_ret
  exact ⟨rfl, rfl⟩

end Go.Proofs.Ytdpocnkeokplpaa

namespace Go.Proofs.Ytdpocnkeokplpaa
open Go.RowKit Go.Hal
set_option linter.unusedVariables false
set_option linter.unusedSimpArgs false

theorem push_fresh {w : World} {d : Nat} {lim : Int} {Rs : List Res} (hlim : lim ≤ 65535) {v : Value} {ys : List UInt8} (hS : Sat w (sl 5 1 ys.length v (ys.map byteV) :: idle d lim ds0 :: Rs)) (hb : ys.length ≤ 1000000) :
    Calls Try.prog 19 #[.pointer (some ⟨d, 0, none⟩), v] w fun e' w' => ∃ r ov, Tells lim ys r ∧ e' = .returned (.tuple #[ov, .int .i64 (r.err : Nat)]) ∧
      Sat w' (sl 5 1 r.hist.length ov (r.hist.map byteV) :: decRes d lim r :: Rs) := by
  refine (push_idle hlim hS.swap (v := v) (ys := ys) (fun w' h => h.sl_read) (by show 0 + 8 * ys.length ≤ _; omega)).mono ?_
  rintro e' w' ⟨r, ov, h1, rfl, h2⟩
  exact ⟨r, ov, h1, rfl, Sat.perm (As := [_, _, _]) h2 [0, 1] [_, _] rfl (by simp)⟩
/-- The same, where the answer is known. -/
theorem push_known {w : World} {d n e : Nat} {b : Bool} {Rs : List Res} {v : Value} {ys hist : List UInt8} (hl : looks 10 n ys hist e b = true) (hS : Sat w (sl 5 1 ys.length v (ys.map byteV) :: idle d 10 ds0 :: Rs)) (hb : ys.length ≤ 1000000) :
    Calls Try.prog 19 #[.pointer (some ⟨d, 0, none⟩), v] w fun e' w' => ∃ r ao cap, r.done = b ∧ e' = .returned (.tuple #[.slice ao hist.length cap, .int .i64 (e : Nat)]) ∧
      Sat w' (sl 5 1 hist.length (.slice ao hist.length cap) (hist.map byteV) :: decRes d 10 r :: Rs) := by
  refine (push_fresh (by omega) hS hb).mono ?_
  rintro e' w' ⟨r, ov, h1, rfl, h2⟩
  obtain ⟨a1, a2, a3⟩ := looks_tells hl h1
  rw [a1] at h2
  rw [a2]
  obtain ⟨F, ao, cap, rfl, -, -, -, -⟩ := h2.at_ 0 _ rfl
  exact ⟨r, ao, cap, a3, rfl, h2⟩

end Go.Proofs.Ytdpocnkeokplpaa
