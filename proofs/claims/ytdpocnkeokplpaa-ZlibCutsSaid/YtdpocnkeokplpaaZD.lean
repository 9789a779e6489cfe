/- zlib.Decoder: what it holds; end. -/
import Derived.Test.YtdpocnkeokplpaaQo
import Derived.Test.YtdpocnkeokplpaaAdl
import Derived.Test.YtdpocnkeokplpaaOctets
import Derived.Test.YtdpocnkeokplpaaQc
import Derived.Deep.CutRange
namespace Go.Proofs.Ytdpocnkeokplpaa
open Go.RowKit Go.Hal
set_option linter.unusedVariables false
set_option linter.unusedSimpArgs false

structure ZS where
  q : DRes
  head : List UInt8
  foot : List UInt8
  rest : List UInt8
  done : Bool
  e : Nat
def ZS.sum (s : ZS) : Nat := adV (adl (1, 0) s.q.hist)
theorem ZS.sum_lt (s : ZS) : s.sum < 4294967296 := by
  have h := adl_ok (p := (1, 0)) ⟨by decide, by decide⟩ s.q.hist
  unfold AdOk at h
  unfold ZS.sum adV
  omega
def zV (d : Nat) (s : ZS) (hv fv rv : Value) : Array Value := #[.pointer (some ⟨d, 0, none⟩), hv, fv, .int .u32 (s.sum : Nat), .bool s.done, rv, .int .i64 (s.e : Nat)]
def zL (z d : Nat) (lim : Int) (s : ZS) (hv fv rv : Value) : List Res :=
  [blk z (.cells (zV d s hv fv rv) 94 (0, 0)), decRes d lim s.q, sl 5 1 s.head.length hv (s.head.map byteV), sl 5 1 s.foot.length fv (s.foot.map byteV), sl 5 1 s.rest.length rv (s.rest.map byteV)]
def zd (z : Nat) (lim : Int) (s : ZS) : Res := ex fun x : Nat × Value × Value × Value => bag (zL z x.1 lim s x.2.1 x.2.2.1 x.2.2.2)
theorem zd_open {w : World} {z : Nat} {lim : Int} {s : ZS} {Rs : List Res} (hS : Sat w (zd z lim s :: Rs)) : ∃ d hv fv rv, Sat w (zL z d lim s hv fv rv ++ Rs) := by
  obtain ⟨⟨d, hv, fv, rv⟩, h⟩ := hS.ex_out
  exact ⟨d, hv, fv, rv, h.bag_out⟩
theorem zd_shut {w : World} {z d : Nat} {lim : Int} {s : ZS} {Rs : List Res} {hv fv rv : Value} (hS : Sat w (zL z d lim s hv fv rv ++ Rs)) : Sat w (zd z lim s :: Rs) := Sat.ex_in (d, hv, fv, rv) hS.bag_in
theorem zd_cells {w : World} {z d : Nat} {lim : Int} {s : ZS} {Rs : List Res} {hv fv rv : Value} (hS : Sat w (zL z d lim s hv fv rv ++ Rs)) :
    w.cell? ⟨z, 0, none⟩ = some (.pointer (some ⟨d, 0, none⟩)) ∧ w.cell? ⟨z, 1, none⟩ = some hv ∧ w.cell? ⟨z, 2, none⟩ = some fv ∧ w.cell? ⟨z, 3, none⟩ = some (.int .u32 (s.sum : Nat)) ∧ w.cell? ⟨z, 4, none⟩ = some (.bool s.done) ∧ w.cell? ⟨z, 5, none⟩ = some rv ∧ w.cell? ⟨z, 6, none⟩ = some (.int .i64 (s.e : Nat)) := by
  have h : w.heap[z]? = some (.cells (zV d s hv fv rv) 94 (0, 0)) := Sat.heap (Rs := _ :: _ :: _ :: _ :: Rs) hS
  exact ⟨by rw [cell_of_row w z 0 _ _ _ h]; rfl, by rw [cell_of_row w z 1 _ _ _ h]; rfl, by rw [cell_of_row w z 2 _ _ _ h]; rfl, by rw [cell_of_row w z 3 _ _ _ h]; rfl, by rw [cell_of_row w z 4 _ _ _ h]; rfl, by rw [cell_of_row w z 5 _ _ _ h]; rfl, by rw [cell_of_row w z 6 _ _ _ h]; rfl⟩
theorem zd_froz {w : World} {z d : Nat} {lim : Int} {s : ZS} {Rs : List Res} {hv fv rv : Value} (hS : Sat w (zL z d lim s hv fv rv ++ Rs)) (i : Nat) : w.frozen? ⟨z, i, none⟩ = false := by
  have h : w.heap[z]? = some (.cells (zV d s hv fv rv) 94 (0, 0)) := Sat.heap (Rs := _ :: _ :: _ :: _ :: Rs) hS
  exact frozen_of_row w z i _ _ h

theorem zd_set {w : World} {z d : Nat} {lim : Int} {s s' : ZS} {Rs : List Res} {hv fv rv hv' fv' rv' v : Value} (hS : Sat w (zL z d lim s hv fv rv ++ Rs)) (i : Nat) (hi : (zV d s hv fv rv).setIfInBounds i v = zV d s' hv' fv' rv') :
    Sat (w.setCell ⟨z, i, none⟩ v) (blk z (.cells (zV d s' hv' fv' rv') 94 (0, 0)) :: ((zL z d lim s hv fv rv).tail ++ Rs)) := by
  have h := Sat.setCell (Rs := (zL z d lim s hv fv rv).tail ++ Rs) (i := i) hS v
  rw [hi] at h
  exact h

theorem beV_lt (l : List UInt8) : beV l < 256 ^ l.length := by
  have : ∀ (l : List UInt8) (v : Nat), l.foldl (fun v b => v * 256 + b.toNat) v < (v + 1) * 256 ^ l.length := by
    intro l
    induction l with
    | nil => intro v; simp
    | cons b r ih =>
      intro v
      rw [List.foldl_cons, List.length_cons, Nat.pow_succ]
      have h1 := ih (v * 256 + b.toNat)
      have h2 := b.toNat_lt
      have h3 : (v * 256 + b.toNat + 1) * 256 ^ r.length ≤ ((v + 1) * 256) * 256 ^ r.length := Nat.mul_le_mul_right _ (by omega)
      rw [Nat.mul_comm (256 ^ r.length) 256, ← Nat.mul_assoc]
      omega
  have h := this l 0
  simpa [beV] using h
theorem beV_lt4 (l : List UInt8) (h : l.length = 4) : beV l < 4294967296 := by have h1 := beV_lt l; rw [h] at h1; exact h1

/-- What `end` makes of a state. -/
def ZS.fin (s : ZS) (b : List UInt8) : ZS :=
  if (s.foot ++ b).length < 4 then { s with foot := s.foot ++ b }
  else if beV ((s.foot ++ b).take 4) = s.sum then { s with foot := (s.foot ++ b).take 4, done := true, rest := s.rest ++ (s.foot ++ b).drop 4 }
  else { s with foot := (s.foot ++ b).take 4, e := 4 }

set_option maxRecDepth 100000 in
set_option maxHeartbeats 1000000 in
theorem end_any {w : World} {z : Nat} {lim : Int} {s : ZS} {Rs : List Res} (hS : Sat w (zd z lim s :: Rs)) (hf : s.foot.length ≤ 4) (hr : s.rest.length ≤ 1048576) {v : Value} {b : List UInt8} (hv : ∀ w', Sat w' Rs → SlR w' 5 1 b.length v (b.map byteV)) (hb : b.length ≤ 1048576) :
    Calls Try.prog 65 #[.pointer (some ⟨z, 0, none⟩), v] w fun e w' => e = .returned (.tuple #[]) ∧ Sat w' (zd z lim (s.fin b) :: Rs) := by
  obtain ⟨d, hv1, fv1, rv1, hL⟩ := zd_open hS
  obtain ⟨ao, cap, rfl, hbc, hbm, -, -⟩ := hv w hS.tail
  obtain ⟨q, head, foot, rest, done, e0⟩ := s
  replace hf : foot.length ≤ 4 := hf
  replace hr : rest.length ≤ 1048576 := hr
  obtain ⟨_, fo, fcap, rfl, -, -, -, -⟩ := hL.at_ 3 _ rfl
  obtain ⟨_, ro, rcap, rfl, -, -, -, -⟩ := hL.at_ 4 _ rfl
  obtain ⟨c0, c1, c2, c3, c4, c5, c6⟩ := zd_cells hL
  replace c2 : w.cell? ⟨z, 2, none⟩ = some (.slice fo foot.length fcap) := c2
  have f2 := zd_froz hL 2
  obtain ⟨n, hn⟩ : ∃ n : Nat, n = min (4 - foot.length) b.length := ⟨_, rfl⟩
  have hnb : n ≤ b.length := by omega
  have hnI : min ((4 : Int) - (foot.length : Int)) (b.length : Int) = (n : Int) := by omega
  have hncap : n ≤ cap := by omega
  unfold maxLen at hbm
  obtain ⟨i0, hi, ji0, ji1, ji2⟩ := info_parts Try.infoU8
  have HL := Lib.hid hL
  have Hv := Lib.hid hv
  have Hn := Lib.hid hn
  clear hS hv hL c0 c1 c3 c4 c5 c6 hn
  go_enter Try.func65, Try.ntmps65
  go_upto_region 0 with (fail)
  go_cut [4] from 7 (fun s4 wx => s4 = .int .i64 n ∧ wx = w)
  case first =>
    go_wp2
    all_goals first
      | (exfalso; omega)
      | (go_meet
         exact ⟨vi (by omega), rfl⟩)
  obtain ⟨rfl, rfl⟩ := hcut
  go_upto_region 1 with (fail)
  go_cut [1] from 7 (fun s1 wx => ∃ fv2, Hid (∀ w', Sat w' Rs → SlR w' 5 1 (b.drop n).length s1 ((b.drop n).map byteV)) ∧ Hid (Sat wx (zL z d lim ⟨q, head, foot ++ b.take n, rest, done, e0⟩ hv1 fv2 (.slice ro rest.length rcap) ++ Rs)))
  case first =>
    have hfl : (foot ++ b.take n).length = foot.length + n := by rw [List.length_append, List.length_take]; omega
    have HF := Lib.hid (Sat.perm (As := [_, _, _, _, _]) HL.out.drew [3, 0, 1, 2, 4] [_, _, _, _, _] rfl (by simp))
    have Hsrc := Lib.hid (SlR.src (P := Try.prog) (sl_hd (Hv.out _ (Sat.perm (As := [_, _, _, _, _]) (Bs := []) HL.out.drew [] rfl (by simp))) n hnb) Try.underlying22 (fun u hu => byteV_one b u (List.mem_of_mem_take hu)))
    have hnw : IntKind.i64.wrap (n : Int) = n := i64_id _ (by omega) (by omega)
    have hn0 : (0 : Int) ≤ (n : Int) := by omega
    have hn1 : (n : Int) ≤ (b.length : Int) := by omega
    have hn2 : (n : Int) ≤ (cap : Int) := by omega
    by_cases hcn : cap = n
    · have hcn2 := hcn.symm
      clear hcn
      subst hcn2
      refine wp_region_hz (z := 15) (S := fun _ => True) (by kernel_rfl) trivial (fun hHeld => ?_)
      refine wpHz_taken 0 16 ?v1 (by kernel_rfl) (by kernel_rfl) (by kernel_rfl) (by kernel_rfl) (by kernel_rfl) (fun _ _ _ h => h) (by rfl) ?hy1 (by assumption) ?rest1
      case hy1 => intro w hSw; (try dsimp only at hSw); simp only [List.getElem?_toArray, List.getElem?_cons_zero, List.getElem?_cons_succ]; go_simp; (try with_reducible rfl)
      try simp only [Act.put, List.setIfInBounds_toArray, List.set_cons_zero, List.set_cons_succ]
      refine wpHz_taken 1 17 ?v2 (by kernel_rfl) (by kernel_rfl) (by kernel_rfl) (by kernel_rfl) (by kernel_rfl) (fun _ _ _ h => h) (by rfl) ?hy2 (by assumption) ?rest2
      case hy2 => intro w hSw; (try dsimp only at hSw); simp only [List.getElem?_toArray, List.getElem?_cons_zero, List.getElem?_cons_succ]; go_simp; (try with_reducible rfl)
      try simp only [Act.put, List.setIfInBounds_toArray, List.set_cons_zero, List.set_cons_succ]
      refine wpHz_taken 2 18 ?v3 (by kernel_rfl) (by kernel_rfl) (by kernel_rfl) (by kernel_rfl) (by kernel_rfl) (fun _ _ _ h => h) (by rfl) ?hy3 (by assumption) ?rest3
      case hy3 => intro w hSw; (try dsimp only at hSw); simp only [List.getElem?_toArray, List.getElem?_cons_zero, List.getElem?_cons_succ]; go_simp; (try with_reducible rfl)
      try simp only [Act.put, List.setIfInBounds_toArray, List.set_cons_zero, List.set_cons_succ]
      refine wpHz_taken 3 19 ?v4 (by kernel_rfl) (by kernel_rfl) (by kernel_rfl) (by kernel_rfl) (by kernel_rfl) (fun _ _ _ h => h) (by rfl) ?hy4 (by assumption) ?rest4
      case hy4 => intro w hSw; (try dsimp only at hSw); simp only [List.getElem?_toArray, List.getElem?_cons_zero, List.getElem?_cons_succ]; go_simp; (try with_reducible rfl)
      try simp only [Act.put, List.setIfInBounds_toArray, List.set_cons_zero, List.set_cons_succ]
      refine wpHz_taken 5 21 ?v5 (by kernel_rfl) (by kernel_rfl) (by kernel_rfl) (by kernel_rfl) (by kernel_rfl) (fun _ _ _ h => h) (by rfl) ?hy5 (by assumption) ?rest5
      case hy5 => intro w hSw; (try dsimp only at hSw); simp only [List.getElem?_toArray, List.getElem?_cons_zero, List.getElem?_cons_succ]; go_simp; (try with_reducible rfl)
      try simp only [Act.put, List.setIfInBounds_toArray, List.set_cons_zero, List.set_cons_succ]
      refine wpHz_taken 6 22 ?v6 (by kernel_rfl) (by kernel_rfl) (by kernel_rfl) (by kernel_rfl) (by kernel_rfl) (fun _ _ _ h => h) (by rfl) ?hy6 (by assumption) ?rest6
      case hy6 => intro w hSw; (try dsimp only at hSw); simp only [List.getElem?_toArray, List.getElem?_cons_zero, List.getElem?_cons_succ]; go_simp; (try with_reducible rfl)
      try simp only [Act.put, List.setIfInBounds_toArray, List.set_cons_zero, List.set_cons_succ]
      refine wpHz_taken 7 23 ?v7 (by kernel_rfl) (by kernel_rfl) (by kernel_rfl) (by kernel_rfl) (by kernel_rfl) (fun _ _ _ h => h) (by rfl) ?hy7 (by assumption) ?rest7
      case hy7 => intro w hSw; (try dsimp only at hSw); simp only [List.getElem?_toArray, List.getElem?_cons_zero, List.getElem?_cons_succ]; go_simp; (try with_reducible rfl)
      try simp only [Act.put, List.setIfInBounds_toArray, List.set_cons_zero, List.set_cons_succ]
      refine wpHz_taken 9 25 ?v8 (by kernel_rfl) (by kernel_rfl) (by kernel_rfl) (by kernel_rfl) (by kernel_rfl) (fun _ _ _ h => h) (by rfl) ?hy8 (by assumption) ?rest8
      case hy8 => intro w hSw; (try dsimp only at hSw); simp only [List.getElem?_toArray, List.getElem?_cons_zero, List.getElem?_cons_succ]; go_simp; (try with_reducible rfl)
      try simp only [Act.put, List.setIfInBounds_toArray, List.set_cons_zero, List.set_cons_succ]
      refine wpHz_taken 10 26 ?v9 (by kernel_rfl) (by kernel_rfl) (by kernel_rfl) (by kernel_rfl) (by kernel_rfl) (fun _ _ _ h => h) (by rfl) ?hy9 (by assumption) ?rest9
      case hy9 => intro w hSw; (try dsimp only at hSw); simp only [List.getElem?_toArray, List.getElem?_cons_zero, List.getElem?_cons_succ]; go_simp; (try with_reducible rfl)
      try simp only [Act.put, List.setIfInBounds_toArray, List.set_cons_zero, List.set_cons_succ]
      refine wpHz_taken 11 27 ?v10 (by kernel_rfl) (by kernel_rfl) (by kernel_rfl) (by kernel_rfl) (by kernel_rfl) (fun _ _ _ h => h) (by rfl) ?hy10 (by assumption) ?rest10
      case hy10 => intro w hSw; (try dsimp only at hSw); simp only [List.getElem?_toArray, List.getElem?_cons_zero, List.getElem?_cons_succ]; go_simp; (try with_reducible rfl)
      try simp only [Act.put, List.setIfInBounds_toArray, List.set_cons_zero, List.set_cons_succ]
      refine wpHz_one 4 (by kernel_rfl) (by rfl) (fun K hK => ?_)
      simp only [List.getElem?_toArray, List.getElem?_cons_zero, List.getElem?_cons_succ]
      go_simp
      clear hHeld
      refine hK.out _ _ (fun _ => trivial) (fun hHeld => ?_)
      replace hHeld := hHeld (by decide)
      clear hK K
      try simp only [Act.put, List.setIfInBounds_toArray, List.set_cons_zero, List.set_cons_succ]
      refine wpHz_one 8 (by kernel_rfl) (by rfl) (fun K hK => ?_)
      simp only [List.getElem?_toArray, List.getElem?_cons_zero, List.getElem?_cons_succ]
      refine wp_append_sat _ _ _ 22 22 rfl 5 i0 (.int .u8 0) 1 1 Try.underlying22 hi ji0 ji1 ji2 rfl (by decide) foot.length _ _ _ rfl HF.out n _ _ rfl Hsrc.out (by unfold maxLen; omega) (by omega) ?_
      intro v9 w9 hS9
      rw [← List.map_take, ← List.map_append] at hS9
      obtain ⟨_, ao9, cap9, rfl, -, -, -, -⟩ := hS9.at_ 0 _ rfl
      have hb9 := Sat.heap (Sat.front hS9 1 _ rfl)
      have f9 : w9.frozen? ⟨z, 2, none⟩ = false := frozen_of_row w9 z 2 _ _ hb9
      have g9 : w9.cell? ⟨z, 2, none⟩ = some (.slice fo foot.length fcap) := by rw [cell_of_row w9 z 2 _ _ _ hb9]; rfl
      have HS9 := Lib.hid hS9
      clear hS9 hb9 HF Hsrc
      clear hHeld
      refine hK.out _ _ (fun _ => trivial) (fun hHeld => ?_)
      replace hHeld := hHeld (by decide)
      clear hK K
      try simp only [Act.put, List.setIfInBounds_toArray, List.set_cons_zero, List.set_cons_succ]
      refine wpHz_taken 12 28 ?v13 (by kernel_rfl) (by kernel_rfl) (by kernel_rfl) (by kernel_rfl) (by kernel_rfl) (fun _ _ _ h => h) (by rfl) ?hy13 (by assumption) ?rest13
      case hy13 => intro w hSw; (try dsimp only at hSw); simp only [List.getElem?_toArray, List.getElem?_cons_zero, List.getElem?_cons_succ]; go_simp; (try with_reducible rfl)
      try simp only [Act.put, List.setIfInBounds_toArray, List.set_cons_zero, List.set_cons_succ]
      refine wpHz_taken 13 29 ?v14 (by kernel_rfl) (by kernel_rfl) (by kernel_rfl) (by kernel_rfl) (by kernel_rfl) (fun _ _ _ h => h) (by rfl) ?hy14 (by assumption) ?rest14
      case hy14 => intro w hSw; (try dsimp only at hSw); simp only [List.getElem?_toArray, List.getElem?_cons_zero, List.getElem?_cons_succ]; go_simp; (try with_reducible rfl)
      try simp only [Act.put, List.setIfInBounds_toArray, List.set_cons_zero, List.set_cons_succ]
      refine wpHz_one 14 (by kernel_rfl) (by rfl) (fun K hK => ?_)
      simp only [List.getElem?_toArray, List.getElem?_cons_zero, List.getElem?_cons_succ]
      go_simp
      clear hHeld
      refine hK.out _ _ (fun _ => trivial) (fun hHeld => ?_)
      replace hHeld := hHeld (by decide)
      clear hK K
      try simp only [Act.put, List.setIfInBounds_toArray, List.set_cons_zero, List.set_cons_succ]
      refine wpHz_one 15 (by kernel_rfl) (by rfl) (fun K hK => ?_)
      simp only [List.getElem?_toArray, List.getElem?_cons_zero, List.getElem?_cons_succ]
      go_simp
      refine hK.out _ _ (fun h => absurd rfl h) (fun _ => ?_)
      clear hK K
      try simp only [Act.put, List.setIfInBounds_toArray, List.set_cons_zero, List.set_cons_succ]
      refine wpHz_done (by kernel_rfl) ?_ _
      clear hHeld
      have hset := Sat.setCell (i := 2) (Sat.front HS9.out 1 _ rfl) (.slice ao9 (foot.length + n) cap9)
      have hfin := Sat.perm (As := [_, _, _, _, _]) hset [0, 2, 3, 1, 4] [_, _, _, _, _] rfl (by simp)
      have Hfin := Lib.hid hfin
      clear hset hfin
      go_wp2
      go_meet
      refine ⟨.slice ao9 (foot.length + n) cap9, fun w' h' => ?_, ?_⟩
      · have h9 := sl_tl (Hv.out w' h') n hnb
        rw [if_pos rfl, Nat.sub_self] at h9
        rw [List.length_drop, List.map_drop]
        have e9 : b.length - n = 0 := by omega
        rw [e9] at h9 ⊢
        exact h9
      · have h9 := Hfin.out
        unfold Hid
        rw [← hfl] at h9 ⊢
        exact h9
    · refine wp_region_hz (z := 15) (S := fun _ => True) (by kernel_rfl) trivial (fun hHeld => ?_)
      refine wpHz_taken 0 16 ?v16 (by kernel_rfl) (by kernel_rfl) (by kernel_rfl) (by kernel_rfl) (by kernel_rfl) (fun _ _ _ h => h) (by rfl) ?hy16 (by assumption) ?rest16
      case hy16 => intro w hSw; (try dsimp only at hSw); simp only [List.getElem?_toArray, List.getElem?_cons_zero, List.getElem?_cons_succ]; go_simp; (try with_reducible rfl)
      try simp only [Act.put, List.setIfInBounds_toArray, List.set_cons_zero, List.set_cons_succ]
      refine wpHz_taken 1 17 ?v17 (by kernel_rfl) (by kernel_rfl) (by kernel_rfl) (by kernel_rfl) (by kernel_rfl) (fun _ _ _ h => h) (by rfl) ?hy17 (by assumption) ?rest17
      case hy17 => intro w hSw; (try dsimp only at hSw); simp only [List.getElem?_toArray, List.getElem?_cons_zero, List.getElem?_cons_succ]; go_simp; (try with_reducible rfl)
      try simp only [Act.put, List.setIfInBounds_toArray, List.set_cons_zero, List.set_cons_succ]
      refine wpHz_taken 2 18 ?v18 (by kernel_rfl) (by kernel_rfl) (by kernel_rfl) (by kernel_rfl) (by kernel_rfl) (fun _ _ _ h => h) (by rfl) ?hy18 (by assumption) ?rest18
      case hy18 => intro w hSw; (try dsimp only at hSw); simp only [List.getElem?_toArray, List.getElem?_cons_zero, List.getElem?_cons_succ]; go_simp; (try with_reducible rfl)
      try simp only [Act.put, List.setIfInBounds_toArray, List.set_cons_zero, List.set_cons_succ]
      refine wpHz_taken 3 19 ?v19 (by kernel_rfl) (by kernel_rfl) (by kernel_rfl) (by kernel_rfl) (by kernel_rfl) (fun _ _ _ h => h) (by rfl) ?hy19 (by assumption) ?rest19
      case hy19 => intro w hSw; (try dsimp only at hSw); simp only [List.getElem?_toArray, List.getElem?_cons_zero, List.getElem?_cons_succ]; go_simp; (try with_reducible rfl)
      try simp only [Act.put, List.setIfInBounds_toArray, List.set_cons_zero, List.set_cons_succ]
      refine wpHz_taken 5 21 ?v20 (by kernel_rfl) (by kernel_rfl) (by kernel_rfl) (by kernel_rfl) (by kernel_rfl) (fun _ _ _ h => h) (by rfl) ?hy20 (by assumption) ?rest20
      case hy20 => intro w hSw; (try dsimp only at hSw); simp only [List.getElem?_toArray, List.getElem?_cons_zero, List.getElem?_cons_succ]; go_simp; (try with_reducible rfl)
      try simp only [Act.put, List.setIfInBounds_toArray, List.set_cons_zero, List.set_cons_succ]
      refine wpHz_taken 6 22 ?v21 (by kernel_rfl) (by kernel_rfl) (by kernel_rfl) (by kernel_rfl) (by kernel_rfl) (fun _ _ _ h => h) (by rfl) ?hy21 (by assumption) ?rest21
      case hy21 => intro w hSw; (try dsimp only at hSw); simp only [List.getElem?_toArray, List.getElem?_cons_zero, List.getElem?_cons_succ]; go_simp; (try with_reducible rfl)
      try simp only [Act.put, List.setIfInBounds_toArray, List.set_cons_zero, List.set_cons_succ]
      refine wpHz_taken 7 23 ?v22 (by kernel_rfl) (by kernel_rfl) (by kernel_rfl) (by kernel_rfl) (by kernel_rfl) (fun _ _ _ h => h) (by rfl) ?hy22 (by assumption) ?rest22
      case hy22 => intro w hSw; (try dsimp only at hSw); simp only [List.getElem?_toArray, List.getElem?_cons_zero, List.getElem?_cons_succ]; go_simp; (try with_reducible rfl)
      try simp only [Act.put, List.setIfInBounds_toArray, List.set_cons_zero, List.set_cons_succ]
      refine wpHz_taken 9 25 ?v23 (by kernel_rfl) (by kernel_rfl) (by kernel_rfl) (by kernel_rfl) (by kernel_rfl) (fun _ _ _ h => h) (by rfl) ?hy23 (by assumption) ?rest23
      case hy23 => intro w hSw; (try dsimp only at hSw); simp only [List.getElem?_toArray, List.getElem?_cons_zero, List.getElem?_cons_succ]; go_simp; (try with_reducible rfl)
      try simp only [Act.put, List.setIfInBounds_toArray, List.set_cons_zero, List.set_cons_succ]
      refine wpHz_taken 10 26 ?v24 (by kernel_rfl) (by kernel_rfl) (by kernel_rfl) (by kernel_rfl) (by kernel_rfl) (fun _ _ _ h => h) (by rfl) ?hy24 (by assumption) ?rest24
      case hy24 => intro w hSw; (try dsimp only at hSw); simp only [List.getElem?_toArray, List.getElem?_cons_zero, List.getElem?_cons_succ]; go_simp; (try with_reducible rfl)
      try simp only [Act.put, List.setIfInBounds_toArray, List.set_cons_zero, List.set_cons_succ]
      refine wpHz_taken 11 27 ?v25 (by kernel_rfl) (by kernel_rfl) (by kernel_rfl) (by kernel_rfl) (by kernel_rfl) (fun _ _ _ h => h) (by rfl) ?hy25 (by assumption) ?rest25
      case hy25 => intro w hSw; (try dsimp only at hSw); simp only [List.getElem?_toArray, List.getElem?_cons_zero, List.getElem?_cons_succ]; go_simp; (try with_reducible rfl)
      try simp only [Act.put, List.setIfInBounds_toArray, List.set_cons_zero, List.set_cons_succ]
      refine wpHz_one 4 (by kernel_rfl) (by rfl) (fun K hK => ?_)
      simp only [List.getElem?_toArray, List.getElem?_cons_zero, List.getElem?_cons_succ]
      go_simp
      clear hHeld
      refine hK.out _ _ (fun _ => trivial) (fun hHeld => ?_)
      replace hHeld := hHeld (by decide)
      clear hK K
      try simp only [Act.put, List.setIfInBounds_toArray, List.set_cons_zero, List.set_cons_succ]
      refine wpHz_one 8 (by kernel_rfl) (by rfl) (fun K hK => ?_)
      simp only [List.getElem?_toArray, List.getElem?_cons_zero, List.getElem?_cons_succ]
      refine wp_append_sat _ _ _ 22 22 rfl 5 i0 (.int .u8 0) 1 1 Try.underlying22 hi ji0 ji1 ji2 rfl (by decide) foot.length _ _ _ rfl HF.out n _ _ rfl Hsrc.out (by unfold maxLen; omega) (by omega) ?_
      intro v9 w9 hS9
      rw [← List.map_take, ← List.map_append] at hS9
      obtain ⟨_, ao9, cap9, rfl, -, -, -, -⟩ := hS9.at_ 0 _ rfl
      have hb9 := Sat.heap (Sat.front hS9 1 _ rfl)
      have f9 : w9.frozen? ⟨z, 2, none⟩ = false := frozen_of_row w9 z 2 _ _ hb9
      have g9 : w9.cell? ⟨z, 2, none⟩ = some (.slice fo foot.length fcap) := by rw [cell_of_row w9 z 2 _ _ _ hb9]; rfl
      have HS9 := Lib.hid hS9
      clear hS9 hb9 HF Hsrc
      clear hHeld
      refine hK.out _ _ (fun _ => trivial) (fun hHeld => ?_)
      replace hHeld := hHeld (by decide)
      clear hK K
      try simp only [Act.put, List.setIfInBounds_toArray, List.set_cons_zero, List.set_cons_succ]
      refine wpHz_taken 12 28 ?v28 (by kernel_rfl) (by kernel_rfl) (by kernel_rfl) (by kernel_rfl) (by kernel_rfl) (fun _ _ _ h => h) (by rfl) ?hy28 (by assumption) ?rest28
      case hy28 => intro w hSw; (try dsimp only at hSw); simp only [List.getElem?_toArray, List.getElem?_cons_zero, List.getElem?_cons_succ]; go_simp; (try with_reducible rfl)
      try simp only [Act.put, List.setIfInBounds_toArray, List.set_cons_zero, List.set_cons_succ]
      refine wpHz_taken 13 29 ?v29 (by kernel_rfl) (by kernel_rfl) (by kernel_rfl) (by kernel_rfl) (by kernel_rfl) (fun _ _ _ h => h) (by rfl) ?hy29 (by assumption) ?rest29
      case hy29 => intro w hSw; (try dsimp only at hSw); simp only [List.getElem?_toArray, List.getElem?_cons_zero, List.getElem?_cons_succ]; go_simp; (try with_reducible rfl)
      try simp only [Act.put, List.setIfInBounds_toArray, List.set_cons_zero, List.set_cons_succ]
      refine wpHz_one 14 (by kernel_rfl) (by rfl) (fun K hK => ?_)
      simp only [List.getElem?_toArray, List.getElem?_cons_zero, List.getElem?_cons_succ]
      go_simp
      clear hHeld
      refine hK.out _ _ (fun _ => trivial) (fun hHeld => ?_)
      replace hHeld := hHeld (by decide)
      clear hK K
      try simp only [Act.put, List.setIfInBounds_toArray, List.set_cons_zero, List.set_cons_succ]
      refine wpHz_one 15 (by kernel_rfl) (by rfl) (fun K hK => ?_)
      simp only [List.getElem?_toArray, List.getElem?_cons_zero, List.getElem?_cons_succ]
      go_simp
      refine hK.out _ _ (fun h => absurd rfl h) (fun _ => ?_)
      clear hK K
      try simp only [Act.put, List.setIfInBounds_toArray, List.set_cons_zero, List.set_cons_succ]
      refine wpHz_done (by kernel_rfl) ?_ _
      clear hHeld
      have hset := Sat.setCell (i := 2) (Sat.front HS9.out 1 _ rfl) (.slice ao9 (foot.length + n) cap9)
      have hfin := Sat.perm (As := [_, _, _, _, _]) hset [0, 2, 3, 1, 4] [_, _, _, _, _] rfl (by simp)
      have Hfin := Lib.hid hfin
      clear hset hfin
      go_wp2
      go_meet
      refine ⟨.slice ao9 (foot.length + n) cap9, fun w' h' => ?_, ?_⟩
      · have h9 := sl_tl (Hv.out w' h') n hnb
        rw [if_neg hcn] at h9
        rw [List.length_drop, List.map_drop]
        exact h9
      · have h9 := Hfin.out
        unfold Hid
        rw [← hfl] at h9 ⊢
        exact h9
  obtain ⟨fv2, Hv2, HL2⟩ := hcut
  clear HL f2 c2 hnI
  obtain ⟨F, HF⟩ : ∃ F, Hid (F = foot ++ b.take n) := ⟨_, Lib.hid rfl⟩
  obtain ⟨B, HB⟩ : ∃ B, Hid (B = b.drop n) := ⟨_, Lib.hid rfl⟩
  have hFl : F.length = foot.length + n := by rw [HF.out, List.length_append, List.length_take]; omega
  have hF4 : F.length ≤ 4 := by have := Hn.out; omega
  have hBl : B.length ≤ 1048576 := by rw [HB.out, List.length_drop]; omega
  rw [← HB.out] at Hv2
  rw [← HF.out] at HL2
  -- what comes of it, in plain words
  have Hfin : Hid ((ZS.fin ⟨q, head, foot, rest, done, e0⟩ b) = if F.length < 4 then ⟨q, head, F, rest, done, e0⟩ else if beV F = ZS.sum ⟨q, head, foot, rest, done, e0⟩ then ⟨q, head, F, rest ++ B, true, e0⟩ else ⟨q, head, F, rest, done, 4⟩) := by
    have en := Hn.out
    unfold Hid ZS.fin
    simp only
    by_cases h4 : (foot ++ b).length < 4
    · have hnb2 : n = b.length := by rw [List.length_append] at h4; omega
      have eF : F = foot ++ b := by rw [HF.out, hnb2, List.take_length]
      rw [if_pos h4, if_pos (by rw [eF]; exact h4), eF]
    · have hn4 : foot.length + n = 4 := by rw [List.length_append] at h4; omega
      have eF : (foot ++ b).take 4 = F := by rw [HF.out, ← hn4, List.take_length_add_append]
      have eB : (foot ++ b).drop 4 = B := by rw [HB.out, ← hn4, List.drop_length_add_append]
      rw [if_neg h4, if_neg (show ¬ F.length < 4 by omega), eF, eB]
  have HFl := Lib.hid hFl
  clear hFl
  obtain ⟨_, fo2, fcap2, rfl, -, -, -, -⟩ := HL2.out.at_ 3 _ rfl
  obtain ⟨c0, c1, c2, c3, c4, c5, c6⟩ := zd_cells HL2.out
  replace c2 : wc.cell? ⟨z, 2, none⟩ = some (.slice fo2 F.length fcap2) := c2
  replace c5 : wc.cell? ⟨z, 5, none⟩ = some (.slice ro rest.length rcap) := c5
  obtain ⟨S, HS⟩ : ∃ S, Hid (S = ZS.sum ⟨q, head, foot, rest, done, e0⟩) := ⟨_, Lib.hid rfl⟩
  have hSb : S < 4294967296 := by rw [HS.out]; exact ZS.sum_lt _
  rw [← HS.out] at Hfin
  replace c3 : wc.cell? ⟨z, 3, none⟩ = some (.int .u32 (S : Nat)) := by rw [HS.out]; exact c3
  have f4 := zd_froz HL2.out 4
  have f5 := zd_froz HL2.out 5
  have f6 := zd_froz HL2.out 6
  clear c0 c1
  by_cases hlt : F.length < 4
  · have hd : decide ((F.length : Int) < 4) = true := decide_eq_true (by omega)
    have hd' : decide (F.length < 4) = true := decide_eq_true hlt
    go_wp2
    ((try simp only [Exit.inBlock, Exit.then]); refine bodyPost_ret (results_none rfl _ _ _) rfl ?_)
    rw [Hfin.out, if_pos hlt]
    exact ⟨rfl, zd_shut HL2.out⟩
  · have hd : decide ((F.length : Int) < 4) = false := decide_eq_false (by omega)
    have hd' : decide (F.length < 4) = false := decide_eq_false hlt
    have hF4e : F.length = 4 := by omega
    have hread : BytesR wc (.slice fo2 F.length fcap2) F := (Sat.front HL2.out 3 _ rfl).sl_read
    have hbig := big_ok hread (at' := 0) (n := 4) (by omega) (by omega) (by omega)
    rw [List.drop_zero, List.take_of_length_le (by omega), show ((0 : Nat) : Int) = 0 from rfl, show ((4 : Nat) : Int) = 4 from rfl] at hbig
    obtain ⟨V, HV⟩ : ∃ V, Hid (V = beV F) := ⟨_, Lib.hid rfl⟩
    have hVb : V < 4294967296 := by rw [HV.out]; exact beV_lt4 F hF4e
    rw [← HV.out] at hbig Hfin
    have Hbig := Lib.hid hbig
    have Hno := Lib.hid hlt
    clear hread hbig hF4e hlt
    by_cases hVS : V = S
    · have hVI : ((V : Int) != (S : Int)) = false := by rw [hVS]; simp
      have hVS2 := hVS
      subst hVS2
      have HL3 := Lib.hid (zd_set (s' := ⟨q, head, F, rest, true, e0⟩) (v := .bool true) HL2.out 4 rfl)
      have HA3 := Lib.hid (Sat.perm (As := [_, _, _, _, _]) HL3.out [4, 0, 1, 2, 3] [_, _, _, _, _] rfl (by simp))
      have Hsrc := Lib.hid (SlR.src (P := Try.prog) (Hv2.out _ (Sat.perm (As := [_, _, _, _, _]) (Bs := []) HL3.out [] rfl (by simp))) Try.underlying22 (byteV_one B))
      obtain ⟨bo2, bcap2, hBv, -, -, -, -⟩ := Hv2.out _ (Sat.perm (As := [_, _, _, _, _]) (Bs := []) HL3.out [] rfl (by simp))
      subst hBv
      clear HL2
      go_wp2_with (first
        | (go_at_call 64; (with_reducible refine Hbig.out.mono ?_); rintro e' w3 ⟨rfl, rfl⟩)
        | (at_builtin; refine wpList_append_sat _ rfl _ _ 22 22 rfl 5 i0 (.int .u8 0) 1 1 Try.underlying22 hi ji0 ji1 ji2 rfl (by decide) rest.length _ _ _ rfl HA3.out B.length _ _ rfl Hsrc.out (by unfold maxLen; omega) (by omega) ?_; intro v9 w9 hS9; rw [← List.map_append] at hS9; obtain ⟨_, ao9, cap9, hv9, -, -, -, -⟩ := hS9.at_ 0 _ rfl; subst hv9; have hb9 := Sat.heap (Sat.front hS9 1 _ rfl); have f9 : w9.frozen? ⟨z, 5, none⟩ = false := frozen_of_row w9 z 5 _ _ hb9; have g9 : w9.cell? ⟨z, 5, none⟩ = some (.slice ro rest.length rcap) := (by rw [cell_of_row w9 z 5 _ _ _ hb9]; rfl); have HS9 := Lib.hid hS9; clear hS9 hb9 HA3 Hsrc))
      have Hend : Hid (Sat (w9.setCell ⟨z, 5, none⟩ (.slice ao9 (rest.length + B.length) cap9)) (zd z lim ⟨q, head, F, rest ++ B, true, e0⟩ :: Rs)) := by
        have h := Sat.setCell (i := 5) (Sat.front HS9.out 1 _ rfl) (.slice ao9 (rest.length + B.length) cap9)
        rw [← List.length_append] at h ⊢
        exact zd_shut (d := d) (hv := hv1) (fv := .slice fo2 F.length fcap2) (rv := .slice ao9 (rest ++ B).length cap9) (Sat.perm (As := [_, _, _, _, _]) h [0, 2, 3, 4, 1] [_, _, _, _, _] rfl (by simp))
      go_end0
      rw [Hfin.out, if_neg Hno.out, if_pos trivial]
      exact ⟨rfl, Hend.out⟩
    · have hVI : ((V : Int) != (S : Int)) = true := bne_iff_ne.2 (by omega)
      have HVS := Lib.hid hVS
      have Hset : Hid (Sat (wc.setCell ⟨z, 6, none⟩ (.int .i64 4)) (zd z lim ⟨q, head, F, rest, done, 4⟩ :: Rs)) := zd_shut (zd_set (s' := ⟨q, head, F, rest, done, 4⟩) HL2.out 6 rfl)
      clear hVS
      go_wp2_with (go_at_call 64; (with_reducible refine Hbig.out.mono ?_); rintro e' w3 ⟨rfl, rfl⟩)
      ((try simp only [Exit.inBlock, Exit.then]); refine bodyPost_ret (results_none rfl _ _ _) rfl ?_)
      rw [Hfin.out, if_neg Hno.out, if_neg HVS.out]
      exact ⟨rfl, Hset.out⟩

end Go.Proofs.Ytdpocnkeokplpaa
