/- The reference of layer 5: Words. -/
import Derived.Test.YtobkmkdnkdbgeaaRef5
namespace Go.Proofs.Ytobkmkdnkdbgeaa
open Go.RowKit Go.Hal
set_option linter.unusedVariables false
set_option linter.unusedSimpArgs false

/-- A word's bits, the first first. -/
def wbits (L : List Nat) (t : Nat) : List Bool := (List.range ((L[t]?).getD 0)).map fun i => (codeOf L t).testBit ((L[t]?).getD 0 - 1 - i)
theorem wbits_length (L : List Nat) (t : Nat) : (wbits L t).length = (wd L t).1 := by simp [wbits, wd]
theorem num_wbits (L : List Nat) (t : Nat) : num (wbits L t) = (wd L t).2 := by
  refine (num_eq fun k => ?_).symm
  unfold wd wbits
  simp only
  rw [rev_testBit, List.getElem?_map]
  by_cases h : k < (L[t]?).getD 0
  · rw [List.getElem?_range h]; simp only [h, decide_true, Bool.true_and, Option.map_some, Option.getD_some]
  · rw [List.getElem?_eq_none (l := List.range ((L[t]?).getD 0)) (by rw [List.length_range]; omega)]; simp [h]

/-- The code that comes next. -/
def nextC (L : List Nat) (n s : Nat) : Nat := 2 * ends L (n - 1) + rank L n s
theorem nextC_succ (L : List Nat) (n s : Nat) : nextC L n (s + 1) = nextC L n s + if L[s]? = some n then 1 else 0 := by
  unfold nextC; rw [rank_succ]; omega
theorem nextC_up (L : List Nat) (n : Nat) (h : 1 ≤ n) : nextC L (n + 1) 0 = 2 * nextC L n L.length := by
  obtain ⟨n, rfl⟩ : ∃ m, n = m + 1 := ⟨n - 1, by omega⟩
  unfold nextC
  simp only [Nat.add_sub_cancel, ends, rank, symsOf]
  simp
theorem ends_le (L : List Nat) (n : Nat) : ends L n + L.length ≤ L.length * 2 ^ n := by
  induction n with
  | zero => simp [ends]
  | succ n ih =>
    simp only [ends, Nat.pow_succ]
    have h1 := rank_le L (n + 1) L.length
    rw [← Nat.mul_assoc]
    omega

def wordC (T : List (Nat × Value)) : List Value := T.flatMap fun x => [.int .i64 (x.1 : Nat), x.2]
theorem wordC_append (a b : List (Nat × Value)) : wordC (a ++ b) = wordC a ++ wordC b := by simp [wordC]
/-- A word that lies there. -/
def entW (L : List Nat) (x : Nat × Value) : Ent := ⟨3, 1, (wbits L x.1).length, x.2, (bitsI (wbits L x.1)).map intV⟩

theorem nextC_le (L : List Nat) (n s : Nat) (h1 : 1 ≤ n) (h15 : n ≤ 15) (hl : L.length ≤ 288) (hs : s ≤ L.length) : nextC L n s ≤ 18874368 := by
  unfold nextC
  have h2 := ends_le L (n - 1)
  have h3 := rank_le L n s
  have h4 : L.length * 2 ^ (n - 1) ≤ 288 * 2 ^ 14 := Nat.mul_le_mul hl (Nat.pow_le_pow_right (by omega) (by omega))
  omega

/-- What has been laid when length n is at symbol s. -/
def WRel (L : List Nat) (Rs : List Res) (done : List Nat) (n s : Nat) (out v ahead : Value) (wr : World) : Prop :=
  ∃ (T : List (Nat × Value)) (P : List Ent) (c a : Nat), Hid (T.map (·.1) = done) ∧ T.length ≤ (n - 1) * 288 + s ∧ Hid (∀ x ∈ T, entW L x ∈ P) ∧ v = .int .i64 c ∧ ahead = .int .i64 a ∧ c ≤ 18874368 ∧ a ≤ n ∧
    (T.length = 0 ∧ c = 0 ∧ Hid (nextC L n s = 0) ∨ 0 < T.length ∧ 1 ≤ a ∧ Hid ((c + 1) * 2 ^ (n - a) = nextC L n s)) ∧
    Sat wr (sl 34 2 T.length out (wordC T) :: pool P :: Rs)

theorem Try.infoIntW : (Try.prog.info? 3).map (fun i => (i.zero, i.size, i.bytes)) = some (some (.int .i64 0), 1, 8) := by kernel_rfl
theorem Try.infoRW : (Try.prog.info? 34).map (fun i => (i.zero, i.size, i.bytes)) = some (some (.agg #[.int .i64 0, .slice none 0 0]), 2, 32) := by kernel_rfl

theorem shl_code (c n a x : Nat) (hx : (c + 1) * 2 ^ (n - a) = x) (hx2 : x ≤ 18874368) :
    wrap64 (((c : Int) + 1) * 2 ^ (n - a)) = (x : Nat) := by
  have e2 : ((c : Int) + 1) * 2 ^ (n - a) = (x : Int) := by rw [← hx]; simp
  rw [e2, wrap64_id _ (by omega) (by omega)]

theorem bit_i64 (x q : Nat) (hx : x < 2 ^ 60) : bits .and .i64 ((x : Int) / 2 ^ q) 1 = ((x.testBit q).toNat : Nat) := by
  have e2 : ((x : Int) / 2 ^ q) = ((x / 2 ^ q : Nat) : Int) := by simp
  have h3 : x / 2 ^ q ≤ x := Nat.div_le_self _ _
  rw [e2, testBit_div]
  generalize x / 2 ^ q = z at *
  rw [and1 _ (by omega) (by omega)]
  omega

set_option maxRecDepth 100000 in
set_option maxHeartbeats 2000000 in
theorem words_any {w : World} {Rs : List Res} (hS : Sat w Rs) (v : Value) (L : List Nat) (hv : ∀ w', Sat w' Rs → IntsR w' v (natsV L)) (hl : L.length ≤ 288) (hx : ∀ x ∈ L, x ≤ 15) :
    Calls Try.prog 19 #[v] w fun e w' => ∃ (out : Value) (T : List (Nat × Value)) (P : List Ent), e = .returned out ∧ T.map (·.1) = ord L 15 ∧ (∀ x ∈ T, entW L x ∈ P) ∧ Sat w' (sl 34 2 T.length out (wordC T) :: pool P :: Rs) := by
  have hlen : (natsV L).length = L.length := by simp [natsV]
  obtain ⟨ao, cap, rfl, h1, h2, -⟩ := (hv w hS).cell
  have hcell : ∀ w', Sat w' Rs → ∀ k (hk : k < L.length), ∃ b o, ao = some ⟨b, o, none⟩ ∧ w'.cell? ⟨b, o + k, none⟩ = some (.int .i64 (L[k] : Nat)) := by
    intro w' h k hk
    obtain ⟨ao', cap', heq, -, -, hc⟩ := (hv w' h).cell
    simp only [Value.slice.injEq, true_and] at heq
    obtain ⟨rfl, rfl⟩ := heq
    obtain ⟨b, o, e, -, hb⟩ := hc k (by rw [hlen]; exact hk)
    exact ⟨b, o, e, by rw [hb]; simp [natsV]⟩
  rw [hlen] at h1 ⊢
  have Hc := Lib.hid hcell
  have Hx := Lib.hid hx
  obtain ⟨i0, hi, hz0, hz1, hz2⟩ := info_parts Try.infoRW
  obtain ⟨i1, hi1, hy0, hy1, hy2⟩ := info_parts Try.infoIntW
  clear hv hcell hx hlen
  go_enter Try.func19, Try.ntmps19
  go_wp2
  go_loopw [3, 4, 5, 6] (fun out v a i wr => ∃ n : Nat, 1 ≤ n ∧ n ≤ 16 ∧ i = .int .i64 n ∧ WRel L Rs (ord L (n - 1)) n 0 out v a wr) (fun _ _ _ i _ => 17 - (intOf i).toNat)
  case atStart =>
    refine ⟨1, by omega, by omega, rfl, [], [], 0, 0, ?_, by simp, ?_, rfl, rfl, by omega, by omega, .inl ⟨rfl, rfl, ?_⟩, (hS.pool_nil).sl_nil _ _ _⟩
    · unfold Hid; simp [ord]
    · unfold Hid; simp
    · unfold Hid; simp [nextC, ends, rank, symsOf]
  case round =>
    obtain ⟨n, hn1, hn16, rfl, hrel2⟩ := hrel
    by_cases hn : n ≤ 15
    · have hd : decide ((n : Int) ≤ 15) = true := decide_eq_true (by omega)
      have Hrel := Lib.hid hrel2
      clear hrel2
      go_wp2
      go_loopw [3, 4, 5, 17] (fun out v a i wr => ∃ s : Nat, s ≤ L.length ∧ i = .int .i64 s ∧ WRel L Rs (ord L (n - 1) ++ symsOf L n s) n s out v a wr) (fun _ _ _ i _ => L.length - (intOf i).toNat)
      case atStart => exact ⟨0, by omega, rfl, by simpa [symsOf] using Hrel.out⟩
      case round =>
        obtain ⟨s, hs, rfl, T, P, c, a, HT, hTl, HTP, rfl, rfl, hc, ha, hcase, hS1⟩ := hrel
        have hSr : Sat wr Rs := Sat.perm (As := [_, _]) (Bs := []) hS1 [] rfl (by simp)
        obtain ⟨F3, ao3, cap3, rfl, -, -, -, -⟩ := hS1.first
        by_cases hlt : s < L.length
        · obtain ⟨b, o, rfl, hcs⟩ := Hc.out wr hSr s hlt
          have hd2 : decide (s < L.length) = true := decide_eq_true hlt
          by_cases hhit : L[s] = n
          · have hLs : L[s]? = some n := by rw [List.getElem?_eq_getElem hlt, hhit]
            have hcode : codeOf L s = nextC L n s := by
              unfold codeOf nextC; rw [hLs]; rfl
            have hw1 : (wbits L s).length = n := by rw [wbits_length, wd_at hLs]
            have hbit : ∀ j, j < n → (wbits L s)[j]? = some ((codeOf L s).testBit (n - 1 - j)) := by
              intro j hj; simp [wbits, hLs, hj]
            have hnc := nextC_le L n s hn1 hn hl hs
            have hTd : T.map (·.1) ++ [s] = ord L (n - 1) ++ symsOf L n (s + 1) := by
              rw [symsOf_succ, if_pos hLs, ← List.append_assoc, HT.out]
            have hTl2 : T.length ≤ 8192 := by omega
            obtain ⟨x, Hxc⟩ : ∃ x, Hid (x = nextC L n s) := ⟨_, Lib.hid rfl⟩
            have heq : (((L[s] : Nat) : Int) != (n : Int)) = false := by simp [hhit]
            have HLs := Lib.hid hLs
            have Hcode := Lib.hid hcode
            have Hw1 := Lib.hid hw1
            have Hbit := Lib.hid hbit
            have HTd := Lib.hid hTd
            rw [← Hxc.out] at hnc
            clear hhit hLs hcode hw1 hbit hTd
            rcases hcase with ⟨h0, hc0, hz⟩ | ⟨h0, ha1, hz⟩
            · have d1 : decide (0 < T.length) = false := decide_eq_false (by omega)
              obtain rfl : c = x := by rw [hc0, Hxc.out, hz.out]
              have H0 := Lib.hid h0
              clear hc0 h0
              have Hsh := Lib.hid (show (c : Int) = c from rfl)
              go_wp2
              have hA := hS1.alloc (.cells #[.int .i64 (s : Nat), .slice none 0 0] 34)
              have hC := Sat.swap (hA.sl_nil 3 1 none)
              generalize (wr.alloc (.cells #[.int .i64 (s : Nat), .slice none 0 0] 34)) = W at hC ⊢
              generalize wr.heap.size = wb at hC ⊢
              clear hA hS1 hSr hcs
              go_loopw [10] (fun i wq => ∃ (m : Nat) (bv : Value), m ≤ n ∧ i = .int .i64 ((m : Int) - 1) ∧ Sat wq (blk wb (.cells #[.int .i64 (s : Nat), bv] 34 (0, 0)) :: sl 3 1 (n - m) bv ((bitsI ((wbits L s).take (n - m))).map intV) :: sl 34 2 T.length (.slice ao3 T.length cap3) (wordC T) :: pool P :: Rs)) (fun i _ => (intOf i + 1).toNat)
              case atStart => exact ⟨n, .slice none 0 0, by omega, rfl, by simpa [bitsI] using hC⟩
              case round =>
                obtain ⟨m, bv, hm, rfl, hS2⟩ := hrel
                have hbk := (hS2.at_ 0 _ rfl).choose_spec.2
                obtain ⟨Fb, aob, capb, rfl, -, -, -, -⟩ := hS2.at_ 1 _ rfl
                have q0 : wr.cell? ⟨wb, 0, none⟩ = some (.int .i64 (s : Nat)) := by rw [cell_of_row wr wb 0 _ _ _ hbk]; rfl
                have q1 : wr.cell? ⟨wb, 1, none⟩ = some (.slice aob (n - m) capb) := by rw [cell_of_row wr wb 1 _ _ _ hbk]; rfl
                have f0 := frozen_of_row wr wb 0 _ _ hbk
                have f1 := frozen_of_row wr wb 1 _ _ hbk
                rcases Nat.eq_zero_or_pos m with h0 | h0
                · subst h0
                  rw [Nat.sub_zero] at q1 hS2
                  rw [List.take_of_length_le (by rw [Hw1.out]; omega)] at hS2
                  have hS3 := Sat.perm (As := [_, _, _, _]) hS2 [2, 1, 3] [_, _, _] rfl (by simp)
                  have hS4 := hS3.sl_made (e := 34) (size := 2) (n := 1) (cap := 1) (cur := #[.int .i64 (s : Nat), .slice aob n capb]) (xs := [.int .i64 (s : Nat), .slice aob n capb]) (by omega) (by decide) rfl (by simp) (fun j u hu => by simpa using hu)
                  have hsrc := SlR.src (P := Try.prog) hS4.sl_read Try.underlying31 (by simp [Value.oneCell'])
                  have hS5 := Sat.perm (As := [_, _, _, _]) hS4 [1, 2, 3] [_, _, _] rfl (by simp)
                  have Hsrc := Lib.hid hsrc
                  clear hsrc hS4
                  go_wp2_with (at_builtin; refine wpList_append_sat _ rfl _ _ 31 31 rfl 34 i0 (.agg #[.int .i64 0, .slice none 0 0]) 2 32 Try.underlying31 hi hz0 hz1 hz2 rfl (by decide) T.length _ _ _ rfl hS5 1 _ _ rfl Hsrc.out ?_ ?_ ?_)
                  · unfold maxLen; omega
                  · omega
                  · intro v' w' hS6
                    go_wp2
                    go_roundw
                    case rel =>
                      refine ⟨s + 1, by omega, by go_num, T ++ [(s, .slice aob n capb)], ⟨3, 1, n, .slice aob n capb, (bitsI (wbits L s)).map intV⟩ :: P, c, n, ?_, by simp; omega, ?_, by rfl, rfl, hnc, by omega, .inr ⟨by simp, hn1, ?_⟩, ?_⟩
                      · unfold Hid; rw [List.map_append]; exact HTd.out
                      · unfold Hid
                        intro y hy
                        rcases List.mem_append.1 hy with hy | hy
                        · exact List.mem_cons_of_mem _ (HTP.out y hy)
                        · simp only [List.mem_singleton] at hy
                          subst hy
                          unfold entW
                          simp only [Hw1.out]
                          exact List.mem_cons_self
                      · unfold Hid; rw [Nat.sub_self, Nat.pow_zero, Nat.mul_one, nextC_succ, if_pos HLs.out, ← Hxc.out]
                      · rw [List.length_append, wordC_append]
                        exact (Sat.pool_add (Sat.perm (As := [_, _, _]) hS6 [1, 2, 0] [_, _, _] rfl (by simp))).swap
                    case measure => simp [intOf]; omega
                · obtain ⟨q, rfl⟩ : ∃ q, m = q + 1 := ⟨m - 1, by omega⟩
                  have e : ((q + 1 : Nat) : Int) - 1 = (q : Int) := by omega
                  rw [e]
                  have hd0 : decide ((0 : Int) ≤ (q : Int)) = true := decide_eq_true (by omega)
                  have hbv := bit_i64 c q (by omega)
                  have hA3 := hS2.sl_made (e := 3) (size := 1) (n := 1) (cap := 1) (cur := #[.int .i64 ((c.testBit q).toNat : Nat)]) (xs := [.int .i64 ((c.testBit q).toNat : Nat)]) (by omega) (by decide) rfl (by simp) (fun j u hu => by simpa using hu)
                  have hsrc := SlR.src (P := Try.prog) hA3.sl_read Try.underlying22 (by simp [Value.oneCell'])
                  have hA4 := Sat.perm (As := [_, _, _, _, _]) hA3 [2, 1, 3, 4] [_, _, _, _] rfl (by simp)
                  have hbl : (bitsI ((wbits L s).take (n - q))).map intV = (bitsI ((wbits L s).take (n - (q + 1)))).map intV ++ [.int .i64 ((c.testBit q).toNat : Nat)] := by
                    have e1 : n - q = n - (q + 1) + 1 := by omega
                    have hlt3 : n - (q + 1) < (wbits L s).length := by rw [Hw1.out]; omega
                    have h3 := Hbit.out (n - (q + 1)) (by omega)
                    rw [List.getElem?_eq_getElem hlt3, Option.some.injEq, Hcode.out, ← Hxc.out, show n - 1 - (n - (q + 1)) = q by omega] at h3
                    rw [e1, List.take_succ_eq_append_getElem hlt3, h3]
                    simp [bitsI, bitI, intV]
                  have Hbl := Lib.hid hbl
                  have Hsrc := Lib.hid hsrc
                  clear e hA3 hbl hsrc
                  go_wp2_with (at_builtin; refine wpList_append_sat _ rfl _ _ 22 22 rfl 3 i1 (.int .i64 0) 1 8 Try.underlying22 hi1 hy0 hy1 hy2 rfl (by decide) (n - (q + 1)) _ _ _ rfl hA4 1 _ _ rfl Hsrc.out ?_ ?_ ?_)
                  · unfold maxLen; omega
                  · omega
                  · intro v' w' hS6
                    obtain ⟨F6, ao6, cap6, rfl, -, -, -, -⟩ := hS6.first
                    have hbk2 := (hS6.at_ 1 _ rfl).choose_spec.2
                    have p0 : w'.cell? ⟨wb, 0, none⟩ = some (.int .i64 (s : Nat)) := by rw [cell_of_row w' wb 0 _ _ _ hbk2]; rfl
                    have p1 : w'.cell? ⟨wb, 1, none⟩ = some (.slice aob (n - (q + 1)) capb) := by rw [cell_of_row w' wb 1 _ _ _ hbk2]; rfl
                    have g0 := frozen_of_row w' wb 0 _ _ hbk2
                    have g1 := frozen_of_row w' wb 1 _ _ hbk2
                    have hS7 := Sat.setCell (i := 1) hS6.swap (.slice ao6 (n - (q + 1) + 1) cap6)
                    go_wp2
                    go_roundw
                    case rel =>
                      refine ⟨q, .slice ao6 (n - (q + 1) + 1) cap6, by omega, rfl, ?_⟩
                      rw [Hbl.out, show n - q = n - (q + 1) + 1 by omega]
                      exact hS7
                    case measure => simp [intOf] <;> omega
            · have d1 : decide (0 < T.length) = true := decide_eq_true h0
              have hsh := shl_code c n a x (by rw [Hxc.out]; exact hz.out) hnc
              have Hsh := Lib.hid hsh
              clear hsh
              go_wp2
              rw [Hsh.out]
              have hA := hS1.alloc (.cells #[.int .i64 (s : Nat), .slice none 0 0] 34)
              have hC := Sat.swap (hA.sl_nil 3 1 none)
              generalize (wr.alloc (.cells #[.int .i64 (s : Nat), .slice none 0 0] 34)) = W at hC ⊢
              generalize wr.heap.size = wb at hC ⊢
              clear hA hS1 hSr hcs
              go_loopw [10] (fun i wq => ∃ (m : Nat) (bv : Value), m ≤ n ∧ i = .int .i64 ((m : Int) - 1) ∧ Sat wq (blk wb (.cells #[.int .i64 (s : Nat), bv] 34 (0, 0)) :: sl 3 1 (n - m) bv ((bitsI ((wbits L s).take (n - m))).map intV) :: sl 34 2 T.length (.slice ao3 T.length cap3) (wordC T) :: pool P :: Rs)) (fun i _ => (intOf i + 1).toNat)
              case atStart => exact ⟨n, .slice none 0 0, by omega, rfl, by simpa [bitsI] using hC⟩
              case round =>
                obtain ⟨m, bv, hm, rfl, hS2⟩ := hrel
                have hbk := (hS2.at_ 0 _ rfl).choose_spec.2
                obtain ⟨Fb, aob, capb, rfl, -, -, -, -⟩ := hS2.at_ 1 _ rfl
                have q0 : wr.cell? ⟨wb, 0, none⟩ = some (.int .i64 (s : Nat)) := by rw [cell_of_row wr wb 0 _ _ _ hbk]; rfl
                have q1 : wr.cell? ⟨wb, 1, none⟩ = some (.slice aob (n - m) capb) := by rw [cell_of_row wr wb 1 _ _ _ hbk]; rfl
                have f0 := frozen_of_row wr wb 0 _ _ hbk
                have f1 := frozen_of_row wr wb 1 _ _ hbk
                rcases Nat.eq_zero_or_pos m with h0 | h0
                · subst h0
                  rw [Nat.sub_zero] at q1 hS2
                  rw [List.take_of_length_le (by rw [Hw1.out]; omega)] at hS2
                  have hS3 := Sat.perm (As := [_, _, _, _]) hS2 [2, 1, 3] [_, _, _] rfl (by simp)
                  have hS4 := hS3.sl_made (e := 34) (size := 2) (n := 1) (cap := 1) (cur := #[.int .i64 (s : Nat), .slice aob n capb]) (xs := [.int .i64 (s : Nat), .slice aob n capb]) (by omega) (by decide) rfl (by simp) (fun j u hu => by simpa using hu)
                  have hsrc := SlR.src (P := Try.prog) hS4.sl_read Try.underlying31 (by simp [Value.oneCell'])
                  have hS5 := Sat.perm (As := [_, _, _, _]) hS4 [1, 2, 3] [_, _, _] rfl (by simp)
                  have Hsrc := Lib.hid hsrc
                  clear hsrc hS4
                  go_wp2_with (at_builtin; refine wpList_append_sat _ rfl _ _ 31 31 rfl 34 i0 (.agg #[.int .i64 0, .slice none 0 0]) 2 32 Try.underlying31 hi hz0 hz1 hz2 rfl (by decide) T.length _ _ _ rfl hS5 1 _ _ rfl Hsrc.out ?_ ?_ ?_)
                  · unfold maxLen; omega
                  · omega
                  · intro v' w' hS6
                    go_wp2
                    go_roundw
                    case rel =>
                      refine ⟨s + 1, by omega, by go_num, T ++ [(s, .slice aob n capb)], ⟨3, 1, n, .slice aob n capb, (bitsI (wbits L s)).map intV⟩ :: P, x, n, ?_, by simp; omega, ?_, rfl, rfl, hnc, by omega, .inr ⟨by simp, hn1, ?_⟩, ?_⟩
                      · unfold Hid; rw [List.map_append]; exact HTd.out
                      · unfold Hid
                        intro y hy
                        rcases List.mem_append.1 hy with hy | hy
                        · exact List.mem_cons_of_mem _ (HTP.out y hy)
                        · simp only [List.mem_singleton] at hy
                          subst hy
                          unfold entW
                          simp only [Hw1.out]
                          exact List.mem_cons_self
                      · unfold Hid; rw [Nat.sub_self, Nat.pow_zero, Nat.mul_one, nextC_succ, if_pos HLs.out, ← Hxc.out]
                      · rw [List.length_append, wordC_append]
                        exact (Sat.pool_add (Sat.perm (As := [_, _, _]) hS6 [1, 2, 0] [_, _, _] rfl (by simp))).swap
                    case measure => simp [intOf]; omega
                · obtain ⟨q, rfl⟩ : ∃ q, m = q + 1 := ⟨m - 1, by omega⟩
                  have e : ((q + 1 : Nat) : Int) - 1 = (q : Int) := by omega
                  rw [e]
                  have hd0 : decide ((0 : Int) ≤ (q : Int)) = true := decide_eq_true (by omega)
                  have hbv := bit_i64 x q (by omega)
                  have hA3 := hS2.sl_made (e := 3) (size := 1) (n := 1) (cap := 1) (cur := #[.int .i64 ((x.testBit q).toNat : Nat)]) (xs := [.int .i64 ((x.testBit q).toNat : Nat)]) (by omega) (by decide) rfl (by simp) (fun j u hu => by simpa using hu)
                  have hsrc := SlR.src (P := Try.prog) hA3.sl_read Try.underlying22 (by simp [Value.oneCell'])
                  have hA4 := Sat.perm (As := [_, _, _, _, _]) hA3 [2, 1, 3, 4] [_, _, _, _] rfl (by simp)
                  have hbl : (bitsI ((wbits L s).take (n - q))).map intV = (bitsI ((wbits L s).take (n - (q + 1)))).map intV ++ [.int .i64 ((x.testBit q).toNat : Nat)] := by
                    have e1 : n - q = n - (q + 1) + 1 := by omega
                    have hlt3 : n - (q + 1) < (wbits L s).length := by rw [Hw1.out]; omega
                    have h3 := Hbit.out (n - (q + 1)) (by omega)
                    rw [List.getElem?_eq_getElem hlt3, Option.some.injEq, Hcode.out, ← Hxc.out, show n - 1 - (n - (q + 1)) = q by omega] at h3
                    rw [e1, List.take_succ_eq_append_getElem hlt3, h3]
                    simp [bitsI, bitI, intV]
                  have Hbl := Lib.hid hbl
                  have Hsrc := Lib.hid hsrc
                  clear e hA3 hbl hsrc
                  go_wp2_with (at_builtin; refine wpList_append_sat _ rfl _ _ 22 22 rfl 3 i1 (.int .i64 0) 1 8 Try.underlying22 hi1 hy0 hy1 hy2 rfl (by decide) (n - (q + 1)) _ _ _ rfl hA4 1 _ _ rfl Hsrc.out ?_ ?_ ?_)
                  · unfold maxLen; omega
                  · omega
                  · intro v' w' hS6
                    obtain ⟨F6, ao6, cap6, rfl, -, -, -, -⟩ := hS6.first
                    have hbk2 := (hS6.at_ 1 _ rfl).choose_spec.2
                    have p0 : w'.cell? ⟨wb, 0, none⟩ = some (.int .i64 (s : Nat)) := by rw [cell_of_row w' wb 0 _ _ _ hbk2]; rfl
                    have p1 : w'.cell? ⟨wb, 1, none⟩ = some (.slice aob (n - (q + 1)) capb) := by rw [cell_of_row w' wb 1 _ _ _ hbk2]; rfl
                    have g0 := frozen_of_row w' wb 0 _ _ hbk2
                    have g1 := frozen_of_row w' wb 1 _ _ hbk2
                    have hS7 := Sat.setCell (i := 1) hS6.swap (.slice ao6 (n - (q + 1) + 1) cap6)
                    go_wp2
                    go_roundw
                    case rel =>
                      refine ⟨q, .slice ao6 (n - (q + 1) + 1) cap6, by omega, rfl, ?_⟩
                      rw [Hbl.out, show n - q = n - (q + 1) + 1 by omega]
                      exact hS7
                    case measure => simp [intOf] <;> omega
          · have hne : (((L[s] : Nat) : Int) != (n : Int)) = true := by simp; omega
            have hLs : ¬ L[s]? = some n := by rw [List.getElem?_eq_getElem hlt]; simpa using hhit
            have Hh := Lib.hid hLs
            have Hcase := Lib.hid hcase
            clear hhit hLs hcase
            go_wp2
            go_roundw
            case rel =>
              refine ⟨s + 1, by omega, by go_num, T, P, c, a, ?_, by omega, HTP, rfl, rfl, hc, ha, ?_, hS1⟩
              · unfold Hid; rw [symsOf_succ, if_neg Hh.out]; exact HT.out
              · rw [nextC_succ, if_neg Hh.out, Nat.add_zero]; exact Hcase.out
            case measure => simp [intOf]; omega
        · obtain rfl : s = L.length := by omega
          have hd2 : decide (L.length < L.length) = false := by simp
          have Hcase := Lib.hid hcase
          clear hcase
          go_wp2
          go_roundw
          case rel =>
            refine ⟨n + 1, by omega, by omega, by go_num, T, P, c, a, ?_, by omega, HTP, rfl, rfl, hc, by omega, ?_, hS1⟩
            · unfold Hid
              rw [HT.out]
              obtain ⟨m, rfl⟩ : ∃ m, n = m + 1 := ⟨n - 1, by omega⟩
              rfl
            · rw [nextC_up L n hn1]
              rcases Hcase.out with ⟨e1, e0, e2⟩ | ⟨e1, e2, e3⟩
              · exact .inl ⟨e1, e0, by unfold Hid; rw [e2.out]⟩
              · refine .inr ⟨e1, e2, ?_⟩
                unfold Hid
                rw [← e3.out, show n + 1 - a = n - a + 1 by omega, Nat.pow_succ, ← Nat.mul_assoc]
                omega
          case measure => simp [intOf]; omega
    · obtain rfl : n = 16 := by omega
      have hd : decide (16 ≤ 15) = false := by simp
      obtain ⟨T, P, c, a, HT, hTl, HTP, rfl, rfl, hc, ha, hcase, hS1⟩ := hrel2
      have Hcase := Lib.hid hcase
      clear hcase
      go_wp2
      go_ret
      exact ⟨_, T, P, rfl, HT.out, HTP.out, hS1⟩

end Go.Proofs.Ytobkmkdnkdbgeaa
