/- huff.Code.Next in plain words; a reader of bytes; the law HuffBack. -/
import Derived.Test.YtobkmkdnkdbgeaaMakes
import Derived.Test.YtobkmkdnkdbgeaaWr
namespace Go.Proofs.Ytobkmkdnkdbgeaa
open Go.RowKit Go.Hal
set_option linter.unusedVariables false
set_option linter.unusedSimpArgs false

theorem next_ok {w : World} {r c : Nat} {l : List Bool} {L : List Nat} {Rs : List Res} (hS : Sat w (rd r l :: code c L :: Rs)) (hf : Fits L) :
    Calls Try.prog 26 #[.pointer (some ⟨c, 0, none⟩), .pointer (some ⟨r, 0, none⟩)] w fun e w' => e = .returned (.tuple #[.int .i64 ((decL L l).1 : Nat), .int .i64 ((decL L l).2.1 : Nat)]) ∧ Sat w' (rd r (l.drop (decL L l).2.2) :: code c L :: Rs) := by
  have h := next_code hS (fun k v hh => by
      obtain ⟨t, -, -, rfl⟩ := has_D1 _ _ _ _ hh
      exact ⟨_, rfl⟩) (fun k v hh => by
      rcases has_D2 L (ord L 15) k with ⟨h1, -⟩ | ⟨h1, -⟩
      · rw [h1] at hh; cases hh; rfl
      · rw [h1] at hh; cases hh) (fun n v x hh => by
      obtain ⟨t, ht, hw, -⟩ := has_D1 _ _ _ _ hh
      obtain ⟨m, -, h2, h3⟩ := (mem_ord _ _ _).1 ht
      rw [wd_at h3] at hw
      simp only [Prod.mk.injEq] at hw
      omega)
  rw [nextFrom_dec hf l 16 0 (by omega) (by omega) (fun _ _ _ => by omega)] at h
  generalize decL L l = x at h ⊢
  refine h.mono fun e w' hp => ?_
  unfold NextPost at hp
  exact hp

theorem dec_word {L : List Nat} (hf : Fits L) {s : Nat} (hs : s ∈ ord L 15) (rest : List Bool) : decL L (wbits L s ++ rest) = (s, 0, (wd L s).1) := by
  have hh : hits L (wbits L s ++ rest) s := by
    unfold hits
    refine ⟨by rw [List.length_append, wbits_length]; omega, ?_⟩
    rw [List.take_append_of_le_length (by rw [wbits_length]; exact Nat.le_refl _), List.take_of_length_le (by rw [wbits_length]; exact Nat.le_refl _), num_wbits]
  unfold decL
  cases hfd : (ord L 15).find? (fun t => decide (hits L (wbits L s ++ rest) t)) with
  | none => rw [List.find?_eq_none] at hfd; exact absurd hh (by simpa using hfd s hs)
  | some t =>
    have h1 := List.mem_of_find?_eq_some hfd
    have h2 := List.find?_some hfd
    rw [hits_one hf h1 hs (by simpa using h2) hh]
theorem low_wbits (L : List Nat) (s : Nat) : low (wd L s).2 (wd L s).1 = wbits L s := by
  refine num_inj _ _ (by rw [low_length, wbits_length]) ?_
  rw [num_low, num_wbits, Nat.mod_eq_of_lt (wd_lt s)]

set_option maxHeartbeats 400000 in
theorem reader_any {w : World} {Rs : List Res} (hS : Sat w Rs) (v : Value) (ys : List UInt8) (hv : ∀ w', Sat w' Rs → SlR w' 5 1 ys.length v (ys.map byteV)) (hb : 8 * ys.length ≤ 281474976710648) :
    Calls Try.prog 25 #[v] w fun e w' => ∃ r, e = .returned (.pointer (some ⟨r, 0, none⟩)) ∧ Sat w' (rd r (bitsOf ys) :: Rs) := by
  have hn := new_rd hS
  obtain ⟨ao, cap, rfl, -, -, -, -⟩ := hv w hS
  have Hv := Lib.hid hv
  clear hv
  go_enter Try.func25, Try.ntmps25
  go_wp2_with (first
    | (go_at_call 55; refine hn.mono ?_; rintro e w1 ⟨rfl, hS1⟩)
    | (go_at_call 56; refine (feed_rd hS1 (Hv.out _ hS1.tail) (by simpa using hb)).mono ?_; rintro e w2 ⟨rfl, hS2⟩))
  go_ret
  exact ⟨_, rfl, by simpa using hS2⟩

/-- The symbols that have words. -/
def goods (L : List Nat) (xs : List Nat) : List Nat := xs.filter fun s => decide (0 < (wordOf L (s : Nat)).1)
theorem goods_snoc (L : List Nat) (xs : List Nat) (s : Nat) : goods L (xs ++ [s]) = goods L xs ++ (if 0 < (wordOf L (s : Nat)).1 then [s] else []) := by
  unfold goods
  rw [List.filter_append]
  by_cases h : 0 < (wordOf L (s : Nat)).1 <;> simp [h]
def wcat (L : List Nat) (xs : List Nat) : List Bool := xs.flatMap (wbits L)
theorem wcat_snoc (L : List Nat) (xs : List Nat) (s : Nat) : wcat L (xs ++ [s]) = wcat L xs ++ wbits L s := by simp [wcat]
theorem good_ord {L : List Nat} (hx : ∀ x ∈ L, x ≤ 15) {s : Nat} (h : 0 < (wordOf L (s : Nat)).1) : s ∈ ord L 15 ∧ wordOf L (s : Nat) = wd L s := by
  rcases Nat.lt_or_ge s L.length with hs | hs
  · rw [wordOf_at L hx s hs] at h ⊢
    have ht : L[s]? = some L[s] := List.getElem?_eq_getElem hs
    rw [wd_at ht] at h
    exact ⟨(mem_ord _ _ _).2 ⟨L[s], h, hx _ (List.getElem_mem _), ht⟩, rfl⟩
  · rw [wordOf_out L _ (.inr (by omega))] at h
    exact absurd h (by simp)

theorem wl15 {L : List Nat} (hf : Fits L) {s : Nat} (h : s ∈ ord L 15) : (wd L s).1 ≤ 15 := by
  obtain ⟨n, -, h2, h3⟩ := (mem_ord _ _ _).1 h
  rw [wd_at h3]; exact h2

set_option maxRecDepth 100000 in
set_option maxHeartbeats 2000000 in
theorem huffBack_true {w : World} {Rs : List Res} (hS : Sat w Rs) (v : Value) (xs : List Int) (hv : ∀ w', Sat w' Rs → IntsR w' v xs) (u : Value) (ys : List Nat) (hy : ∀ y ∈ ys, y < 65536)
    (hu : ∀ w', Sat w' Rs → SlR w' 57 1 ys.length u (ys.map fun y : Nat => Value.int .u16 y)) :
    Calls Try.prog 8 #[v, u] w fun e w' => e = .returned (.bool true) ∧ Sat w' Rs := by
  have hfix := fixed5_true hS
  obtain ⟨ao, cap, rfl, c1, c2, -⟩ := (hv w hS).cell
  obtain ⟨aou, capu, rfl, u1, u2, -, -⟩ := hu w hS
  unfold maxLen at u2
  have Hv := Lib.hid hv
  have Hy := Lib.hid hy
  have hcell : ∀ w', Sat w' Rs → ∀ k (hk : k < ys.length), ∃ b o, aou = some ⟨b, o, none⟩ ∧ w'.cell? ⟨b, o + k, none⟩ = some (.int .u16 (ys[k] : Nat)) := by
    intro w' h k hk
    obtain ⟨ao', cap', heq, -, -, -, hc⟩ := hu w' h
    simp only [Value.slice.injEq, true_and] at heq
    obtain ⟨rfl, rfl⟩ := heq
    obtain ⟨b, o, rfl, -, hc⟩ := hc (by omega)
    exact ⟨b, o, rfl, hc k _ (by simp [hk])⟩
  have Hc := Lib.hid hcell
  clear hv hu hy hcell
  by_cases hck : checkI xs = 0
  · obtain ⟨g1, -, g3, g4⟩ := checkI_ok hck
    have Hck := Lib.hid hck
    have Hf := Lib.hid g4
    have Hx := Lib.hid g3
    have hlen := natL_length xs
    have Hlen := Lib.hid hlen
    clear hck g3 g4 hlen
    by_cases hbig : 1000 < ys.length
    · have hd : decide (1000 < ys.length) = true := decide_eq_true hbig
      go_enter Try.func8, Try.ntmps8
      go_wp2_with (first
        | (go_at_call 15; refine hfix.mono ?_; rintro e w1 ⟨rfl, hS1⟩)
        | (go_at_call 16; refine (new_any hS1 _ xs Hv.out).mono ?_; rintro e w2 (⟨-, c, rfl, hS2⟩ | ⟨h, -, -⟩); rotate_left; (exact (h Hck.out).elim)))
      go_ret
      exact ⟨rfl, hS2.tail⟩
    · have hd : decide (1000 < ys.length) = false := decide_eq_false hbig
      go_enter Try.func8, Try.ntmps8
      go_wp2_with (first
        | (go_at_call 15; refine hfix.mono ?_; rintro e w1 ⟨rfl, hS1⟩)
        | (go_at_call 16; refine (new_any hS1 _ xs Hv.out).mono ?_; rintro e w2 (⟨-, c, rfl, hS2⟩ | ⟨h, -, -⟩); rotate_left; (exact (h Hck.out).elim))
        | (go_at_call 29; refine (newWriter_any hS2).mono ?_; rintro e w3 ⟨p, rfl, hS3⟩))
      obtain ⟨i1, hi1, hy0, hy1, hy2⟩ := info_parts Try.infoIntW
      go_loopw [8, 35] (fun wv i wr => ∃ k : Nat, k ≤ ys.length ∧ i = .int .i64 k ∧ Sat wr (sl 3 1 (goods (natL xs) (ys.take k)).length wv ((goods (natL xs) (ys.take k)).map fun t : Nat => Value.int .i64 t) :: wrt p (wcat (natL xs) (goods (natL xs) (ys.take k))) :: code c (natL xs) :: Rs)) (fun _ i _ => ys.length - (intOf i).toNat)
      case atStart => exact ⟨0, by omega, rfl, hS3.sl_nil _ _ _⟩
      case round =>
        obtain ⟨k, hk, rfl, hS4⟩ := hrel
        have hgl : (goods (natL xs) (ys.take k)).length ≤ k := Nat.le_trans (List.length_filter_le _ _) (by rw [List.length_take]; omega)
        have hwl : (wcat (natL xs) (goods (natL xs) (ys.take k))).length ≤ k * 15 := by
          have h1 : ∀ l : List Nat, (∀ t ∈ l, t ∈ ord (natL xs) 15) → (wcat (natL xs) l).length ≤ l.length * 15 := by
            intro l
            induction l with
            | nil => intro _; simp [wcat]
            | cons t r ih =>
              intro h
              have h2 := ih (fun t ht => h t (by simp [ht]))
              have h3 := wl15 Hf.out (h t (by simp))
              simp only [wcat, List.flatMap_cons, List.length_append, wbits_length, List.length_cons] at *
              omega
          have h2 := h1 (goods (natL xs) (ys.take k)) (fun t ht => (good_ord Hx.out (of_decide_eq_true (List.mem_filter.1 (show t ∈ (ys.take k).filter (fun s => decide (0 < (wordOf (natL xs) (s : Nat)).1)) from ht)).2)).1)
          have h3 : (goods (natL xs) (ys.take k)).length * 15 ≤ k * 15 := Nat.mul_le_mul_right _ hgl
          exact Nat.le_trans h2 h3
        obtain ⟨F8, ao8, cap8, rfl, -, -, -, -⟩ := hS4.first
        by_cases hlt : k < ys.length
        · have hd2 : decide (k < ys.length) = true := decide_eq_true hlt
          obtain ⟨b, o, rfl, hcs⟩ := Hc.out wr (Sat.perm (As := [_, _, _]) (Bs := []) hS4 [] rfl (by simp)) k hlt
          have hy16 := Hy.out ys[k] (List.getElem_mem _)
          obtain ⟨s, Hs⟩ : ∃ s, Hid (s = ys[k]) := ⟨_, Lib.hid rfl⟩
          rw [← Hs.out] at hcs hy16
          obtain ⟨W, HW⟩ : ∃ W, Hid (W = wordOf (natL xs) (s : Nat)) := ⟨_, Lib.hid rfl⟩
          have hstep : goods (natL xs) (ys.take (k + 1)) = goods (natL xs) (ys.take k) ++ (if 0 < W.1 then [s] else []) := by
            rw [List.take_succ_eq_append_getElem hlt, goods_snoc, ← Hs.out, ← HW.out]
          have Hstep := Lib.hid hstep
          have hword := word_code (Sat.front hS4 2 _ rfl) (by rw [Hlen.out]; exact g1) (s : Nat)
          rw [← HW.out] at hword
          have Hword := Lib.hid hword
          obtain ⟨wn, wv⟩ := W
          clear hstep hword
          by_cases h0 : 0 < wn
          · have hd3 : decide (0 < wn) = true := decide_eq_true h0
            have hgo := good_ord Hx.out (s := s) (by rw [← HW.out]; exact h0)
            obtain ⟨hgo1, hgo2⟩ := hgo
            rw [← HW.out] at hgo2
            have hwn : wn ≤ 15 := by
              have := wl15 Hf.out hgo1
              rw [← hgo2] at this
              exact this
            have hwv : wv < 2 ^ 15 := by
              have := wd_lt (L := natL xs) s
              rw [← hgo2] at this
              exact Nat.lt_of_lt_of_le this (Nat.pow_le_pow_right (by omega) hwn)
            have hlw : low wv wn = wbits (natL xs) s := by
              have := low_wbits (natL xs) s
              rw [← hgo2] at this
              exact this
            have Hlw := Lib.hid hlw
            clear hgo2 hlw hgo1
            go_wp2_with (go_at_call 18; refine Hword.out.mono ?_; rintro e w5 ⟨rfl, n5, rfl⟩)
            have hS5 := Sat.perm (As := [_, _, _]) (hS4.drewN n5) [1, 0, 2] [_, _, _] rfl (by simp)
            have hwv60 : wv < 2 ^ 60 := Nat.lt_of_lt_of_le hwv (by decide)
            have hll : (wcat (natL xs) (goods (natL xs) (ys.take k))).length ≤ 1099511627776 := by omega
            refine (put_wrt hS5 wv wn hwv60 (by omega) hll).mono ?_
            rw [Hlw.out]
            rintro e w6 ⟨rfl, hS6⟩
            have hA := hS6.sl_made (e := 3) (size := 1) (n := 1) (cap := 1) (cur := #[.int .i64 (s : Nat)]) (xs := [.int .i64 (s : Nat)]) (by omega) (by decide) rfl (by simp) (fun j u hu => by simpa using hu)
            have hsrc := SlR.src (P := Try.prog) hA.sl_read Try.underlying22 (by simp [Value.oneCell'])
            have hA2 := Sat.perm (As := [_, _, _, _]) hA [2, 1, 3] [_, _, _] rfl (by simp)
            have Hsrc := Lib.hid hsrc
            clear hsrc hA hwv hwv60
            go_wp2_with (at_builtin; refine wpList_append_sat _ rfl _ _ 22 22 rfl 3 i1 (.int .i64 0) 1 8 Try.underlying22 hi1 hy0 hy1 hy2 rfl (by decide) _ _ _ _ rfl hA2 1 _ _ rfl Hsrc.out ?_ ?_ ?_)
            · unfold maxLen; omega
            · omega
            · intro v' w' hS7
              go_wp2
              go_roundw
              case rel =>
                refine ⟨k + 1, by omega, by go_num, ?_⟩
                rw [Hstep.out, if_pos h0, List.length_append, List.map_append, wcat_snoc]
                exact hS7
              case measure => simp [intOf]; omega
          · have hd3 : decide (0 < wn) = false := decide_eq_false h0
            go_wp2_with (go_at_call 18; refine Hword.out.mono ?_; rintro e w5 ⟨rfl, n5, rfl⟩)
            go_roundw
            case rel =>
              refine ⟨k + 1, by omega, by go_num, ?_⟩
              rw [Hstep.out, if_neg h0, List.append_nil]
              exact hS4.drewN n5
            case measure => simp [intOf]; omega
        · obtain rfl : k = ys.length := by omega
          have hd2 : decide (ys.length < ys.length) = false := by simp
          rw [List.take_length] at hS4 hgl hwl
          obtain ⟨G, HG⟩ : ∃ G, Hid (G = goods (natL xs) ys) := ⟨_, Lib.hid rfl⟩
          rw [← HG.out] at hS4 hgl hwl
          simp only [List.take_length]
          rw [← HG.out]
          have hGo : ∀ t ∈ G, t ∈ ord (natL xs) 15 := by
            intro t ht
            rw [HG.out] at ht
            exact (good_ord Hx.out (of_decide_eq_true (List.mem_filter.1 (show t ∈ ys.filter (fun s => decide (0 < (wordOf (natL xs) (s : Nat)).1)) from ht)).2)).1
          have HGo := Lib.hid hGo
          have hout := out_wrt (Sat.perm (As := [_, _, _]) hS4 [1, 0, 2] [_, _, _] rfl (by simp)) (by omega)
          have Hout := Lib.hid hout
          clear hGo hout
          go_wp2_with (first
            | (go_at_call 31; refine Hout.out.mono ?_; rintro e w5 ⟨vo, bs, rfl, hb1, hb2, hS5⟩; have Hb1 := Lib.hid hb1; have Hb2 := Lib.hid hb2; have hbl : 8 * bs.length ≤ 281474976710648 := (by omega); clear hb1 hb2)
            | (go_at_call 25; refine (reader_any hS5 vo bs (fun w' h => h.sl_read) hbl).mono ?_; rintro e w6 ⟨r, rfl, hS6⟩))
          obtain ⟨pad, Hpad⟩ : ∃ pad, Hid (pad = List.replicate (8 * bs.length - (wcat (natL xs) G).length) false) := ⟨_, Lib.hid rfl⟩
          rw [Hb2.out, ← Hpad.out] at hS6
          have hS7 := Sat.perm (As := [_, _, _, _, _]) hS6 [0, 4, 3] [_, _, _] rfl (by simp)
          go_loopw [63] (fun i wr => ∃ k : Nat, k ≤ G.length ∧ i = .int .i64 k ∧ Sat wr (rd r (wcat (natL xs) (G.drop k) ++ pad) :: code c (natL xs) :: sl 3 1 G.length (.slice ao8 G.length cap8) (G.map fun t : Nat => Value.int .i64 t) :: Rs)) (fun i _ => G.length - (intOf i).toNat)
          case atStart => exact ⟨0, by omega, rfl, by simpa using hS7⟩
          case round =>
            obtain ⟨k, hk, rfl, hS8⟩ := hrel
            by_cases hlt : k < G.length
            · have hd3 : decide (k < G.length) = true := decide_eq_true hlt
              obtain ⟨b, o, cap', heq, -, -, -, hcs, -⟩ := (Sat.front hS8 2 _ rfl).sl_cells (by omega)
              simp only [Value.slice.injEq, true_and] at heq
              obtain ⟨rfl, rfl⟩ := heq
              obtain ⟨s, hs⟩ : ∃ s, G[k]? = some s := ⟨_, List.getElem?_eq_getElem hlt⟩
              have hcsk := hcs k (.int .i64 (s : Nat)) (by rw [List.getElem?_map, hs]; rfl)
              have hsm := HGo.out s (List.mem_of_getElem? hs)
              have hdrop : G.drop k = s :: G.drop (k + 1) := by
                rw [List.getElem?_eq_getElem hlt, Option.some.injEq] at hs
                rw [List.drop_eq_getElem_cons hlt, hs]
              have hwc : wcat (natL xs) (G.drop k) ++ pad = wbits (natL xs) s ++ (wcat (natL xs) (G.drop (k + 1)) ++ pad) := by
                rw [hdrop]; simp [wcat]
              have hnx := next_ok hS8 Hf.out
              rw [hwc, dec_word Hf.out hsm] at hnx
              have hdd : (wbits (natL xs) s ++ (wcat (natL xs) (G.drop (k + 1)) ++ pad)).drop (wd (natL xs) s).1 = wcat (natL xs) (G.drop (k + 1)) ++ pad := by
                rw [← wbits_length, List.drop_left]
              simp only [hdd] at hnx
              have Hnx := Lib.hid hnx
              clear hnx hdd hwc hdrop hcs hs hsm
              go_wp2_with (go_at_call 26; refine Hnx.out.mono ?_; rintro e w7 ⟨rfl, hS9⟩)
              go_roundw
              case rel => exact ⟨k + 1, by omega, by go_num, hS9⟩
              case measure => simp [intOf]; omega
            · obtain rfl : k = G.length := by omega
              have hd3 : decide (G.length < G.length) = false := by simp
              have hpl : pad.length < 8 := by
                rw [Hpad.out, List.length_replicate, Hb1.out]; omega
              rw [List.drop_length] at hS8
              have hS9 : Sat wr (rd r pad :: code c (natL xs) :: sl 3 1 G.length (.slice ao8 G.length cap8) (G.map fun t : Nat => Value.int .i64 t) :: Rs) := by simpa [wcat] using hS8
              have hhv := have_rd hS9
              have hd4 : decide (pad.length < 8) = true := decide_eq_true hpl
              have hd5 : decide ((pad.length : Int) < 8) = true := decide_eq_true (by omega)
              have Hhv := Lib.hid hhv
              clear hhv
              go_wp2_with (go_at_call 28; refine Hhv.out.mono ?_; rintro e w7 ⟨rfl, n7, rfl⟩)
              go_ret
              exact ⟨rfl, Sat.perm (As := [_, _, _]) (Bs := []) (hS9.drewN n7) [] rfl (by simp)⟩
  · have Hck := Lib.hid hck
    have hz0 : ((checkI xs : Int) != 0) = true := by simp; omega
    obtain ⟨z, Hz⟩ : ∃ z, Hid (z = checkI xs) := ⟨_, Lib.hid rfl⟩
    rw [← Hz.out] at hz0
    clear hck
    go_enter Try.func8, Try.ntmps8
    go_wp2_with (first
      | (go_at_call 15; refine hfix.mono ?_; rintro e w1 ⟨rfl, hS1⟩)
      | (go_at_call 16; refine (new_any hS1 _ xs Hv.out).mono ?_; rintro e w2 (⟨h, -, -, -⟩ | ⟨-, rfl, hS2⟩); (exact (Hck.out h).elim); rw [← Hz.out]))
    go_ret
    exact ⟨rfl, hS2⟩

end Go.Proofs.Ytobkmkdnkdbgeaa
