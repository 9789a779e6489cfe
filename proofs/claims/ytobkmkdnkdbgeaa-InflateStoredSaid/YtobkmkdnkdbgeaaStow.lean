/- The law InflateStored: its walk. -/
import Derived.Test.YtobkmkdnkdbgeaaStor
import Derived.Test.YtobkmkdnkdbgeaaMat
import Derived.Test.YtobkmkdnkdbgeaaDLawZ
import Derived.Test.YtobkmkdnkdbgeaaQo
namespace Go.Proofs.Ytobkmkdnkdbgeaa
open Go.RowKit Go.Hal
set_option linter.unusedVariables false
set_option linter.unusedSimpArgs false

theorem encS_last (T : List (List UInt8)) : ∀ k (h : k < T.length), encS (T.drop k) = blockS (decide ((k : Int) = (T.length : Int) - 1)) T[k] ++ encS (T.drop (k + 1)) := by
  intro k h
  rw [List.drop_eq_getElem_cons h, encS]
  congr 2
  have : (T.drop (k + 1)).length = T.length - (k + 1) := List.length_drop
  by_cases hk : k + 1 = T.length
  · rw [decide_eq_true (by omega), List.isEmpty_iff]
    exact List.eq_nil_of_length_eq_zero (by omega)
  · rw [decide_eq_false (by omega)]
    cases hd : T.drop (k + 1) with
    | nil => rw [hd] at this; simp at this; omega
    | cons a r => rfl
theorem xor_u8 : ∀ x : Nat, x < 256 → bits BinOp.xor IntKind.u8 IntKind.u8.max ((x : Nat) : Int) = ((255 - x : Nat) : Int) := by decide +kernel
theorem head_cells (b : Bool) (n : Nat) (hn : n ≤ 300) {x3 x4 : Int} (h3 : x3 = ((255 - n % 256 : Nat) : Int)) (h4 : x4 = ((255 - n / 256 % 256 : Nat) : Int)) :
    (headS b n).map byteV = [.int .u8 (if b then 1 else 0), .int .u8 ((n : Int) % 256), .int .u8 ((n : Int) / 256), .int .u8 x3, .int .u8 x4] := by
  subst h3
  subst h4
  have a1 : (UInt8.ofNat (n % 256)).toNat = n % 256 := by rw [UInt8.toNat_ofNat']; omega
  have a2 : (UInt8.ofNat (n / 256 % 256)).toNat = n / 256 % 256 := by rw [UInt8.toNat_ofNat']; omega
  have a3 : (UInt8.ofNat (255 - n % 256)).toNat = 255 - n % 256 := by rw [UInt8.toNat_ofNat']; omega
  have a4 : (UInt8.ofNat (255 - n / 256 % 256)).toNat = 255 - n / 256 % 256 := by rw [UInt8.toNat_ofNat']; omega
  unfold headS
  simp only [List.map_cons, List.map_nil, byteV, a1, a2, a3, a4]
  have e2 : n / 256 % 256 = n / 256 := by omega
  cases b <;> simp [e2]

/-- What is known behind k texts. -/
def StowP (T : List (List UInt8)) (k : Nat) (bb ww : List UInt8) : Prop :=
  bb ++ encS (T.drop k) = encS T ∧ ww = (T.take k).flatten ∧ bb.length ≤ 305 * k ∧ ww.length ≤ 300 * k ∧ ∀ t ∈ T.take k, t.length ≤ 300
theorem stow_step {T : List (List UInt8)} {k : Nat} {bb ww t : List UInt8} {b : Bool} (hlt : k < T.length) (ht : T[k] = t) (h : StowP T k bb ww) (hs : encS (T.drop k) = blockS b t ++ encS (T.drop (k + 1))) (hl : t.length ≤ 300) : StowP T (k + 1) (bb ++ blockS b t) (ww ++ t) := by
  obtain ⟨h1, h2, h3, h4, h5⟩ := h
  have e1 : (blockS b t).length = 5 + t.length := by unfold blockS headS; simp; omega
  have e2 : T.take (k + 1) = T.take k ++ [t] := by rw [List.take_succ_eq_append_getElem hlt, ht]
  refine ⟨?_, ?_, ?_, ?_, ?_⟩
  · rw [List.append_assoc, ← hs, h1]
  · rw [e2, List.flatten_append, ← h2]; simp
  · rw [List.length_append, e1]; omega
  · rw [List.length_append]; omega
  · rw [e2]
    intro x hx
    rcases List.mem_append.1 hx with hx | hx
    · exact h5 x hx
    · rw [List.mem_singleton.1 hx]; exact hl

set_option maxRecDepth 100000 in
set_option maxHeartbeats 4000000 in
theorem inflateStored_true {w : World} {Rs : List Res} (hS : Sat w Rs) (u : Value) (T : List (List UInt8)) (V : List Value) (hu : ∀ w', Sat w' Rs → MatR w' u T V) (size less : Nat) (hsz : size < 256) (hlm : less < 256) :
    Calls Try.prog 9 #[u, .int .u8 size, .int .u8 less] w fun e w' => e = .returned (.bool true) ∧ Sat w' Rs := by
  have hfix := fixed6_true hS
  obtain ⟨ao, cap, rfl, -, hcm, -, -⟩ := (hu w hS).1
  have Hu := Lib.hid hu
  have hTV : V.length = T.length := by have := (hu w hS).1.len; omega
  have HTV := Lib.hid hTV
  clear hS hu hTV
  by_cases hbig : 20 < T.length
  · have hd : decide (20 < T.length) = true := decide_eq_true hbig
    go_enter Try.func9, Try.ntmps9
    go_wp2_with (go_at_call 32; refine hfix.mono ?_; rintro e w1 ⟨rfl, hS1⟩)
    go_ret
    exact ⟨rfl, hS1⟩
  have hd : decide (20 < T.length) = false := decide_eq_false hbig
  obtain ⟨i0, hi, hz0, hz1, hz2⟩ := info_parts Try.infoU8
  go_enter Try.func9, Try.ntmps9
  go_wp2_with (go_at_call 32; refine hfix.mono ?_; rintro e w1 ⟨rfl, hS1⟩)
  have hS2 := ((hS1.alloc_drop (.cells #[] 5)).alloc_drop (.cells #[] 5)).sl_nil 5 1 (some ⟨(w1.alloc (.cells #[] 5)).heap.size, 0, none⟩)
  have hS3 := hS2.sl_nil 5 1 (some ⟨w1.heap.size, 0, none⟩)
  clear hS1 hS2 hfix
  go_loopw [7, 8, 29] (fun bv wv i wr => ∃ (k : Nat) (bb ww : List UInt8), k ≤ T.length ∧ i = .int .i64 k ∧ Hid (StowP T k bb ww) ∧
    Sat wr (sl 5 1 bb.length bv (bb.map byteV) :: sl 5 1 ww.length wv (ww.map byteV) :: Rs)) (fun _ _ i _ => T.length - (intOf i).toNat)
  case atStart => exact ⟨0, [], [], by omega, rfl, ⟨rfl, by simp, by simp, by simp, by simp⟩, by simpa using hS3⟩
  case round =>
    obtain ⟨k, bb, ww, hk, rfl, HK, hS4⟩ := hrel
    obtain ⟨F7, ao7, cap7, rfl, -, -, -, -⟩ := hS4.at_ 0 _ rfl
    obtain ⟨F8, ao8, cap8, rfl, hc8, -, -, -⟩ := hS4.at_ 1 _ rfl
    have hbl : bb.length ≤ 305 * k := HK.out.2.2.1
    have hwl : ww.length ≤ 300 * k := HK.out.2.2.2.1
    by_cases hlt : k < T.length
    · have hd2 : decide (k < T.length) = true := decide_eq_true hlt
      have hm := Hu.out wr hS4.tail.tail
      obtain ⟨vk, hVk⟩ : ∃ vk, V[k]? = some vk := ⟨_, List.getElem?_eq_getElem (by rw [HTV.out]; exact hlt)⟩
      have hTk : T[k]? = some T[k] := List.getElem?_eq_getElem hlt
      obtain ⟨_, _, heq, -, -, -, hcc⟩ := hm.1
      simp only [Value.slice.injEq, true_and] at heq
      obtain ⟨rfl, rfl⟩ := heq
      obtain ⟨tb, to_, rfl, -, hcc⟩ := hcc (by omega)
      have c1 := hcc k _ hVk
      have hr := hm.2 k _ _ hTk hVk
      obtain ⟨t, Ht⟩ : ∃ t, Hid (T[k] = t) := ⟨_, Lib.hid rfl⟩
      rw [Ht.out] at hr
      obtain ⟨xo, xap, rfl, -, -, -, -⟩ := hr
      by_cases h300 : 300 < t.length
      · have hd3 : decide (300 < t.length) = true := decide_eq_true h300
        have HS4 := Lib.hid hS4
        clear hm hcc hTk hVk hS4
        go_wp2
        go_ret
        exact ⟨rfl, HS4.out.tail.tail⟩
      · have hd3 : decide (300 < t.length) = false := decide_eq_false h300
        have HS4 := Lib.hid hS4
        have Hr : Hid (∀ w', Sat w' Rs → SlR w' 5 1 t.length (.slice xo t.length xap) (t.map byteV)) := by
          intro w' h'
          have := (Hu.out w' h').2 k _ _ hTk hVk
          rw [Ht.out] at this
          exact this
        have Hx3 : Hid (bits BinOp.xor IntKind.u8 IntKind.u8.max ((t.length : Int) % 256) = ((255 - t.length % 256 : Nat) : Int)) := by
          unfold Hid; rw [← xor_u8 _ (by omega)]; rfl
        have Hx4 : Hid (bits BinOp.xor IntKind.u8 IntKind.u8.max ((t.length : Int) / 256) = ((255 - t.length / 256 % 256 : Nat) : Int)) := by
          unfold Hid; rw [← xor_u8 _ (by omega), Nat.mod_eq_of_lt (show t.length / 256 < 256 by omega)]; rfl
        clear hm hcc hTk hVk hS4
        by_cases hlast : (k : Int) = (T.length : Int) - 1
        · have hd4 : ((k : Int) == (T.length : Int) - 1) = true := beq_iff_eq.2 hlast
          have hlb : decide ((k : Int) = (T.length : Int) - 1) = true := by simpa using hlast
          have Hlb := Lib.hid hlb
          clear hlb hlast
          have hA := HS4.out.sl_made (e := 5) (size := 1) (n := 5) (cap := 5) (cur := #[.int .u8 1, .int .u8 ((t.length : Int) % 256), .int .u8 ((t.length : Int) / 256), .int .u8 (bits BinOp.xor IntKind.u8 IntKind.u8.max ((t.length : Int) % 256)), .int .u8 (bits BinOp.xor IntKind.u8 IntKind.u8.max ((t.length : Int) / 256))]) (xs := (headS true t.length).map byteV) (by omega) (by decide) rfl (by simp) (fun j u hu => by rw [head_cells true t.length (by omega) Hx3.out Hx4.out] at hu; simpa using hu)
          have hA1 := Sat.perm (As := [_, _, _]) hA [1, 2, 0] [_, _, _] rfl (by simp)
          have Hsrc1 := Lib.hid (SlR.src (P := Try.prog) hA.sl_read Try.underlying43 (byteV_one (headS true t.length)))
          have HA1 := Lib.hid hA1
          clear hA hA1 HS4
          go_wp2_with (at_builtin; refine wpList_append_sat _ rfl _ _ 43 43 rfl 5 i0 (.int .u8 0) 1 1 Try.underlying43 hi hz0 hz1 hz2 rfl (by decide) bb.length _ _ _ rfl HA1.out 5 _ _ rfl Hsrc1.out (by unfold maxLen; omega) (by omega) ?_)
          intro v5 w5 hS5
          obtain ⟨_, ao5, cap5, rfl, -, -, -, -⟩ := hS5.at_ 0 _ rfl
          have Hsrc2 := Lib.hid (SlR.src (P := Try.prog) (Hr.out _ (Sat.perm (As := [_, _, _]) (Bs := []) hS5 [] rfl (by simp))) Try.underlying43 (byteV_one t))
          have HS5 := Lib.hid hS5
          clear hS5 HA1 Hsrc1
          go_wp2_with (at_builtin; refine wpList_append_sat _ rfl _ _ 43 43 rfl 5 i0 (.int .u8 0) 1 1 Try.underlying43 hi hz0 hz1 hz2 rfl (by decide) (bb.length + 5) _ _ _ rfl HS5.out t.length _ _ rfl Hsrc2.out (by unfold maxLen; omega) (by omega) ?_)
          intro v6 w6 hS6
          obtain ⟨_, ao6, cap6, rfl, -, -, -, -⟩ := hS6.at_ 0 _ rfl
          have Hsrc3 := Lib.hid (SlR.src (P := Try.prog) (Hr.out _ (Sat.perm (As := [_, _, _]) (Bs := []) hS6 [] rfl (by simp))) Try.underlying43 (byteV_one t))
          have HS6 := Lib.hid (Sat.perm (As := [_, _, _]) hS6 [1, 0] [_, _] rfl (by simp))
          clear hS6 HS5 Hsrc2
          go_wp2_with (at_builtin; refine wpList_append_sat _ rfl _ _ 43 43 rfl 5 i0 (.int .u8 0) 1 1 Try.underlying43 hi hz0 hz1 hz2 rfl (by decide) ww.length _ _ _ rfl HS6.out t.length _ _ rfl Hsrc3.out (by unfold maxLen; omega) (by omega) ?_)
          intro v7 w7 hS7
          obtain ⟨_, ao7, cap7, rfl, -, -, -, -⟩ := hS7.at_ 0 _ rfl
          have HS7 := Lib.hid hS7
          clear hS7 HS6 Hsrc3
          go_wp2
          go_roundw
          case rel =>
            refine ⟨k + 1, bb ++ blockS true t, ww ++ t, by omega, by go_num, ?_, ?_⟩
            · have hstep := encS_last T k hlt
              rw [Ht.out, Hlb.out] at hstep
              exact stow_step hlt Ht.out HK.out hstep (by omega)
            · have h9 := HS7.out.swap
              rw [← List.map_append, ← List.map_append, ← List.map_append] at h9
              have e1 : (bb ++ blockS true t).length = bb.length + 5 + t.length := by unfold blockS headS; simp; omega
              rw [e1, show (ww ++ t).length = ww.length + t.length from List.length_append]
              unfold blockS
              exact h9
          case measure => simp [intOf]; omega
        · have hd4 : ((k : Int) == (T.length : Int) - 1) = false := beq_eq_false_iff_ne.2 hlast
          have hlb : decide ((k : Int) = (T.length : Int) - 1) = false := by simpa using hlast
          have Hlb := Lib.hid hlb
          clear hlb hlast
          have hA := HS4.out.sl_made (e := 5) (size := 1) (n := 5) (cap := 5) (cur := #[.int .u8 0, .int .u8 ((t.length : Int) % 256), .int .u8 ((t.length : Int) / 256), .int .u8 (bits BinOp.xor IntKind.u8 IntKind.u8.max ((t.length : Int) % 256)), .int .u8 (bits BinOp.xor IntKind.u8 IntKind.u8.max ((t.length : Int) / 256))]) (xs := (headS false t.length).map byteV) (by omega) (by decide) rfl (by simp) (fun j u hu => by rw [head_cells false t.length (by omega) Hx3.out Hx4.out] at hu; simpa using hu)
          have hA1 := Sat.perm (As := [_, _, _]) hA [1, 2, 0] [_, _, _] rfl (by simp)
          have Hsrc1 := Lib.hid (SlR.src (P := Try.prog) hA.sl_read Try.underlying43 (byteV_one (headS false t.length)))
          have HA1 := Lib.hid hA1
          clear hA hA1 HS4
          go_wp2_with (at_builtin; refine wpList_append_sat _ rfl _ _ 43 43 rfl 5 i0 (.int .u8 0) 1 1 Try.underlying43 hi hz0 hz1 hz2 rfl (by decide) bb.length _ _ _ rfl HA1.out 5 _ _ rfl Hsrc1.out (by unfold maxLen; omega) (by omega) ?_)
          intro v5 w5 hS5
          obtain ⟨_, ao5, cap5, rfl, -, -, -, -⟩ := hS5.at_ 0 _ rfl
          have Hsrc2 := Lib.hid (SlR.src (P := Try.prog) (Hr.out _ (Sat.perm (As := [_, _, _]) (Bs := []) hS5 [] rfl (by simp))) Try.underlying43 (byteV_one t))
          have HS5 := Lib.hid hS5
          clear hS5 HA1 Hsrc1
          go_wp2_with (at_builtin; refine wpList_append_sat _ rfl _ _ 43 43 rfl 5 i0 (.int .u8 0) 1 1 Try.underlying43 hi hz0 hz1 hz2 rfl (by decide) (bb.length + 5) _ _ _ rfl HS5.out t.length _ _ rfl Hsrc2.out (by unfold maxLen; omega) (by omega) ?_)
          intro v6 w6 hS6
          obtain ⟨_, ao6, cap6, rfl, -, -, -, -⟩ := hS6.at_ 0 _ rfl
          have Hsrc3 := Lib.hid (SlR.src (P := Try.prog) (Hr.out _ (Sat.perm (As := [_, _, _]) (Bs := []) hS6 [] rfl (by simp))) Try.underlying43 (byteV_one t))
          have HS6 := Lib.hid (Sat.perm (As := [_, _, _]) hS6 [1, 0] [_, _] rfl (by simp))
          clear hS6 HS5 Hsrc2
          go_wp2_with (at_builtin; refine wpList_append_sat _ rfl _ _ 43 43 rfl 5 i0 (.int .u8 0) 1 1 Try.underlying43 hi hz0 hz1 hz2 rfl (by decide) ww.length _ _ _ rfl HS6.out t.length _ _ rfl Hsrc3.out (by unfold maxLen; omega) (by omega) ?_)
          intro v7 w7 hS7
          obtain ⟨_, ao7, cap7, rfl, -, -, -, -⟩ := hS7.at_ 0 _ rfl
          have HS7 := Lib.hid hS7
          clear hS7 HS6 Hsrc3
          go_wp2
          go_roundw
          case rel =>
            refine ⟨k + 1, bb ++ blockS false t, ww ++ t, by omega, by go_num, ?_, ?_⟩
            · have hstep := encS_last T k hlt
              rw [Ht.out, Hlb.out] at hstep
              exact stow_step hlt Ht.out HK.out hstep (by omega)
            · have h9 := HS7.out.swap
              rw [← List.map_append, ← List.map_append, ← List.map_append] at h9
              have e1 : (bb ++ blockS false t).length = bb.length + 5 + t.length := by unfold blockS headS; simp; omega
              rw [e1, show (ww ++ t).length = ww.length + t.length from List.length_append]
              unfold blockS
              exact h9
          case measure => simp [intOf]; omega
    · have hd2 : decide (k < T.length) = false := decide_eq_false hlt
      obtain rfl : k = T.length := by omega
      have hbb : Hid (bb = encS T) := by unfold Hid; have h1 := HK.out.1; rw [List.drop_length] at h1; simpa [encS] using h1
      have hww : Hid (ww = T.flatten) := by unfold Hid; have h1 := HK.out.2.1; rw [List.take_length] at h1; exact h1
      have hT3 : ∀ t ∈ T, t.length < 65536 := by intro t ht; have h1 := HK.out.2.2.2.2 t (by rw [List.take_length]; exact ht); omega
      obtain ⟨N, HN⟩ : ∃ N : Nat, Hid (N = 1 + size % 9) := ⟨_, Lib.hid rfl⟩
      have hN1 : 1 ≤ N := by have := HN.out; omega
      have hN9 : N ≤ 9 := by have := HN.out; omega
      have hsl := hS4.sl_read
      obtain ⟨ao7', cap7', heq, -⟩ := hsl
      have Hb := Lib.hid (fun (w' : World) (h : Sat w' (sl 5 1 bb.length (.slice ao7 bb.length cap7) (bb.map byteV) :: sl 5 1 ww.length (.slice ao8 ww.length cap8) (ww.map byteV) :: Rs)) => h.sl_read)
      have hallA : ∀ m n : Int, m = (N : Nat) → n = (ww.length : Nat) → Calls Try.prog 33 #[.slice ao7 bb.length cap7, .int .i64 m, .int .i64 n] wr (AllP ww.length bb (sl 5 1 bb.length (.slice ao7 bb.length cap7) (bb.map byteV) :: sl 5 1 ww.length (.slice ao8 ww.length cap8) (ww.map byteV) :: Rs)) := by
        intro m n hm hn; rw [hm, hn]; exact all_1 (by omega) hS4 Hb.out (by omega) hN1 (by omega)
      have HallA := Lib.hid hallA
      have hNv : (size : Int) % 9 = (N : Int) - 1 := by have := HN.out; omega
      have HNv := Lib.hid hNv
      clear hallA hS4 hNv
      clear heq
      rcases (by omega : ww.length = 0 ∨ less = 0 ∨ (0 < less ∧ less < ww.length) ∨ (0 < ww.length ∧ ww.length ≤ less)) with h0 | h0 | h0 | h0
      · have hle : ww.length ≤ less := by omega
        have hz : ((ww.length : Int) == 0) = true := beq_iff_eq.2 (by omega)
        clear h0
        go_wp2_with (first
          | (go_at_call 33; refine (HallA.out _ _ (by have := HNv.out; omega) (by omega)).mono ?_; rintro e w2 ⟨r, ov, d, hT, rfl, hS5⟩; have h6 := tells_enc (lim := (ww.length : Nat)) hT3 (by rw [← hww.out]; omega) (by rw [← hbb.out]; exact hT); obtain ⟨g1, g2, g3⟩ := h6; rw [← hww.out] at g2; rw [g2] at hS5; obtain ⟨_, oo, oap, rfl, -, -, -, -⟩ := hS5.at_ 0 _ rfl; have HsA := Lib.hid (same_d hS5.sl_read (Sat.front hS5 3 _ rfl).sl_read); have hdA := done_all (Sat.front hS5 1 _ rfl); have hdn : r.done = decide (0 < T.length) := (by rw [g3]; cases T <;> simp); rw [hdn] at hdA; have HdA := Lib.hid hdA; have HS5 := Lib.hid hS5; clear HallA hT hdn hdA hS5 g2 g3)
          | (go_at_call 34; refine HsA.out.mono ?_; rintro e w3 ⟨rfl, rfl⟩; clear HsA)
          | (go_at_call 35; refine HdA.out.mono ?_; rintro e w3 ⟨rfl, rfl⟩; clear HdA))
        all_goals
          go_ret
          exact ⟨rfl, Sat.perm (As := [_, _, _, _]) (Bs := []) HS5.out [] rfl (by simp)⟩
      · go_wp2_with (first
          | (go_at_call 33; refine (HallA.out _ _ (by have := HNv.out; omega) (by omega)).mono ?_; rintro e w2 ⟨r, ov, d, hT, rfl, hS5⟩; have h6 := tells_enc (lim := (ww.length : Nat)) hT3 (by rw [← hww.out]; omega) (by rw [← hbb.out]; exact hT); obtain ⟨g1, g2, g3⟩ := h6; rw [← hww.out] at g2; rw [g2] at hS5; obtain ⟨_, oo, oap, rfl, -, -, -, -⟩ := hS5.at_ 0 _ rfl; have HsA := Lib.hid (same_d hS5.sl_read (Sat.front hS5 3 _ rfl).sl_read); have hdA := done_all (Sat.front hS5 1 _ rfl); have hdn : r.done = decide (0 < T.length) := (by rw [g3]; cases T <;> simp); rw [hdn] at hdA; have HdA := Lib.hid hdA; have HS5 := Lib.hid hS5; clear HallA hT hdn hdA hS5 g2 g3)
          | (go_at_call 34; refine HsA.out.mono ?_; rintro e w3 ⟨rfl, rfl⟩; clear HsA)
          | (go_at_call 35; refine HdA.out.mono ?_; rintro e w3 ⟨rfl, rfl⟩; clear HdA))
        go_ret
        exact ⟨rfl, Sat.perm (As := [_, _, _, _]) (Bs := []) HS5.out [] rfl (by simp)⟩
      · obtain ⟨h0a, h0b⟩ := h0
        obtain ⟨M, HM⟩ : ∃ M : Nat, Hid (M = ww.length - less) := ⟨_, Lib.hid rfl⟩
        have hMw : M ≤ ww.length := by have := HM.out; omega
        have hMv : (ww.length : Int) - (less : Nat) = (M : Int) := by have := HM.out; omega
        have HMv := Lib.hid hMv
        have HmkB : Hid (∀ (w5 : World) (X Y : Res) (Z : List Res), Sat w5 (X :: Y :: sl 5 1 bb.length (.slice ao7 bb.length cap7) (bb.map byteV) :: Z) → ∀ m n : Int, m = (N : Nat) → n = (M : Nat) → Calls Try.prog 33 #[.slice ao7 bb.length cap7, .int .i64 m, .int .i64 n] w5 (AllP M bb (X :: Y :: sl 5 1 bb.length (.slice ao7 bb.length cap7) (bb.map byteV) :: Z))) := by
          intro w5 X Y Z h5 m n hm hn; rw [hm, hn]; exact all_1 (by omega) h5 (fun w' h => (Sat.front h 2 _ rfl).sl_read) (by omega) hN1 (by omega)
        clear hMv
        go_wp2_with (first
          | (go_at_call 33; refine (HallA.out _ _ (by have := HNv.out; omega) (by omega)).mono ?_; rintro e w2 ⟨r, ov, d, hT, rfl, hS5⟩; have h6 := tells_enc (lim := (ww.length : Nat)) hT3 (by rw [← hww.out]; omega) (by rw [← hbb.out]; exact hT); obtain ⟨g1, g2, g3⟩ := h6; rw [← hww.out] at g2; rw [g2] at hS5; obtain ⟨_, oo, oap, rfl, -, -, -, -⟩ := hS5.at_ 0 _ rfl; have HsA := Lib.hid (same_d hS5.sl_read (Sat.front hS5 3 _ rfl).sl_read); have hdA := done_all (Sat.front hS5 1 _ rfl); have hdn : r.done = decide (0 < T.length) := (by rw [g3]; cases T <;> simp); rw [hdn] at hdA; have HdA := Lib.hid hdA; have HS5 := Lib.hid hS5; clear HallA hT hdn hdA hS5 g2 g3; have HallB := Lib.hid (HmkB.out _ _ _ _ HS5.out); clear HmkB)
          | (go_at_call 34; refine HsA.out.mono ?_; rintro e w3 ⟨rfl, rfl⟩; clear HsA)
          | (go_at_call 35; refine HdA.out.mono ?_; rintro e w3 ⟨rfl, rfl⟩; clear HdA)
          | (go_at_call 33; refine (HallB.out _ _ (by have := HNv.out; omega) (by have := HMv.out; omega)).mono ?_; rintro e w6 ⟨r2, ov2, d2, hT2, rfl, hS6⟩; have hr2 : r2 = .bad (ww.take M) 9 := (by have h7 := tells_enc_bad (lim := (M : Nat)) hT3 (by omega) (by rw [← hww.out]; have := HM.out; omega) (by rw [← hbb.out]; exact hT2); rw [← hww.out] at h7; exact h7); subst hr2; have hlM : (ww.take M).length = M := (by rw [List.length_take]; omega); obtain ⟨_, oo2, oap2, hoo2, -, -, -, -⟩ := hS6.at_ 0 _ rfl; rw [show (DRes.hist (.bad (ww.take M) 9)).length = M from hlM] at hoo2; subst hoo2; have hsy := hS6.sl_read; rw [show (DRes.hist (.bad (ww.take M) 9)).length = M from hlM] at hsy; have hsl := slr_head (Sat.front hS6 5 _ rfl).sl_read M hMw; rw [← List.map_take] at hsl; have Hsame : Hid (Calls Try.prog 34 #[.slice oo2 M oap2, .slice ao8 M cap8] w6 fun e' w' => e' = .returned (.bool true) ∧ w' = w6) := (by refine (same_d (xs := ww.take M) (ys := ww.take M) (by rw [hlM]; exact hsy) (by rw [hlM]; exact hsl)).mono ?_; rintro e w11 ⟨rfl, rfl⟩; rw [beq_self_eq_true]; exact ⟨rfl, rfl⟩); have HS6 := Lib.hid hS6; clear HallB; clear hsl hsy; clear hT2; clear hS6; clear hlM; have hMv := HMv.out; have hMc : M ≤ cap8 := Nat.le_trans hMw hc8)
          | (go_at_call 34; refine Hsame.out.mono ?_; rintro e w7 ⟨rfl, rfl⟩; clear Hsame))
        go_ret
        exact ⟨rfl, Sat.perm (As := [_, _, _, _, _, _]) (Bs := []) HS6.out [] rfl (by simp)⟩
      · obtain ⟨h0a, h0b⟩ := h0
        obtain ⟨M, HM⟩ : ∃ M : Nat, Hid (M = ww.length - ww.length) := ⟨_, Lib.hid rfl⟩
        obtain rfl : M = 0 := by have := HM.out; omega
        have hMw : 0 ≤ ww.length := by have := HM.out; omega
        have hMv : (ww.length : Int) - (ww.length : Nat) = ((0 : Nat) : Int) := by have := HM.out; omega
        have HMv := Lib.hid hMv
        have HmkB : Hid (∀ (w5 : World) (X Y : Res) (Z : List Res), Sat w5 (X :: Y :: sl 5 1 bb.length (.slice ao7 bb.length cap7) (bb.map byteV) :: Z) → ∀ m n : Int, m = (N : Nat) → n = (0 : Nat) → Calls Try.prog 33 #[.slice ao7 bb.length cap7, .int .i64 m, .int .i64 n] w5 (AllP (0 : Nat) bb (X :: Y :: sl 5 1 bb.length (.slice ao7 bb.length cap7) (bb.map byteV) :: Z))) := by
          intro w5 X Y Z h5 m n hm hn; rw [hm, hn]; exact all_1 (by omega) h5 (fun w' h => (Sat.front h 2 _ rfl).sl_read) (by omega) hN1 (by omega)
        clear hMv
        go_wp2_with (first
          | (go_at_call 33; refine (HallA.out _ _ (by have := HNv.out; omega) (by omega)).mono ?_; rintro e w2 ⟨r, ov, d, hT, rfl, hS5⟩; have h6 := tells_enc (lim := (ww.length : Nat)) hT3 (by rw [← hww.out]; omega) (by rw [← hbb.out]; exact hT); obtain ⟨g1, g2, g3⟩ := h6; rw [← hww.out] at g2; rw [g2] at hS5; obtain ⟨_, oo, oap, rfl, -, -, -, -⟩ := hS5.at_ 0 _ rfl; have HsA := Lib.hid (same_d hS5.sl_read (Sat.front hS5 3 _ rfl).sl_read); have hdA := done_all (Sat.front hS5 1 _ rfl); have hdn : r.done = decide (0 < T.length) := (by rw [g3]; cases T <;> simp); rw [hdn] at hdA; have HdA := Lib.hid hdA; have HS5 := Lib.hid hS5; clear HallA hT hdn hdA hS5 g2 g3; have HallB := Lib.hid (HmkB.out _ _ _ _ HS5.out); clear HmkB)
          | (go_at_call 34; refine HsA.out.mono ?_; rintro e w3 ⟨rfl, rfl⟩; clear HsA)
          | (go_at_call 35; refine HdA.out.mono ?_; rintro e w3 ⟨rfl, rfl⟩; clear HdA)
          | (go_at_call 33; refine (HallB.out _ _ (by have := HNv.out; omega) (by have := HMv.out; omega)).mono ?_; rintro e w6 ⟨r2, ov2, d2, hT2, rfl, hS6⟩; have hr2 : r2 = .bad (ww.take 0) 9 := (by have h7 := tells_enc_bad (lim := (0 : Nat)) hT3 (by omega) (by rw [← hww.out]; have := HM.out; omega) (by rw [← hbb.out]; exact hT2); rw [← hww.out] at h7; exact h7); subst hr2; have hlM : (ww.take 0).length = 0 := (by rw [List.length_take]; omega); obtain ⟨_, oo2, oap2, hoo2, -, -, -, -⟩ := hS6.at_ 0 _ rfl; rw [show (DRes.hist (.bad (ww.take 0) 9)).length = 0 from hlM] at hoo2; subst hoo2; have hsy := hS6.sl_read; rw [show (DRes.hist (.bad (ww.take 0) 9)).length = 0 from hlM] at hsy; have hsl := slr_head (Sat.front hS6 5 _ rfl).sl_read 0 hMw; rw [← List.map_take] at hsl; have Hsame : Hid (Calls Try.prog 34 #[.slice oo2 0 oap2, .slice ao8 0 cap8] w6 fun e' w' => e' = .returned (.bool true) ∧ w' = w6) := (by refine (same_d (xs := ww.take 0) (ys := ww.take 0) (by rw [hlM]; exact hsy) (by rw [hlM]; exact hsl)).mono ?_; rintro e w11 ⟨rfl, rfl⟩; rw [beq_self_eq_true]; exact ⟨rfl, rfl⟩); have HS6 := Lib.hid hS6; clear HallB; clear hsl hsy; clear hT2; clear hS6; clear hlM; have hMv := HMv.out; have hMc : 0 ≤ cap8 := Nat.le_trans hMw hc8)
          | (go_at_call 34; refine Hsame.out.mono ?_; rintro e w7 ⟨rfl, rfl⟩; clear Hsame))
        all_goals
          go_ret
          exact ⟨rfl, Sat.perm (As := [_, _, _, _, _, _]) (Bs := []) HS6.out [] rfl (by simp)⟩

end Go.Proofs.Ytobkmkdnkdbgeaa
