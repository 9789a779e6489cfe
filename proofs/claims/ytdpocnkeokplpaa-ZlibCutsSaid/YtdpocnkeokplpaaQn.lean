/- inflate.Decoder: told and copies are steps. inflate.Decoder: Push. -/
import Derived.Test.YtdpocnkeokplpaaQl
import Derived.Test.YtdpocnkeokplpaaQm
import Derived.Test.YtdpocnkeokplpaaQk
import Derived.Test.YtdpocnkeokplpaaQj
import Derived.Test.YtdpocnkeokplpaaQi
import Derived.Test.YtdpocnkeokplpaaQh
import Derived.WalkMore
import Derived.Deep.LoopGhost
import Derived.Deep.RegionWith
namespace Go.Proofs.Ytdpocnkeokplpaa
open Go.RowKit Go.Hal
set_option linter.unusedVariables false
set_option linter.unusedSimpArgs false

/-- The decoder, its reader, its row, its codes, what was told since n0, what stands behind the end. -/
def decs (d : Nat) (lim : Int) (n0 : Nat) (s : DS) (c : DC) (rs : List UInt8) (cb : List Bool) : List Res :=
  [decR d (headV s c) c.win (footV s.hist.length lim c.ov c.rv 0), rd c.r cb, sl 3 1 s.row.length c.rowv ((natsV s.row).map intV), oc c.fv s.first, oc c.lv s.lit, oc c.wv s.way,
    sl 5 1 (s.hist.drop n0).length c.ov ((s.hist.drop n0).map byteV), sl 5 1 rs.length c.rv (rs.map byteV)]
/-- Behind an error. -/
def badR (d : Nat) (lim : Int) (n0 : Nat) (hist : List UInt8) (e : Nat) (Rs : List Res) (w' : World) : Prop :=
  e ≠ 0 ∧ n0 ≤ hist.length ∧ ∃ h win ov rv, Sat w' (decR d h win (footV hist.length lim ov rv e) :: sl 5 1 (hist.drop n0).length ov ((hist.drop n0).map byteV) :: Rs) ∧ ∃ k : Int, h[1]? = some (.int .i64 k)
def goR (d : Nat) (lim : Int) (n0 : Nat) (t : DS) (Rs : List Res) (w' : World) : Prop :=
  n0 ≤ t.hist.length ∧ ∃ c, Win t.hist c.win ∧ Sat w' (decs d lim n0 t c [] t.bits ++ Rs)
/-- A step was made, or could not be made. -/
def StepP (d : Nat) (lim : Int) (n0 : Nat) (s : DS) (c : DC) (Rs : List Res) (e' : Ending) (w' : World) : Prop :=
  (dstep lim s = .stop ∧ e' = .returned (.bool false) ∧ Sat w' (decs d lim n0 s c [] s.bits ++ Rs)) ∨
  (∃ hist e b, dstep lim s = .bad hist e ∧ e' = .returned (.bool b) ∧ badR d lim n0 hist e Rs w') ∨
  (∃ t, dstep lim s = .go t ∧ e' = .returned (.bool true) ∧ goR d lim n0 t Rs w')

theorem stop_none {o : Option (List Nat)} {s : DS} {k : Nat → DS → DOut} (h : (decO o s.bits).2.1 ≠ 0) : wordD o s k = if (decO o s.bits).2.1 = 2 then .stop else .bad s.hist (decO o s.bits).2.1 := by
  unfold wordD
  rw [if_neg h]
theorem decO_drop0 {o : Option (List Nat)} {l : List Bool} (h : (decO o l).2.1 ≠ 0) : (decO o l).2.2 = 0 := by
  obtain ⟨⟨x, e, n⟩, hD⟩ : ∃ D, decO o l = D := ⟨_, rfl⟩
  have := (decO_good hD).2.2
  rw [hD] at h ⊢
  exact this h

theorem told_3 {w : World} {d n0 : Nat} {lim : Int} {s : DS} {c : DC} {Rs : List Res} (hI : DInv lim s) (hw : Win s.hist c.win) (hn : n0 ≤ s.hist.length) (hst : s.st = 3) (hS : Sat w (decs d lim n0 s c [] s.bits ++ Rs)) :
    Calls Try.prog 54 #[.pointer (some ⟨d, 0, none⟩)] w (StepP d lim n0 s c Rs) := by
  have hd : dstep lim s = takeD 14 s countsD := by unfold dstep; rw [hst]; rfl
  by_cases h : s.bits.length < 14
  · refine (counts_stop hS hst h).mono ?_
    rintro e' w' ⟨rfl, h2⟩
    exact .inl ⟨by rw [hd]; unfold takeD; rw [if_pos h], rfl, h2⟩
  · refine (counts_go hS hst (by omega) _ rfl).mono ?_
    rintro e' w' ⟨rfl, h2⟩
    have hd2 : dstep lim s = countsD (num (s.bits.take 14)) { s with bits := s.bits.drop 14 } := by rw [hd]; unfold takeD; rw [if_neg h]
    unfold countsD at hd2
    by_cases hc : 286 < num (s.bits.take 14) % 32 + 257 ∨ 30 < num (s.bits.take 14) / 32 % 32 + 1
    · rw [if_pos hc] at hd2 h2
      exact .inr (.inl ⟨_, _, _, hd2, rfl, by decide, hn, _, _, _, _, Sat.perm (As := [_, _, _, _, _, _, _, _]) h2 [0, 6] [_, _] rfl (by simp), _, rfl⟩)
    · rw [if_neg hc] at hd2 h2
      exact .inr (.inr ⟨_, hd2, rfl, hn, c, hw, h2⟩)

theorem told_4 {w : World} {d n0 : Nat} {lim : Int} {s : DS} {c : DC} {Rs : List Res} (hI : DInv lim s) (hw : Win s.hist c.win) (hn : n0 ≤ s.hist.length) (hst : s.st = 4) (hS : Sat w (decs d lim n0 s c [] s.bits ++ Rs)) :
    Calls Try.prog 54 #[.pointer (some ⟨d, 0, none⟩)] w (StepP d lim n0 s c Rs) := by
  have hd : dstep lim s = codesD s := by unfold dstep; rw [hst]; rfl
  unfold codesD at hd
  have h4 := hI.four hst
  by_cases h : s.bits.length < 3 * s.left
  · rw [if_pos h] at hd
    refine (codes_stop hS hst h4.2 h).mono ?_
    rintro e' w' ⟨rfl, h2⟩
    exact .inl ⟨hd, rfl, h2⟩
  · rw [if_neg h] at hd
    refine (codes_go hS hst h4.1 h4.2 (by omega)).mono ?_
    rintro e' w' ⟨rfl, ⟨a1, a2, fv, h2⟩ | ⟨a1, h', h2, hk⟩⟩
    · rw [if_pos ⟨a1, a2⟩] at hd
      refine .inr (.inr ⟨_, hd, rfl, hn, { c with rowv := .slice none 0 0, fv := fv }, hw, ?_⟩)
      have h3 := (Sat.perm (As := [_, _, _, _, _, _, _, _, _]) h2 [0, 1, 2, 5, 6, 7, 8] [_, _, _, _, _, _, _] rfl (by simp)).sl_nil 3 1 none
      exact Sat.perm (As := [_, _, _, _, _, _, _, _]) h3 [1, 2, 0, 3, 4, 5, 6, 7] [_, _, _, _, _, _, _, _] rfl (by simp)
    · rw [if_neg a1] at hd
      exact .inr (.inl ⟨_, _, _, hd, rfl, by decide, hn, _, _, _, _, Sat.perm (As := [_, _, _, _, _, _, _]) h2 [0, 5] [_, _] rfl (by simp), hk⟩)

theorem codeS_or (L : List Nat) (k : Option Nat) : codeS L k = some L ∨ codeS L k = none := by
  unfold codeS
  split
  · exact .inl rfl
  · exact .inr rfl
/-- What lay came to, as a step. -/
theorem lay_step {d n0 v n : Nat} {lim : Int} {s s' : DS} {c : DC} {Rs R2 : List Res} {w' : World} (h : LayQ d s.hist.length 0 lim s c v n Rs w') (hw : Win s.hist c.win) (hn : n0 ≤ s.hist.length)
    (e1 : s'.row = s.row) (e2 : s'.lits = s.lits) (e3 : s'.dists = s.dists) (e4 : s'.hist = s.hist)
    (hbad : Sat w' (decR d (headV s c) c.win (footV s.hist.length lim c.ov c.rv 5) :: Rs) → badR d lim n0 s.hist 5 R2 w')
    (hgo : ∀ rv', Sat w' (decR d (headV { s with row := s.row ++ List.replicate n v, st := 5 } { c with rowv := rv' }) c.win (footV s.hist.length lim c.ov c.rv 0) :: sl 3 1 (s.row ++ List.replicate n v).length rv' ((natsV (s.row ++ List.replicate n v)).map intV) :: Rs) →
      goR d lim n0 { s' with row := s'.row ++ List.replicate n v, st := 5 } R2 w') :
    (∃ hist e, layD v n s' = .bad hist e ∧ badR d lim n0 hist e R2 w') ∨ (∃ t, layD v n s' = .go t ∧ goR d lim n0 t R2 w') := by
  unfold layD
  rw [e2, e3, e1, e4]
  rcases h with ⟨h1, h2⟩ | ⟨h1, rv', h2⟩
  · rw [if_pos h1]
    exact .inl ⟨_, _, rfl, hbad h2⟩
  · rw [if_neg h1]
    refine .inr ⟨_, rfl, ?_⟩
    have := hgo rv' h2
    rw [e1, e2, e3, e4] at this
    exact this

theorem told_5 {w : World} {d n0 : Nat} {lim : Int} {s : DS} {c : DC} {Rs : List Res} (hI : DInv lim s) (hw : Win s.hist c.win) (hn : n0 ≤ s.hist.length) (hst : s.st = 5) (hS : Sat w (decs d lim n0 s c [] s.bits ++ Rs)) :
    Calls Try.prog 54 #[.pointer (some ⟨d, 0, none⟩)] w (StepP d lim n0 s c Rs) := by
  have hd : dstep lim s = lensD s := by unfold dstep; rw [hst]; rfl
  unfold lensD at hd
  have h5 := hI.five (.inr (.inl hst))
  have h6 := hI.row (.inl hst)
  have h7 := hI.lits
  by_cases hf : s.row.length = s.lits + s.dists
  · rw [if_pos hf] at hd
    refine (full_go (Sat.perm (As := [_, _, _, _, _, _, _, _]) hS [0, 2, 1, 3, 4, 5, 6, 7] [_, _, _, _, _, _, _, _] rfl (by simp)) hst hf h5.1 h5.2 h7.1 h7.2).mono ?_
    rintro e' w' ⟨rfl, ⟨lv, wv, a1, a2, h2⟩ | ⟨a1, h', h2, hk⟩⟩
    · rw [a1, a2] at hd
      refine .inr (.inr ⟨_, hd, rfl, hn, { c with lv := lv, wv := wv }, hw, ?_⟩)
      exact Sat.perm (As := [_, _, _, _, _, _, _, _, _, _]) h2 [0, 4, 1, 5, 2, 3, 8, 9] [_, _, _, _, _, _, _, _] rfl (by simp)
    · have hd2 : dstep lim s = .bad s.hist 5 := by
        rw [hd]
        rcases codeS_or (s.row.take s.lits) (some 256) with b1 | b1
        · rcases codeS_or (s.row.drop s.lits) none with b2 | b2
          · exact absurd ⟨b1, b2⟩ a1
          · rw [b1, b2]; rfl
        · rw [b1]; rfl
      exact .inr (.inl ⟨_, _, _, hd2, rfl, by decide, hn, _, _, _, _, Sat.perm (As := [_, _, _, _, _, _, _]) h2 [0, 5] [_, _] rfl (by simp), hk⟩)
  · rw [if_neg hf] at hd
    have hr : s.row.length ≤ 316 := by omega
    have hS2 := Sat.perm (As := [_, _, _, _, _, _, _, _]) hS [0, 1, 3, 2, 4, 5, 6, 7] [_, _, _, _, _, _, _, _] rfl (by simp)
    by_cases he : (decO s.first s.bits).2.1 = 0
    · have hd2 := hd
      unfold wordD at hd2
      rw [if_pos he] at hd2
      dsimp only at hd2
      obtain ⟨L, hL, hlt⟩ := dec_sym he
      rw [(hI.first L hL).2] at hlt
      by_cases hx : (decO s.first s.bits).1 < 16
      · rw [if_pos hx] at hd2
        refine (lens_lay hS2 hst hf h7.1 h7.2 hr he hx).mono ?_
        rintro e' w' ⟨rfl, h2⟩
        rcases lay_step (n0 := n0) (s' := { s with bits := s.bits.drop (decO s.first s.bits).2.2 }) (R2 := Rs) h2 hw hn rfl rfl rfl rfl (fun h3 => ⟨by decide, hn, _, _, _, _, Sat.perm (As := [_, _, _, _, _, _, _]) h3 [0, 5] [_, _] rfl (by simp), _, rfl⟩)
          (fun rv' h3 => ⟨hn, { c with rowv := rv' }, hw, Sat.perm (As := [_, _, _, _, _, _, _, _]) h3 [0, 2, 1, 3, 4, 5, 6, 7] [_, _, _, _, _, _, _, _] rfl (by simp)⟩) with ⟨hist, e, h3, h4⟩ | ⟨t, h3, h4⟩
        · exact .inr (.inl ⟨hist, e, true, hd2.trans h3, rfl, h4⟩)
        · exact .inr (.inr ⟨t, hd2.trans h3, rfl, h4⟩)
      · rw [if_neg hx] at hd2
        by_cases h16 : (decO s.first s.bits).1 = 16
        · by_cases h0 : s.row = []
          · rw [if_pos ⟨h16, by rw [h0]; rfl⟩] at hd2
            refine (lens_empty hS2 hst hf h7.1 h7.2 hr he h16 h0).mono ?_
            rintro e' w' ⟨rfl, h', h2, hk⟩
            exact .inr (.inl ⟨_, _, _, hd2, rfl, by decide, hn, _, _, _, _, Sat.perm (As := [_, _, _, _, _]) h2 [0, 3] [_, _] rfl (by simp), hk⟩)
          · have hl : 0 < s.row.length := List.length_pos_iff.2 h0
            obtain ⟨y, hy⟩ : ∃ y, s.row[s.row.length - 1]? = some y := ⟨_, List.getElem?_eq_getElem (by omega)⟩
            have hyl : s.row.getLastD 0 = y := by rw [List.getLastD_eq_getLast?, List.getLast?_eq_getElem?, hy]; rfl
            rw [if_neg (by rintro ⟨-, h⟩; omega)] at hd2
            simp only [h16, if_true, hyl] at hd2
            refine (lens_last hS2 hst hf h7.1 h7.2 hr he h16 y hy hl).mono ?_
            rintro e' w' ⟨rfl, h2⟩
            exact .inr (.inr ⟨_, hd2, rfl, hn, c, hw, Sat.perm (As := [_, _, _, _, _, _, _, _]) h2 [0, 1, 3, 2, 4, 5, 6, 7] [_, _, _, _, _, _, _, _] rfl (by simp)⟩)
        · rw [if_neg (by rintro ⟨h, -⟩; exact h16 h)] at hd2
          simp only [h16, if_false] at hd2
          refine (lens_more hS2 hst hf h7.1 h7.2 hr he (by omega)).mono ?_
          rintro e' w' ⟨rfl, h2⟩
          exact .inr (.inr ⟨_, hd2, rfl, hn, c, hw, Sat.perm (As := [_, _, _, _, _, _, _, _]) h2 [0, 1, 3, 2, 4, 5, 6, 7] [_, _, _, _, _, _, _, _] rfl (by simp)⟩)
    · rw [stop_none he] at hd
      refine (lens_no hS2 hst hf h7.1 h7.2 hr he).mono ?_
      rintro e' w' ⟨rfl, h2⟩
      rw [decO_drop0 he] at h2
      by_cases h20 : (decO s.first s.bits).2.1 = 2
      · rw [if_pos h20] at hd
        rw [h20] at h2
        exact .inl ⟨hd, rfl, Sat.perm (As := [_, _, _, _, _, _, _, _]) h2 [0, 1, 3, 2, 4, 5, 6, 7] [_, _, _, _, _, _, _, _] rfl (by simp)⟩
      · rw [if_neg h20] at hd
        have hew : errW 0 (decO s.first s.bits).2.1 = (decO s.first s.bits).2.1 := by unfold errW; rw [if_neg (by omega)]
        rw [hew] at h2
        exact .inr (.inl ⟨_, _, _, hd, rfl, he, hn, _, _, _, _, Sat.perm (As := [_, _, _, _, _, _, _, _]) h2 [0, 6] [_, _] rfl (by simp), _, rfl⟩)

theorem told_6 {w : World} {d n0 : Nat} {lim : Int} {s : DS} {c : DC} {Rs : List Res} (hI : DInv lim s) (hw : Win s.hist c.win) (hn : n0 ≤ s.hist.length) (hst : s.st = 6) (hS : Sat w (decs d lim n0 s c [] s.bits ++ Rs)) :
    Calls Try.prog 54 #[.pointer (some ⟨d, 0, none⟩)] w (StepP d lim n0 s c Rs) := by
  have hd : dstep lim s = takeD s.extra s fun n s => layD s.left (s.base + n) s := by unfold dstep; rw [hst]; rfl
  unfold takeD at hd
  have h6 := hI.row (.inr hst)
  have h7 := hI.lits
  by_cases h : s.bits.length < s.extra
  · rw [if_pos h] at hd
    refine (more_stop hS hst hI.extra h).mono ?_
    rintro e' w' ⟨rfl, h2⟩
    exact .inl ⟨hd, rfl, h2⟩
  · rw [if_neg h] at hd
    refine (more_go hS hst hI.extra hI.base h7.1 h7.2 (by omega) (by omega)).mono ?_
    rintro e' w' ⟨rfl, h2⟩
    rcases lay_step (n0 := n0) (s' := { s with bits := s.bits.drop s.extra }) (R2 := Rs) h2 hw hn rfl rfl rfl rfl (fun h3 => ⟨by decide, hn, _, _, _, _, Sat.perm (As := [_, _, _, _, _, _, _]) h3 [0, 5] [_, _] rfl (by simp), _, rfl⟩)
      (fun rv' h3 => ⟨hn, { c with rowv := rv' }, hw, Sat.perm (As := [_, _, _, _, _, _, _, _]) h3 [0, 2, 1, 3, 4, 5, 6, 7] [_, _, _, _, _, _, _, _] rfl (by simp)⟩) with ⟨hist, e, h3, h4⟩ | ⟨t, h3, h4⟩
    · exact .inr (.inl ⟨hist, e, true, hd.trans h3, rfl, h4⟩)
    · exact .inr (.inr ⟨t, hd.trans h3, rfl, h4⟩)

theorem told_all {w : World} {d n0 : Nat} {lim : Int} {s : DS} {c : DC} {Rs : List Res} (hI : DInv lim s) (hw : Win s.hist c.win) (hn : n0 ≤ s.hist.length) (hst : s.st = 3 ∨ s.st = 4 ∨ s.st = 5 ∨ s.st = 6) (hS : Sat w (decs d lim n0 s c [] s.bits ++ Rs)) :
    Calls Try.prog 54 #[.pointer (some ⟨d, 0, none⟩)] w (StepP d lim n0 s c Rs) := by
  rcases hst with h | h | h | h
  · exact told_3 hI hw hn h hS
  · exact told_4 hI hw hn h hS
  · exact told_5 hI hw hn h hS
  · exact told_6 hI hw hn h hS

theorem copies_8 {w : World} {d n0 : Nat} {lim : Int} {s : DS} {c : DC} {Rs : List Res} (hI : DInv lim s) (hw : Win s.hist c.win) (hn : n0 ≤ s.hist.length) (hst : s.st = 8) (hS : Sat w (decs d lim n0 s c [] s.bits ++ Rs)) :
    Calls Try.prog 57 #[.pointer (some ⟨d, 0, none⟩)] w (StepP d lim n0 s c Rs) := by
  have hd : dstep lim s = takeD s.extra s fun n s => .go { s with left := s.base + n, st := 9 } := by unfold dstep; rw [hst]; rfl
  unfold takeD at hd
  by_cases h : s.bits.length < s.extra
  · rw [if_pos h] at hd
    refine (longer_stop hS (.inl hst) hI.extra h).mono ?_
    rintro e' w' ⟨rfl, h2⟩
    exact .inl ⟨hd, rfl, h2⟩
  · rw [if_neg h] at hd
    refine (longer_go hS hst hI.extra hI.base (by omega)).mono ?_
    rintro e' w' ⟨rfl, h2⟩
    exact .inr (.inr ⟨_, hd, rfl, hn, c, hw, h2⟩)

theorem copies_10 {w : World} {d n0 : Nat} {lim : Int} {s : DS} {c : DC} {Rs : List Res} (hI : DInv lim s) (hw : Win s.hist c.win) (hn : n0 ≤ s.hist.length) (hst : s.st = 10) (hS : Sat w (decs d lim n0 s c [] s.bits ++ Rs)) :
    Calls Try.prog 57 #[.pointer (some ⟨d, 0, none⟩)] w (StepP d lim n0 s c Rs) := by
  have hd : dstep lim s = takeD s.extra s fun n s => if s.hist.length < s.base + n then .bad s.hist 7 else .go { s with far := s.base + n, st := 11 } := by unfold dstep; rw [hst]; rfl
  unfold takeD at hd
  by_cases h : s.bits.length < s.extra
  · rw [if_pos h] at hd
    refine (longer_stop hS (.inr hst) hI.extra h).mono ?_
    rintro e' w' ⟨rfl, h2⟩
    exact .inl ⟨hd, rfl, h2⟩
  · rw [if_neg h] at hd
    dsimp only at hd
    refine (farther_go hS hst hI.extra hI.base (by omega)).mono ?_
    rintro e' w' ⟨rfl, h2⟩
    by_cases hc : s.hist.length < s.base + num (s.bits.take s.extra)
    · rw [if_pos hc] at hd h2
      exact .inr (.inl ⟨_, _, _, hd, rfl, by decide, hn, _, _, _, _, Sat.perm (As := [_, _, _, _, _, _, _, _]) h2 [0, 6] [_, _] rfl (by simp), _, rfl⟩)
    · rw [if_neg hc] at hd h2
      exact .inr (.inr ⟨_, hd, rfl, hn, c, hw, h2⟩)

theorem copies_9 {w : World} {d n0 : Nat} {lim : Int} {s : DS} {c : DC} {Rs : List Res} (hI : DInv lim s) (hw : Win s.hist c.win) (hn : n0 ≤ s.hist.length) (hst : s.st = 9) (hS : Sat w (decs d lim n0 s c [] s.bits ++ Rs)) :
    Calls Try.prog 57 #[.pointer (some ⟨d, 0, none⟩)] w (StepP d lim n0 s c Rs) := by
  have hd : dstep lim s = distD s := by unfold dstep; rw [hst]; rfl
  unfold distD at hd
  have hS2 := Sat.perm (As := [_, _, _, _, _, _, _, _]) hS [0, 1, 5, 2, 3, 4, 6, 7] [_, _, _, _, _, _, _, _] rfl (by simp)
  by_cases he : (decO s.way s.bits).2.1 = 0
  · have hd2 := hd
    unfold wordD at hd2
    rw [if_pos he] at hd2
    dsimp only at hd2
    obtain ⟨L, hL, hlt⟩ := dec_sym he
    have hlen := (hI.way L hL).2
    by_cases hx : 29 < (decO s.way s.bits).1
    · rw [if_pos hx] at hd2
      refine (dist_bad hS2 hst he (by omega)).mono ?_
      rintro e' w' ⟨rfl, h', h2, hk⟩
      exact .inr (.inl ⟨_, _, _, hd2, rfl, by decide, hn, _, _, _, _, Sat.perm (As := [_, _, _, _, _, _]) h2 [0, 4] [_, _] rfl (by simp), hk⟩)
    · rw [if_neg hx] at hd2
      refine (dist_go hS2 hst he (by omega)).mono ?_
      rintro e' w' ⟨rfl, h2⟩
      exact .inr (.inr ⟨_, hd2, rfl, hn, c, hw, Sat.perm (As := [_, _, _, _, _, _, _, _]) h2 [0, 1, 3, 4, 5, 2, 6, 7] [_, _, _, _, _, _, _, _] rfl (by simp)⟩)
  · rw [stop_none he] at hd
    refine (dist_no hS2 hst he).mono ?_
    rintro e' w' ⟨rfl, h2⟩
    rw [decO_drop0 he] at h2
    by_cases h20 : (decO s.way s.bits).2.1 = 2
    · rw [if_pos h20] at hd
      rw [h20] at h2
      exact .inl ⟨hd, rfl, Sat.perm (As := [_, _, _, _, _, _, _, _]) h2 [0, 1, 3, 4, 5, 2, 6, 7] [_, _, _, _, _, _, _, _] rfl (by simp)⟩
    · rw [if_neg h20] at hd
      have hew : errW 0 (decO s.way s.bits).2.1 = (decO s.way s.bits).2.1 := by unfold errW; rw [if_neg (by omega)]
      rw [hew] at h2
      exact .inr (.inl ⟨_, _, _, hd, rfl, he, hn, _, _, _, _, Sat.perm (As := [_, _, _, _, _, _, _, _]) h2 [0, 6] [_, _] rfl (by simp), _, rfl⟩)

/-- A copy turns the history, the state and what is left alone. -/
theorem copyD_same {lim : Int} : ∀ (k : Nat) (s t : DS), copyD lim k s = .go t → t = { s with hist := t.hist, st := 7, left := 0 }
  | 0, s, t, h => by cases h; rfl
  | k + 1, s, t, h => by
    unfold copyD tellD at h
    split at h
    · cases h
    · have := copyD_same k _ t h
      rw [this]
theorem copies_11 {w : World} {d n0 : Nat} {lim : Int} {s : DS} {c : DC} {Rs : List Res} (hI : DInv lim s) (hw : Win s.hist c.win) (hn : n0 ≤ s.hist.length) (hlim : lim ≤ 65535) (hst : s.st = 11) (hS : Sat w (decs d lim n0 s c [] s.bits ++ Rs)) :
    Calls Try.prog 57 #[.pointer (some ⟨d, 0, none⟩)] w (StepP d lim n0 s c Rs) := by
  have hd : dstep lim s = copyD lim s.left s := by unfold dstep; rw [hst]; rfl
  have hf := hI.far hst
  have hh := hI.hist
  refine (again_d (Sat.perm (As := [_, _, _, _, _, _, _, _]) hS [0, 6, 1, 2, 3, 4, 5, 7] [_, _, _, _, _, _, _, _] rfl (by simp)) hst hw hf.1 hf.2.1 hf.2.2 hn hI.left (by omega)).mono ?_
  rintro e' w' ⟨rfl, ⟨hist, h1, h2, h', win, ov, h3, hk⟩ | ⟨t, win, ov, h1, h2, h3, h4⟩⟩
  · exact .inr (.inl ⟨_, _, _, hd.trans h1, rfl, by decide, h2, _, _, _, _, Sat.perm (As := [_, _, _, _, _, _, _, _]) h3 [0, 1] [_, _] rfl (by simp), hk⟩)
  · refine .inr (.inr ⟨_, hd.trans h1, rfl, h2, { c with win := win, ov := ov }, h3, ?_⟩)
    have ht := copyD_same _ _ _ h1
    have h5 := Sat.perm (As := [_, _, _, _, _, _, _, _]) h4 [0, 2, 3, 4, 5, 6, 1, 7] [_, _, _, _, _, _, _, _] rfl (by simp)
    rw [ht] at h5 ⊢
    exact h5
theorem copies_all {w : World} {d n0 : Nat} {lim : Int} {s : DS} {c : DC} {Rs : List Res} (hI : DInv lim s) (hw : Win s.hist c.win) (hn : n0 ≤ s.hist.length) (hlim : lim ≤ 65535) (hst : s.st = 8 ∨ s.st = 9 ∨ s.st = 10 ∨ s.st = 11) (hS : Sat w (decs d lim n0 s c [] s.bits ++ Rs)) :
    Calls Try.prog 57 #[.pointer (some ⟨d, 0, none⟩)] w (StepP d lim n0 s c Rs) := by
  rcases hst with h | h | h | h
  · exact copies_8 hI hw hn h hS
  · exact copies_9 hI hw hn h hS
  · exact copies_10 hI hw hn h hS
  · exact copies_11 hI hw hn hlim h hS

end Go.Proofs.Ytdpocnkeokplpaa

namespace Go.Proofs.Ytdpocnkeokplpaa
open Go.RowKit Go.Hal
set_option linter.unusedVariables false
set_option linter.unusedSimpArgs false

/-- The decoder between calls: what was told is given away. -/
def idleL (d : Nat) (lim : Int) (s : DS) (c : DC) (rs : List UInt8) (cb : List Bool) : List Res :=
  [decR d (headV s c) c.win (footV s.hist.length lim c.ov c.rv 0), rd c.r cb, sl 3 1 s.row.length c.rowv ((natsV s.row).map intV), oc c.fv s.first, oc c.lv s.lit, oc c.wv s.way, sl 5 1 rs.length c.rv (rs.map byteV)]
/-- What is known of a state that has come up. -/
def HAp (lim : Int) (n0 : Nat) (s0 s : DS) (c : DC) (rs : List UInt8) (cb : List Bool) : Prop :=
  (∀ r, Runs lim s r → Runs lim s0 r) ∧ DInv lim s ∧ Win s.hist c.win ∧ n0 ≤ s.hist.length ∧ (s.st ≠ 12 → rs = []) ∧ bitsOf rs ++ cb = s.bits ∧ muD s ≤ muD s0
/-- What a round begins with. -/
def RunA (d : Nat) (lim : Int) (n0 : Nat) (s0 s : DS) (c : DC) (rs : List UInt8) (cb : List Bool) (Rs : List Res) (w : World) : Prop :=
  HAp lim n0 s0 s c rs cb ∧ Sat w (decs d lim n0 s c rs cb ++ Rs)
def RunB (d : Nat) (lim : Int) (n0 : Nat) (s0 : DS) (Rs : List Res) (w : World) : Prop := ∃ hist e, Runs lim s0 (.bad hist e) ∧ badR d lim n0 hist e Rs w
/-- What Push comes to. -/
def PushP (d : Nat) (lim : Int) (n0 : Nat) (s0 : DS) (Rs : List Res) (e' : Ending) (w' : World) : Prop :=
  (∃ s c rs cb, dstep lim s = .stop ∧ RunA d lim n0 s0 s c rs cb Rs w' ∧ (s.st = 12 → cb = []) ∧ e' = .returned (.tuple #[c.ov, .int .i64 0])) ∨
  (∃ hist e h win ov rv, Runs lim s0 (.bad hist e) ∧ e ≠ 0 ∧ n0 ≤ hist.length ∧ e' = .returned (.tuple #[ov, .int .i64 (e : Nat)]) ∧ Sat w' (decR d h win (footV hist.length lim ov rv e) :: sl 5 1 (hist.drop n0).length ov ((hist.drop n0).map byteV) :: Rs) ∧ ∃ k : Int, h[1]? = some (.int .i64 k))

theorem rd_bytes {w : World} {r : Nat} {l : List Bool} {Rs : List Res} (hS : Sat w (rd r l :: Rs)) (h : l.length % 8 = 0) : ∃ bs, l = bitsOf bs := by
  obtain ⟨v, bs, off, h0, h1, h2, hl, h3⟩ := rd_open hS
  have hlen := congrArg List.length hl
  simp only [bitsOf_length, List.length_drop] at hlen
  refine ⟨bs, ?_⟩
  obtain rfl : off = 0 := by omega
  simpa using hl
theorem push_stop {d n0 : Nat} {lim : Int} {s0 s : DS} {c : DC} {rs : List UInt8} {cb : List Bool} {Rs : List Res} {w' : World} (h : HAp lim n0 s0 s c rs cb) (hst : s.st ≠ 12) (hd : dstep lim s = .stop) (hS : Sat w' (decs d lim n0 s c [] s.bits ++ Rs)) :
    PushP d lim n0 s0 Rs (.returned (.tuple #[c.ov, .int .i64 0])) w' :=
  .inl ⟨s, c, [], s.bits, hd, ⟨⟨h.1, h.2.1, h.2.2.1, h.2.2.2.1, fun _ => rfl, rfl, h.2.2.2.2.2.2⟩, hS⟩, fun e => absurd e hst, rfl⟩
theorem push_bad {d n0 e : Nat} {lim : Int} {s0 s : DS} {c : DC} {rs : List UInt8} {cb : List Bool} {Rs : List Res} {w' : World} {hist : List UInt8} {h : List Value} {win : Nat → Value} {ov rv : Value} (hA : HAp lim n0 s0 s c rs cb) (hd : dstep lim s = .bad hist e) (he : e ≠ 0) (hn : n0 ≤ hist.length)
    (hS : Sat w' (decR d h win (footV hist.length lim ov rv e) :: sl 5 1 (hist.drop n0).length ov ((hist.drop n0).map byteV) :: Rs)) (h1 : ∃ k : Int, h[1]? = some (.int .i64 k)) :
    PushP d lim n0 s0 Rs (.returned (.tuple #[ov, .int .i64 (e : Nat)])) w' :=
  .inr ⟨hist, e, h, win, ov, rv, hA.1 _ (.bad hd), he, hn, rfl, hS, h1⟩
theorem next_go {d n0 gk : Nat} {lim : Int} {s0 s t : DS} {c : DC} {rs : List UInt8} {cb : List Bool} {Rs : List Res} {w' : World} (h : HAp lim n0 s0 s c rs cb) (hd : dstep lim s = .go t) (hg : muD s + 2 ≤ gk) (hG : goR d lim n0 t Rs w') :
    (∃ s c rs cb, muD s + 2 ≤ gk - 1 ∧ RunA d lim n0 s0 s c rs cb Rs w') ∨ (1 ≤ gk - 1 ∧ RunB d lim n0 s0 Rs w') := by
  obtain ⟨hn, c', hw, hS⟩ := hG
  have hm := mu_step h.2.1 hd
  exact .inl ⟨t, c', [], t.bits, by omega, ⟨fun r hr => h.1 r (.go hd hr), h.2.1.step hd, hw, hn, fun _ => rfl, rfl, by have := h.2.2.2.2.2.2; omega⟩, hS⟩
theorem next_bad {d n0 gk : Nat} {lim : Int} {s0 s : DS} {c : DC} {rs : List UInt8} {cb : List Bool} {Rs : List Res} {w' : World} {hist : List UInt8} {e : Nat} (h : HAp lim n0 s0 s c rs cb) (hd : dstep lim s = .bad hist e) (hg : muD s + 2 ≤ gk) (hB : badR d lim n0 hist e Rs w') :
    (∃ s c rs cb, muD s + 2 ≤ gk - 1 ∧ RunA d lim n0 s0 s c rs cb Rs w') ∨ (1 ≤ gk - 1 ∧ RunB d lim n0 s0 Rs w') :=
  .inr ⟨by omega, hist, e, h.1 _ (.bad hd), hB⟩

set_option maxRecDepth 100000 in
set_option maxHeartbeats 20000000 in
theorem push_run {w : World} {d n0 : Nat} {lim : Int} {s0 s : DS} {c : DC} {rs : List UInt8} {cb : List Bool} {Rs : List Res} (hlim : lim ≤ 65535) (hI : DInv lim s) (hw : Win s.hist c.win) (hn0 : n0 = s.hist.length) (h12 : s.st ≠ 12 → rs = [])
    (hS : Sat w (idleL d lim s c rs cb ++ Rs)) {v : Value} {ys : List UInt8} (hv : ∀ w', Sat w' Rs → SlR w' 5 1 ys.length v (ys.map byteV)) (hb : s.bits.length + 8 * ys.length ≤ 1125899906842616) (hs0 : s0 = s.more (bitsOf ys)) (hcb : bitsOf rs ++ cb = s.bits) :
    Calls Try.prog 19 #[.pointer (some ⟨d, 0, none⟩), v] w (PushP d lim n0 s0 Rs) := by
  have q0 : w.cell? ⟨d, 0, none⟩ = some (.pointer (some ⟨c.r, 0, none⟩)) := (dec_h hS 0 _ rfl).1
  have t2 : w.cell? ⟨d, 32783, none⟩ = some c.ov := (dec_t hS 2 _ rfl).1
  have f2 : w.frozen? ⟨d, 32783, none⟩ = false := (dec_t hS 2 _ rfl).2
  have t4 : w.cell? ⟨d, 32785, none⟩ = some (.int .i64 0) := (dec_t hS 4 _ rfl).1
  have hS1 := dec_set_t hS 2 (by omega) (.slice none 0 0)
  have hS2 : Sat (w.setCell ⟨d, 32783, none⟩ (.slice none 0 0)) (rd c.r cb :: decR d (headV s c) c.win (footV s.hist.length lim (.slice none 0 0) c.rv 0) :: sl 3 1 s.row.length c.rowv ((natsV s.row).map intV) :: oc c.fv s.first :: oc c.lv s.lit :: oc c.wv s.way ::
      sl 5 1 rs.length c.rv (rs.map byteV) :: Rs) := Sat.perm (As := [_, _, _, _, _, _, _]) hS1 [1, 0, 2, 3, 4, 5, 6] [_, _, _, _, _, _, _] rfl (by simp)
  have hfeed := feed_rd hS2 (hv _ (Sat.perm (As := [_, _, _, _, _, _, _]) (Bs := []) hS2 [] rfl (by simp))) (by rw [← hcb, List.length_append] at hb; omega)
  have HB : Hid (s0.bits.length ≤ 1125899906842616) := by unfold Hid; rw [hs0]; show (s.bits ++ bitsOf ys).length ≤ _; rw [List.length_append, bitsOf_length]; exact hb
  have Hfeed := Lib.hid hfeed
  have hvs := hv _ (Sat.perm (As := [_, _, _, _, _, _, _]) (Bs := []) hS2 [] rfl (by simp))
  obtain ⟨vao, vcap, rfl, -, -, -, -⟩ := hvs
  have Hcb := Lib.hid hcb
  have Hs0 := Lib.hid hs0
  have hd0 : s.hist.drop n0 = [] := by rw [hn0, List.drop_length]
  have Hd0 := Lib.hid hd0
  have Hn0 : Hid (n0 = s.hist.length) := hn0
  have HI : Hid (DInv lim s ∧ Win s.hist c.win ∧ (s.st ≠ 12 → rs = [])) := ⟨hI, hw, h12⟩
  clear hfeed hS hS1 hS2 hv hcb hs0 hd0 hn0 hI hw h12 hb
  go_enter Try.func19, Try.ntmps19
  go_wp2
  go_step3
  go_wp2_with (go_at_call 47; refine Hfeed.out.mono ?_; rintro e' w2 ⟨rfl, hS3⟩)
  go_step3
  go_wp2
  have hS4 : RunA d lim n0 s0 s0 { c with ov := .slice none 0 0 } rs (cb ++ bitsOf ys) Rs w2 := by
    obtain ⟨i1, i2, i3⟩ := HI.out
    have hs := Hs0.out
    have h5 := Sat.perm (As := [_, _, _, _, _, _, _, _]) (hS3.sl_nil 5 1 none) [2, 1, 3, 4, 5, 6, 0, 7] [_, _, _, _, _, _, _, _] rfl (by simp)
    subst hs
    refine ⟨⟨fun r h => h, i1.more (by simp), i2, Nat.le_of_eq Hn0.out, i3, ?_, Nat.le_refl _⟩, ?_⟩
    · rw [← List.append_assoc, Hcb.out]; rfl
    · show Sat w2 (decs d lim n0 (s.more (bitsOf ys)) { c with ov := .slice none 0 0 } rs (cb ++ bitsOf ys) ++ Rs)
      unfold decs
      rw [show (s.more (bitsOf ys)).hist.drop n0 = [] from Hd0.out]
      exact h5
  clear hS3 Hfeed HI Hd0 Hn0 Hcb Hs0 q0 t2 f2 t4
  go_loopg [] (muD s0 + 2) (fun g wr => (∃ s c rs cb, muD s + 2 ≤ g ∧ RunA d lim n0 s0 s c rs cb Rs wr) ∨ (1 ≤ g ∧ RunB d lim n0 s0 Rs wr))
  case atStart => exact .inl ⟨_, _, _, _, Nat.le_refl _, hS4⟩
  case round =>
    clear hS4
    rcases hrel with ⟨s, c, rs, cb, hg, hA, hS⟩ | ⟨hg, hB⟩
    · have HA := Lib.hid hA
      obtain ⟨hR, hI, hw, hn, h12, hcb, -⟩ := hA
      have q0 : wr.cell? ⟨d, 0, none⟩ = some (.pointer (some ⟨c.r, 0, none⟩)) := (dec_h hS 0 _ rfl).1
      have q1 : wr.cell? ⟨d, 1, none⟩ = some (.int .i64 s.st) := (dec_h hS 1 _ rfl).1
      have t4 : wr.cell? ⟨d, 32785, none⟩ = some (.int .i64 0) := (dec_t hS 4 _ rfl).1
      have hst := hI.st
      have hplain : s.st ≠ 12 → Sat wr (decs d lim n0 s c [] s.bits ++ Rs) := by
        intro h
        have h1 := h12 h
        rw [h1] at hcb hS
        simp only [bitsOf, List.flatMap_nil, List.nil_append] at hcb
        rw [hcb] at hS
        exact hS
      have Hp := Lib.hid hplain
      have HS := Lib.hid hS
      have Hg := Lib.hid hg
      clear hR hw hn h12 hcb hS hplain hg
      by_cases h36 : s.st = 3 ∨ s.st = 4 ∨ s.st = 5 ∨ s.st = 6
      · have Ht := Lib.hid (told_all hI HA.out.2.2.1 HA.out.2.2.2.1 h36 (Hp.out (by omega)))
        have hst12 : s.st ≠ 12 := by omega
        have Hst12 := Lib.hid hst12
        clear hI hst hst12
        rcases h36 with h | h | h | h
        all_goals
         as_aux_lemma =>
          rw [h] at q1
          clear h
          go_wp2_with (go_at_call 54; refine Ht.out.mono ?_; rintro e' w3 h3; have h4 : ∃ b, e' = .returned (.bool b) ∧ Hid (StepP d lim n0 s c Rs e' w3) := (by rcases h3 with ⟨a1, rfl, a2⟩ | ⟨a1, a2, a3, a4, rfl, a5⟩ | ⟨a1, a2, rfl, a3⟩; exact ⟨_, rfl, .inl ⟨a1, rfl, a2⟩⟩; exact ⟨_, rfl, .inr (.inl ⟨a1, a2, a3, a4, rfl, a5⟩)⟩; exact ⟨_, rfl, .inr (.inr ⟨a1, a2, rfl, a3⟩)⟩); obtain ⟨b, rfl, H3⟩ := h4; clear h3)
          · rcases H3.out with ⟨a1, -, hS3⟩ | ⟨hist, e, b, a1, -, a3, a4, h, win, ov, rv, hS3, h1⟩ | ⟨t, a1, a2, a3⟩
            · have t2 : w3.cell? ⟨d, 32783, none⟩ = some c.ov := (dec_t hS3 2 _ rfl).1
              have t5 : w3.cell? ⟨d, 32785, none⟩ = some (.int .i64 0) := (dec_t hS3 4 _ rfl).1
              have HF := Lib.hid (Sat.drew hS3)
              clear hS3
              go_region
              go_wp2
              rw [Exit.noGoto_ret]
              go_ret2
              exact push_stop HA.out Hst12.out a1 HF.out
            · have t2 : w3.cell? ⟨d, 32783, none⟩ = some ov := (dec_t hS3 2 _ rfl).1
              have t5 : w3.cell? ⟨d, 32785, none⟩ = some (.int .i64 e) := (dec_t hS3 4 _ rfl).1
              have HF := Lib.hid (Sat.drew hS3)
              clear hS3
              go_region
              go_wp2
              rw [Exit.noGoto_ret]
              go_ret2
              exact push_bad HA.out a1 a3 a4 HF.out h1
            · cases a2; first | exact absurd (by assumption : (!true) = true) (by decide) | exact absurd (by assumption : (!false) = false) (by decide)
          · rcases H3.out with ⟨a1, a2, hS3⟩ | ⟨hist, e, b, a1, -, a3⟩ | ⟨t, a1, a2, a3⟩
            · cases a2; first | exact absurd (by assumption : (!true) = true) (by decide) | exact absurd (by assumption : (!false) = false) (by decide)
            · go_roundg (gk - 1)
              case measure => have := Hg.out; omega
              case rel => exact next_bad HA.out a1 Hg.out a3
            · go_roundg (gk - 1)
              case measure => have := Hg.out; omega
              case rel => exact next_go HA.out a1 Hg.out a3
      · skip
        by_cases h36 : s.st = 8 ∨ s.st = 9 ∨ s.st = 10 ∨ s.st = 11
        · have Ht := Lib.hid (copies_all hI HA.out.2.2.1 HA.out.2.2.2.1 hlim h36 (Hp.out (by omega)))
          have hst12 : s.st ≠ 12 := by omega
          have Hst12 := Lib.hid hst12
          clear hI hst hst12
          rcases h36 with h | h | h | h
          all_goals
           as_aux_lemma =>
            rw [h] at q1
            clear h
            go_wp2_with (go_at_call 57; refine Ht.out.mono ?_; rintro e' w3 h3; have h4 : ∃ b, e' = .returned (.bool b) ∧ Hid (StepP d lim n0 s c Rs e' w3) := (by rcases h3 with ⟨a1, rfl, a2⟩ | ⟨a1, a2, a3, a4, rfl, a5⟩ | ⟨a1, a2, rfl, a3⟩; exact ⟨_, rfl, .inl ⟨a1, rfl, a2⟩⟩; exact ⟨_, rfl, .inr (.inl ⟨a1, a2, a3, a4, rfl, a5⟩)⟩; exact ⟨_, rfl, .inr (.inr ⟨a1, a2, rfl, a3⟩)⟩); obtain ⟨b, rfl, H3⟩ := h4; clear h3)
            · rcases H3.out with ⟨a1, -, hS3⟩ | ⟨hist, e, b, a1, -, a3, a4, h, win, ov, rv, hS3, h1⟩ | ⟨t, a1, a2, a3⟩
              · have t2 : w3.cell? ⟨d, 32783, none⟩ = some c.ov := (dec_t hS3 2 _ rfl).1
                have t5 : w3.cell? ⟨d, 32785, none⟩ = some (.int .i64 0) := (dec_t hS3 4 _ rfl).1
                have HF := Lib.hid (Sat.drew hS3)
                clear hS3
                go_region
                go_wp2
                rw [Exit.noGoto_ret]
                go_ret2
                exact push_stop HA.out Hst12.out a1 HF.out
              · have t2 : w3.cell? ⟨d, 32783, none⟩ = some ov := (dec_t hS3 2 _ rfl).1
                have t5 : w3.cell? ⟨d, 32785, none⟩ = some (.int .i64 e) := (dec_t hS3 4 _ rfl).1
                have HF := Lib.hid (Sat.drew hS3)
                clear hS3
                go_region
                go_wp2
                rw [Exit.noGoto_ret]
                go_ret2
                exact push_bad HA.out a1 a3 a4 HF.out h1
              · cases a2; first | exact absurd (by assumption : (!true) = true) (by decide) | exact absurd (by assumption : (!false) = false) (by decide)
            · rcases H3.out with ⟨a1, a2, hS3⟩ | ⟨hist, e, b, a1, -, a3⟩ | ⟨t, a1, a2, a3⟩
              · cases a2; first | exact absurd (by assumption : (!true) = true) (by decide) | exact absurd (by assumption : (!false) = false) (by decide)
              · go_roundg (gk - 1)
                case measure => have := Hg.out; omega
                case rel => exact next_bad HA.out a1 Hg.out a3
              · go_roundg (gk - 1)
                case measure => have := Hg.out; omega
                case rel => exact next_go HA.out a1 Hg.out a3
        · skip
          by_cases h0 : s.st = 0
          · have hd : dstep lim s = takeD 3 s headD := by unfold dstep; rw [h0]; rfl
            have hst12 : s.st ≠ 12 := by omega
            have hSp := Hp.out hst12
            have Hst12 := Lib.hid hst12
            have Hst0 := Lib.hid h0
            rw [h0] at q1
            unfold takeD at hd
            clear hst hst12
            by_cases hl : s.bits.length < 3
            · as_aux_lemma =>
              rw [if_pos hl] at hd
              have Hd := Lib.hid hd
              have Ht := Lib.hid (take_rd_short (Sat.perm (As := [_, _, _, _, _, _, _, _]) hSp [1, 0, 2, 3, 4, 5, 6, 7] [_, _, _, _, _, _, _, _] rfl (by simp)) 3 (by omega) hl)
              have HSp := Lib.hid (fun k => hSp.drewN k)
              clear hd hl hI h0 hSp
              go_wp2_with (go_at_call 48; refine Ht.out.mono ?_; rintro e' w3 ⟨rfl, k3, rfl⟩)
              have hS3 := HSp.out k3
              generalize wr.drewN k3 = w3 at hS3 ⊢
              have t2 : w3.cell? ⟨d, 32783, none⟩ = some c.ov := (dec_t hS3 2 _ rfl).1
              have t5 : w3.cell? ⟨d, 32785, none⟩ = some (.int .i64 0) := (dec_t hS3 4 _ rfl).1
              have HF := Lib.hid (Sat.drew hS3)
              clear hS3
              go_region
              go_wp2
              rw [Exit.noGoto_ret]
              go_ret2
              exact push_stop HA.out Hst12.out Hd.out HF.out
            · rw [if_neg hl] at hd
              have ht := take_rd (Sat.perm (As := [_, _, _, _, _, _, _, _]) hSp [1, 0, 2, 3, 4, 5, 6, 7] [_, _, _, _, _, _, _, _] rfl (by simp)) 3 (by omega) (by omega)
              have hv8 := num_take_lt s.bits 3 3 (by omega)
              generalize num (s.bits.take 3) = v at *
              have Ht := Lib.hid ht
              have hvc : v = 0 ∨ v = 1 ∨ v = 2 ∨ v = 3 ∨ v = 4 ∨ v = 5 ∨ v = 6 ∨ v = 7 := by omega
              clear ht hSp hl hI h0 hv8
              rcases hvc with rfl | rfl | rfl | rfl | rfl | rfl | rfl | rfl
              · as_aux_lemma =>
                have hd2 : dstep lim s = .go { s with bits := s.bits.drop 3, last := false, st := 1 } := hd
                have Hd := Lib.hid hd2
                clear hd hd2
                go_wp2_with (go_at_call 48; refine Ht.out.mono ?_; rintro e' w3 ⟨rfl, hS3⟩; have hS4 := Sat.swap hS3; have p2 : w3.cell? ⟨d, 2, none⟩ = some (.bool s.last) := (dec_h hS4 2 _ rfl).1; have f2 : w3.frozen? ⟨d, 2, none⟩ = false := (dec_h hS4 2 _ rfl).2; have p1 : w3.cell? ⟨d, 1, none⟩ = some (.int .i64 0) := (by have := (dec_h hS4 1 _ rfl).1; rw [Hst0.out] at this; exact this); have f1 : w3.frozen? ⟨d, 1, none⟩ = false := (dec_h hS4 1 _ rfl).2; have H5 := Lib.hid (dec_set_h (dec_set_h hS4 2 (by omega) (.bool false)) 1 (by omega) (.int .i64 1)); clear hS3 hS4)
                go_roundg (gk - 1)
                case measure => have := Hg.out; omega
                case rel => exact next_go HA.out Hd.out Hg.out ⟨HA.out.2.2.2.1, c, HA.out.2.2.1, H5.out⟩
              · as_aux_lemma =>
                have hd2 : dstep lim s = .go { s with bits := s.bits.drop 3, last := true, st := 1 } := hd
                have Hd := Lib.hid hd2
                clear hd hd2
                go_wp2_with (go_at_call 48; refine Ht.out.mono ?_; rintro e' w3 ⟨rfl, hS3⟩; have hS4 := Sat.swap hS3; have p2 : w3.cell? ⟨d, 2, none⟩ = some (.bool s.last) := (dec_h hS4 2 _ rfl).1; have f2 : w3.frozen? ⟨d, 2, none⟩ = false := (dec_h hS4 2 _ rfl).2; have p1 : w3.cell? ⟨d, 1, none⟩ = some (.int .i64 0) := (by have := (dec_h hS4 1 _ rfl).1; rw [Hst0.out] at this; exact this); have f1 : w3.frozen? ⟨d, 1, none⟩ = false := (dec_h hS4 1 _ rfl).2; have H5 := Lib.hid (dec_set_h (dec_set_h hS4 2 (by omega) (.bool true)) 1 (by omega) (.int .i64 1)); clear hS3 hS4)
                go_roundg (gk - 1)
                case measure => have := Hg.out; omega
                case rel => exact next_go HA.out Hd.out Hg.out ⟨HA.out.2.2.2.1, c, HA.out.2.2.1, H5.out⟩
              · as_aux_lemma =>
                have hd2 : dstep lim s = .go { s with bits := s.bits.drop 3, last := false, st := 7, lit := some fixL, way := some fixD } := hd
                have Hd := Lib.hid hd2
                clear hd hd2
                go_wp2_with (first | (go_at_call 48; refine Ht.out.mono ?_; rintro e' w3 ⟨rfl, hS3⟩; have hS4 := Sat.swap hS3; have p2 : w3.cell? ⟨d, 2, none⟩ = some (.bool s.last) := (dec_h hS4 2 _ rfl).1; have f2 : w3.frozen? ⟨d, 2, none⟩ = false := (dec_h hS4 2 _ rfl).2; have p1 : w3.cell? ⟨d, 1, none⟩ = some (.int .i64 0) := (by have := (dec_h hS4 1 _ rfl).1; rw [Hst0.out] at this; exact this); have f1 : w3.frozen? ⟨d, 1, none⟩ = false := (dec_h hS4 1 _ rfl).2; have hS5 := dec_set_h hS4 2 (by omega) (.bool false); have Hf := Lib.hid (fixed_d (s := { s with last := false }) hS5); clear hS3 hS4 hS5) | (go_at_call 49; refine Hf.out.mono ?_; rintro e' w4 ⟨rfl, a1, a2, hS6⟩; have k1 : w4.cell? ⟨d, 1, none⟩ = some (.int .i64 0) := (by have := (dec_h hS6 1 _ rfl).1; rw [show (DS.st _) = 0 from Hst0.out] at this; exact this); have l1 : w4.frozen? ⟨d, 1, none⟩ = false := (dec_h hS6 1 _ rfl).2; have H7 := Lib.hid (dec_set_h hS6 1 (by omega) (.int .i64 7)); clear hS6))
                go_roundg (gk - 1)
                case measure => have := Hg.out; omega
                case rel =>
                  have b1 := oc_some (Sat.perm (As := [_, _, _, _, _, _, _, _, _, _]) H7.out [1, 0, 2, 3, 4, 5, 8, 9] [_, _, _, _, _, _, _, _] rfl (by simp)) (codeS_fits fix_lit).1 (codeS_fits fix_lit).2
                  have b2 := oc_some (Sat.perm (As := [_, _, _, _, _, _, _, _]) b1 [2, 0, 1, 3, 4, 5, 6, 7] [_, _, _, _, _, _, _, _] rfl (by simp)) (codeS_fits fix_way).1 (codeS_fits fix_way).2
                  exact next_go HA.out Hd.out Hg.out ⟨HA.out.2.2.2.1, { c with lv := .pointer (some ⟨a1, 0, none⟩), wv := .pointer (some ⟨a2, 0, none⟩) }, HA.out.2.2.1, Sat.perm (As := [_, _, _, _, _, _, _, _]) b2 [2, 3, 4, 5, 1, 0, 6, 7] [_, _, _, _, _, _, _, _] rfl (by simp)⟩
              · as_aux_lemma =>
                have hd2 : dstep lim s = .go { s with bits := s.bits.drop 3, last := true, st := 7, lit := some fixL, way := some fixD } := hd
                have Hd := Lib.hid hd2
                clear hd hd2
                go_wp2_with (first | (go_at_call 48; refine Ht.out.mono ?_; rintro e' w3 ⟨rfl, hS3⟩; have hS4 := Sat.swap hS3; have p2 : w3.cell? ⟨d, 2, none⟩ = some (.bool s.last) := (dec_h hS4 2 _ rfl).1; have f2 : w3.frozen? ⟨d, 2, none⟩ = false := (dec_h hS4 2 _ rfl).2; have p1 : w3.cell? ⟨d, 1, none⟩ = some (.int .i64 0) := (by have := (dec_h hS4 1 _ rfl).1; rw [Hst0.out] at this; exact this); have f1 : w3.frozen? ⟨d, 1, none⟩ = false := (dec_h hS4 1 _ rfl).2; have hS5 := dec_set_h hS4 2 (by omega) (.bool true); have Hf := Lib.hid (fixed_d (s := { s with last := true }) hS5); clear hS3 hS4 hS5) | (go_at_call 49; refine Hf.out.mono ?_; rintro e' w4 ⟨rfl, a1, a2, hS6⟩; have k1 : w4.cell? ⟨d, 1, none⟩ = some (.int .i64 0) := (by have := (dec_h hS6 1 _ rfl).1; rw [show (DS.st _) = 0 from Hst0.out] at this; exact this); have l1 : w4.frozen? ⟨d, 1, none⟩ = false := (dec_h hS6 1 _ rfl).2; have H7 := Lib.hid (dec_set_h hS6 1 (by omega) (.int .i64 7)); clear hS6))
                go_roundg (gk - 1)
                case measure => have := Hg.out; omega
                case rel =>
                  have b1 := oc_some (Sat.perm (As := [_, _, _, _, _, _, _, _, _, _]) H7.out [1, 0, 2, 3, 4, 5, 8, 9] [_, _, _, _, _, _, _, _] rfl (by simp)) (codeS_fits fix_lit).1 (codeS_fits fix_lit).2
                  have b2 := oc_some (Sat.perm (As := [_, _, _, _, _, _, _, _]) b1 [2, 0, 1, 3, 4, 5, 6, 7] [_, _, _, _, _, _, _, _] rfl (by simp)) (codeS_fits fix_way).1 (codeS_fits fix_way).2
                  exact next_go HA.out Hd.out Hg.out ⟨HA.out.2.2.2.1, { c with lv := .pointer (some ⟨a1, 0, none⟩), wv := .pointer (some ⟨a2, 0, none⟩) }, HA.out.2.2.1, Sat.perm (As := [_, _, _, _, _, _, _, _]) b2 [2, 3, 4, 5, 1, 0, 6, 7] [_, _, _, _, _, _, _, _] rfl (by simp)⟩
              · as_aux_lemma =>
                have hd2 : dstep lim s = .go { s with bits := s.bits.drop 3, last := false, st := 3 } := hd
                have Hd := Lib.hid hd2
                clear hd hd2
                go_wp2_with (go_at_call 48; refine Ht.out.mono ?_; rintro e' w3 ⟨rfl, hS3⟩; have hS4 := Sat.swap hS3; have p2 : w3.cell? ⟨d, 2, none⟩ = some (.bool s.last) := (dec_h hS4 2 _ rfl).1; have f2 : w3.frozen? ⟨d, 2, none⟩ = false := (dec_h hS4 2 _ rfl).2; have p1 : w3.cell? ⟨d, 1, none⟩ = some (.int .i64 0) := (by have := (dec_h hS4 1 _ rfl).1; rw [Hst0.out] at this; exact this); have f1 : w3.frozen? ⟨d, 1, none⟩ = false := (dec_h hS4 1 _ rfl).2; have H5 := Lib.hid (dec_set_h (dec_set_h hS4 2 (by omega) (.bool false)) 1 (by omega) (.int .i64 3)); clear hS3 hS4)
                go_roundg (gk - 1)
                case measure => have := Hg.out; omega
                case rel => exact next_go HA.out Hd.out Hg.out ⟨HA.out.2.2.2.1, c, HA.out.2.2.1, H5.out⟩
              · as_aux_lemma =>
                have hd2 : dstep lim s = .go { s with bits := s.bits.drop 3, last := true, st := 3 } := hd
                have Hd := Lib.hid hd2
                clear hd hd2
                go_wp2_with (go_at_call 48; refine Ht.out.mono ?_; rintro e' w3 ⟨rfl, hS3⟩; have hS4 := Sat.swap hS3; have p2 : w3.cell? ⟨d, 2, none⟩ = some (.bool s.last) := (dec_h hS4 2 _ rfl).1; have f2 : w3.frozen? ⟨d, 2, none⟩ = false := (dec_h hS4 2 _ rfl).2; have p1 : w3.cell? ⟨d, 1, none⟩ = some (.int .i64 0) := (by have := (dec_h hS4 1 _ rfl).1; rw [Hst0.out] at this; exact this); have f1 : w3.frozen? ⟨d, 1, none⟩ = false := (dec_h hS4 1 _ rfl).2; have H5 := Lib.hid (dec_set_h (dec_set_h hS4 2 (by omega) (.bool true)) 1 (by omega) (.int .i64 3)); clear hS3 hS4)
                go_roundg (gk - 1)
                case measure => have := Hg.out; omega
                case rel => exact next_go HA.out Hd.out Hg.out ⟨HA.out.2.2.2.1, c, HA.out.2.2.1, H5.out⟩
              · as_aux_lemma =>
                have hd2 : dstep lim s = .bad s.hist 3 := hd
                have Hd := Lib.hid hd2
                clear hd hd2
                go_wp2_with (go_at_call 48; refine Ht.out.mono ?_; rintro e' w3 ⟨rfl, hS3⟩; have hS4 := Sat.swap hS3; have p2 : w3.cell? ⟨d, 2, none⟩ = some (.bool s.last) := (dec_h hS4 2 _ rfl).1; have f2 : w3.frozen? ⟨d, 2, none⟩ = false := (dec_h hS4 2 _ rfl).2; have p1 : w3.cell? ⟨d, 1, none⟩ = some (.int .i64 0) := (by have := (dec_h hS4 1 _ rfl).1; rw [Hst0.out] at this; exact this); have f1 : w3.frozen? ⟨d, 1, none⟩ = false := (dec_h hS4 1 _ rfl).2; have p4 : w3.cell? ⟨d, 32785, none⟩ = some (.int .i64 0) := (dec_t hS4 4 _ rfl).1; have f4 : w3.frozen? ⟨d, 32785, none⟩ = false := (dec_t hS4 4 _ rfl).2; have H5 := Lib.hid (dec_set_t (dec_set_h hS4 2 (by omega) (.bool false)) 4 (by omega) (.int .i64 3)); clear hS3 hS4)
                go_roundg (gk - 1)
                case measure => have := Hg.out; omega
                case rel => exact next_bad HA.out Hd.out Hg.out ⟨by decide, HA.out.2.2.2.1, _, _, _, _, Sat.perm (As := [_, _, _, _, _, _, _, _]) H5.out [0, 6] [_, _] rfl (by simp), _, rfl⟩
              · as_aux_lemma =>
                have hd2 : dstep lim s = .bad s.hist 3 := hd
                have Hd := Lib.hid hd2
                clear hd hd2
                go_wp2_with (go_at_call 48; refine Ht.out.mono ?_; rintro e' w3 ⟨rfl, hS3⟩; have hS4 := Sat.swap hS3; have p2 : w3.cell? ⟨d, 2, none⟩ = some (.bool s.last) := (dec_h hS4 2 _ rfl).1; have f2 : w3.frozen? ⟨d, 2, none⟩ = false := (dec_h hS4 2 _ rfl).2; have p1 : w3.cell? ⟨d, 1, none⟩ = some (.int .i64 0) := (by have := (dec_h hS4 1 _ rfl).1; rw [Hst0.out] at this; exact this); have f1 : w3.frozen? ⟨d, 1, none⟩ = false := (dec_h hS4 1 _ rfl).2; have p4 : w3.cell? ⟨d, 32785, none⟩ = some (.int .i64 0) := (dec_t hS4 4 _ rfl).1; have f4 : w3.frozen? ⟨d, 32785, none⟩ = false := (dec_t hS4 4 _ rfl).2; have H5 := Lib.hid (dec_set_t (dec_set_h hS4 2 (by omega) (.bool true)) 4 (by omega) (.int .i64 3)); clear hS3 hS4)
                go_roundg (gk - 1)
                case measure => have := Hg.out; omega
                case rel => exact next_bad HA.out Hd.out Hg.out ⟨by decide, HA.out.2.2.2.1, _, _, _, _, Sat.perm (As := [_, _, _, _, _, _, _, _]) H5.out [0, 6] [_, _] rfl (by simp), _, rfl⟩
          · skip
            by_cases h1 : s.st = 1
            · have hd : dstep lim s = if s.bits.length / 8 < 4 then .stop else sizeD { s with bits := s.bits.drop (s.bits.length % 8) } := by unfold dstep; rw [h1]; rfl
              have hst12 : s.st ≠ 12 := by omega
              have hSp := Hp.out hst12
              have Hst12 := Lib.hid hst12
              have Hst0 := Lib.hid h1
              have hrl := rd_len (Sat.swap hSp)
              have Hh := Lib.hid (have_rd (Sat.swap hSp))
              rw [h1] at q1
              obtain ⟨ln, Hln⟩ : ∃ ln, Hid (s.bits.length = ln) := ⟨_, Lib.hid rfl⟩
              rw [Hln.out] at Hh hrl
              obtain ⟨q, Hq⟩ : ∃ q, Hid (ln / 8 = q) := ⟨_, Lib.hid rfl⟩
              have hq1 : (ln : Int) / 8 = (q : Int) := by have := Hq.out; omega
              have hq2 : Int.tdiv (ln : Int) 8 = (q : Int) := by rw [Int.tdiv_eq_ediv_of_nonneg (by omega)]; exact hq1
              rw [Hln.out, Hq.out] at hd
              clear hst hst12
              by_cases hl : q < 4
              · as_aux_lemma =>
                rw [if_pos hl] at hd
                have Hd := Lib.hid hd
                have HSp := Lib.hid (fun k => hSp.drewN k)
                have hl2 : decide ((q : Int) < 4) = true := decide_eq_true (by omega)
                clear hd hI h1 hSp
                go_wp2_with (go_at_call 50; refine Hh.out.mono ?_; rintro e' w3 ⟨rfl, k3, rfl⟩)
                have hS3 := HSp.out k3
                generalize wr.drewN k3 = w3 at hS3 ⊢
                have t2 : w3.cell? ⟨d, 32783, none⟩ = some c.ov := (dec_t hS3 2 _ rfl).1
                have t5 : w3.cell? ⟨d, 32785, none⟩ = some (.int .i64 0) := (dec_t hS3 4 _ rfl).1
                have HF := Lib.hid (Sat.drew hS3)
                clear hS3
                go_region
                go_wp2
                rw [Exit.noGoto_ret]
                go_ret2
                exact push_stop HA.out Hst12.out Hd.out HF.out
              · rw [if_neg hl] at hd
                have hl2 : decide ((q : Int) < 4) = false := decide_eq_false (by omega)
                have Hal := Lib.hid (fun k => align_rd (Sat.swap (hSp.drewN k)))
                obtain ⟨L1, HL1⟩ : ∃ L1, Hid (s.bits.drop (s.bits.length % 8) = L1) := ⟨_, Lib.hid rfl⟩
                have hLl : 32 ≤ L1.length := by rw [← HL1.out, List.length_drop]; have := Hln.out; have := Hq.out; omega
                rw [← Hln.out, HL1.out] at hd
                rw [HL1.out] at Hal
                have HLl := Lib.hid hLl
                obtain ⟨n, Hn⟩ : ∃ n, Hid (num (L1.take 16) = n) := ⟨_, Lib.hid rfl⟩
                obtain ⟨m, Hm⟩ : ∃ m, Hid (num ((L1.drop 16).take 16) = m) := ⟨_, Lib.hid rfl⟩
                have hn16 : (n : Int) < 65536 := by have := num_take_lt L1 16 16 (by omega); rw [Hn.out] at this; omega
                have hm16 : (m : Int) < 65536 := by have := num_take_lt (L1.drop 16) 16 16 (by omega); rw [Hm.out] at this; omega
                obtain ⟨x, Hx⟩ : ∃ x, Hid (n ^^^ m = x) := ⟨_, Lib.hid rfl⟩
                have hxor : bits BinOp.xor IntKind.i64 (n : Int) (m : Int) = (x : Int) := by rw [xor_i64 n m (by omega) (by omega), Hx.out]
                have hd3 : dstep lim s = if x = 65535 then .go { s with bits := (L1.drop 16).drop 16, left := n, st := 2 } else .bad s.hist 8 := by
                  rw [hd]
                  unfold sizeD takeD
                  rw [if_neg (show ¬ L1.length < 16 by omega)]
                  dsimp only
                  rw [if_neg (show ¬ (L1.drop 16).length < 16 by rw [List.length_drop]; omega), Hn.out, Hm.out, Hx.out]
                clear hd hLl hI h1 hSp hl
                by_cases hx : x = 65535
                · as_aux_lemma =>
                  rw [if_pos hx] at hd3
                  have Hd := Lib.hid hd3
                  subst hx
                  clear hd3
                  go_wp2_with (first | (go_at_call 50; refine Hh.out.mono ?_; rintro e' w3 ⟨rfl, k3, rfl⟩; clear Hh) | (go_at_call 51; refine (Hal.out _).mono ?_; rintro e' w4 ⟨rfl, hS4⟩; have p0 : w4.cell? ⟨d, 0, none⟩ = some (.pointer (some ⟨c.r, 0, none⟩)) := (dec_h hS4.swap 0 _ rfl).1; have ht1 := take_rd hS4 16 (by omega) (by have := HLl.out; omega); rw [Hn.out] at ht1; have Ht1 := Lib.hid ht1; clear ht1 hS4 Hal) | (go_at_call 48; refine Ht1.out.mono ?_; rintro e' w5 ⟨rfl, hS5⟩; have p9 : w5.cell? ⟨d, 0, none⟩ = some (.pointer (some ⟨c.r, 0, none⟩)) := (dec_h hS5.swap 0 _ rfl).1; have ht2 := take_rd hS5 16 (by omega) (by rw [List.length_drop]; have := HLl.out; omega); rw [Hm.out] at ht2; have Ht2 := Lib.hid ht2; clear ht2 hS5 Ht1) | (go_at_call 48; refine Ht2.out.mono ?_; rintro e' w6 ⟨rfl, hS6⟩; clear Ht2; have hS7 := Sat.swap hS6; have p3 : w6.cell? ⟨d, 3, none⟩ = some (.int .i64 s.left) := (dec_h hS7 3 _ rfl).1; have f3 : w6.frozen? ⟨d, 3, none⟩ = false := (dec_h hS7 3 _ rfl).2; have p1 : w6.cell? ⟨d, 1, none⟩ = some (.int .i64 1) := (by have := (dec_h hS7 1 _ rfl).1; rw [show (DS.st _) = 1 from Hst0.out] at this; exact this); have f1 : w6.frozen? ⟨d, 1, none⟩ = false := (dec_h hS7 1 _ rfl).2; have H7 := Lib.hid (dec_set_h (dec_set_h hS7 3 (by omega) (.int .i64 n)) 1 (by omega) (.int .i64 2)); clear hS6 hS7))
                  go_roundg (gk - 1)
                  case measure => have := Hg.out; omega
                  case rel => exact next_go HA.out Hd.out Hg.out ⟨HA.out.2.2.2.1, c, HA.out.2.2.1, H7.out⟩
                · as_aux_lemma =>
                  rw [if_neg hx] at hd3
                  have Hd := Lib.hid hd3
                  have hxne : ((x : Int) != 65535) = true := bne_iff_ne.2 (by omega)
                  clear hd3
                  go_wp2_with (first | (go_at_call 50; refine Hh.out.mono ?_; rintro e' w3 ⟨rfl, k3, rfl⟩; clear Hh) | (go_at_call 51; refine (Hal.out _).mono ?_; rintro e' w4 ⟨rfl, hS4⟩; have p0 : w4.cell? ⟨d, 0, none⟩ = some (.pointer (some ⟨c.r, 0, none⟩)) := (dec_h hS4.swap 0 _ rfl).1; have ht1 := take_rd hS4 16 (by omega) (by have := HLl.out; omega); rw [Hn.out] at ht1; have Ht1 := Lib.hid ht1; clear ht1 hS4 Hal) | (go_at_call 48; refine Ht1.out.mono ?_; rintro e' w5 ⟨rfl, hS5⟩; have p9 : w5.cell? ⟨d, 0, none⟩ = some (.pointer (some ⟨c.r, 0, none⟩)) := (dec_h hS5.swap 0 _ rfl).1; have ht2 := take_rd hS5 16 (by omega) (by rw [List.length_drop]; have := HLl.out; omega); rw [Hm.out] at ht2; have Ht2 := Lib.hid ht2; clear ht2 hS5 Ht1) | (go_at_call 48; refine Ht2.out.mono ?_; rintro e' w6 ⟨rfl, hS6⟩; clear Ht2; have hS7 := Sat.swap hS6; have p3 : w6.cell? ⟨d, 3, none⟩ = some (.int .i64 s.left) := (dec_h hS7 3 _ rfl).1; have f3 : w6.frozen? ⟨d, 3, none⟩ = false := (dec_h hS7 3 _ rfl).2; have p1 : w6.cell? ⟨d, 1, none⟩ = some (.int .i64 1) := (by have := (dec_h hS7 1 _ rfl).1; rw [show (DS.st _) = 1 from Hst0.out] at this; exact this); have f1 : w6.frozen? ⟨d, 1, none⟩ = false := (dec_h hS7 1 _ rfl).2; have p4 : w6.cell? ⟨d, 32785, none⟩ = some (.int .i64 0) := (dec_t hS7 4 _ rfl).1; have f4 : w6.frozen? ⟨d, 32785, none⟩ = false := (dec_t hS7 4 _ rfl).2; have H7 := Lib.hid (dec_set_h (dec_set_h (dec_set_t hS7 4 (by omega) (.int .i64 8)) 3 (by omega) (.int .i64 n)) 1 (by omega) (.int .i64 2)); clear hS6 hS7))
                  go_roundg (gk - 1)
                  case measure => have := Hg.out; omega
                  case rel => exact next_bad HA.out Hd.out Hg.out ⟨by decide, HA.out.2.2.2.1, _, _, _, _, Sat.perm (As := [_, _, _, _, _, _, _, _]) H7.out [0, 6] [_, _] rfl (by simp), _, rfl⟩
            · skip
              by_cases h7 : s.st = 7
              · have hd : dstep lim s = symsD lim s := by unfold dstep; rw [h7]; rfl
                unfold symsD at hd
                have hst12 : s.st ≠ 12 := by omega
                have hSp := Hp.out hst12
                have Hst12 := Lib.hid hst12
                have Hst0 := Lib.hid h7
                have q11 : wr.cell? ⟨d, 11, none⟩ = some c.lv := (dec_h hSp 11 _ rfl).1
                have hvp : ∃ a, c.lv = .pointer a := by
                  rcases oc_out (Sat.front hSp 4 _ rfl) with ⟨-, h, -⟩ | ⟨_, _, -, h, -, -, -⟩
                  · exact ⟨_, h⟩
                  · exact ⟨_, h⟩
                obtain ⟨av, hav⟩ := hvp
                have Hhist : Hid ((s.hist.length : Int) ≤ max 0 lim) := hI.hist
                rw [h7] at q1
                have Hw := Lib.hid (word_d (Sat.perm (As := [_, _, _, _, _, _, _, _]) hSp [0, 1, 4, 2, 3, 5, 6, 7] [_, _, _, _, _, _, _, _] rfl (by simp)) rfl)
                rw [hav] at Hw q11
                have Hav := Lib.hid hav
                clear hst hst12 hSp h7 hI hav
                by_cases he : (decO s.lit s.bits).2.1 = 0
                · unfold wordD at hd
                  rw [if_pos he] at hd
                  dsimp only at hd
                  have hb : ((decO s.lit s.bits).2.1 == 0) = true := beq_iff_eq.2 he
                  rw [hb, he, show errW 0 0 = 0 from rfl] at Hw
                  clear hb he
                  generalize (decO s.lit s.bits).1 = x at *
                  generalize (decO s.lit s.bits).2.2 = n at *
                  by_cases hx1 : x < 256
                  · rw [if_pos hx1] at hd
                    obtain ⟨cc, Hc⟩ : ∃ cc : UInt8, Hid (x = cc.toNat) := ⟨UInt8.ofNat x, by unfold Hid; rw [UInt8.toNat_ofNat']; omega⟩
                    have hxc := Hc.out
                    subst hxc
                    clear Hc
                    rw [UInt8.ofNat_toNat] at hd
                    have hx1I : (cc.toNat : Int) < 256 := by omega
                    have hwr : IntKind.u8.wrap (cc.toNat : Int) = (cc.toNat : Int) := by rw [IntKind.wrap_u8]; omega
                    unfold tellD at hd
                    by_cases hlm : lim ≤ (s.hist.length : Int)
                    · as_aux_lemma =>
                      rw [if_pos hlm] at hd
                      have Hd := Lib.hid hd
                      have Hlm := Lib.hid hlm
                      clear hd hlm
                      go_wp2_with (first | (go_at_call 55; refine Hw.out.mono ?_; rintro e' w3 ⟨rfl, hS3⟩; have ht := tell_no hS3 cc Hlm.out; unfold byteV at ht; have Ht := Lib.hid ht; clear ht hS3) | (go_at_call 52; refine Ht.out.mono ?_; rintro e' w4 ⟨rfl, hS4⟩))
                      go_roundg (gk - 1)
                      case measure => have := Hg.out; omega
                      case rel => exact next_bad HA.out Hd.out Hg.out ⟨by decide, HA.out.2.2.2.1, _, _, _, _, Sat.perm (As := [_, _, _, _, _, _, _, _]) hS4 [0, 6] [_, _] rfl (by simp), _, rfl⟩
                    · as_aux_lemma =>
                      rw [if_neg hlm] at hd
                      have Hd := Lib.hid hd
                      have Hlm := Lib.hid hlm
                      have hout : (s.hist.drop n0).length ≤ s.hist.length := by rw [List.length_drop]; omega
                      have Hout := Lib.hid hout
                      clear hd hlm hout
                      go_wp2_with (first | (go_at_call 55; refine Hw.out.mono ?_; rintro e' w3 ⟨rfl, hS3⟩; have ht := tell_yes (Sat.perm (As := [_, _, _, _, _, _, _, _]) hS3 [0, 6, 1, 2, 3, 4, 5, 7] [_, _, _, _, _, _, _, _] rfl (by simp)) cc (by have := Hlm.out; omega) (by have := Hhist.out; omega) Hout.out; unfold byteV at ht; have Ht := Lib.hid ht; clear ht hS3) | (go_at_call 52; refine Ht.out.mono ?_; rintro e' w4 ⟨rfl, ov', hS4⟩))
                      go_roundg (gk - 1)
                      case measure => have := Hg.out; omega
                      case rel =>
                        refine next_go HA.out Hd.out Hg.out ⟨?_, { c with ov := ov', win := fun j => if j = s.hist.length % 32768 then byteV cc else c.win j }, win_tell HA.out.2.2.1 cc, ?_⟩
                        · rw [List.length_append]; have := HA.out.2.2.2.1; omega
                        · unfold decs
                          rw [List.length_append, List.length_singleton, List.drop_append_of_le_length HA.out.2.2.2.1]
                          have h6 := Sat.perm (As := [_, _, _, _, _, _, _, _]) hS4 [0, 2, 4, 5, 3, 6, 1, 7] [_, _, _, _, _, _, _, _] rfl (by simp)
                          rw [← Hav.out] at h6
                          exact h6
                  · rw [if_neg hx1] at hd
                    by_cases hx2 : x = 256
                    · rw [if_pos hx2] at hd
                      subst hx2
                      unfold closeD at hd
                      cases hlast : s.last
                      · as_aux_lemma =>
                        have hd2 : dstep lim s = .go { s with bits := s.bits.drop n, st := 0 } := by rw [hd]; exact congrArg DOut.go (if_neg (show ¬ s.last = true by rw [hlast]; decide))
                        have Hd := Lib.hid hd2
                        have Hls := Lib.hid hlast
                        clear hd hd2 hlast
                        go_wp2_with (first | (go_at_call 55; refine Hw.out.mono ?_; rintro e' w3 ⟨rfl, hS3⟩; have Ht := Lib.hid (close_go hS3 rfl (by show some (Value.bool s.last) = _; rw [Hls.out])); clear hS3) | (go_at_call 53; refine Ht.out.mono ?_; rintro e' w4 ⟨rfl, hS4⟩))
                        go_roundg (gk - 1)
                        case measure => have := Hg.out; omega
                        case rel =>
                          have h6 := Sat.perm (As := [_, _, _, _, _, _, _, _]) hS4 [0, 1, 3, 4, 2, 5, 6, 7] [_, _, _, _, _, _, _, _] rfl (by simp)
                          rw [← Hav.out] at h6
                          exact next_go HA.out Hd.out Hg.out ⟨HA.out.2.2.2.1, c, HA.out.2.2.1, h6⟩
                      · as_aux_lemma =>
                        have hd2 : dstep lim s = .go { s with bits := (s.bits.drop n).drop ((s.bits.drop n).length % 8), st := 12 } := by rw [hd]; exact congrArg DOut.go (if_pos (show s.last = true from hlast))
                        have Hd := Lib.hid hd2
                        have Hls := Lib.hid hlast
                        clear hd hd2 hlast
                        go_wp2_with (first | (go_at_call 55; refine Hw.out.mono ?_; rintro e' w3 ⟨rfl, hS3⟩; have Ht := Lib.hid (close_end hS3 rfl rfl (by show some (Value.bool s.last) = _; rw [Hls.out])); clear hS3) | (go_at_call 53; refine Ht.out.mono ?_; rintro e' w4 ⟨rfl, hS4⟩))
                        go_roundg (gk - 1)
                        case measure => have := Hg.out; omega
                        case rel =>
                          have h6 := Sat.perm (As := [_, _, _, _, _, _, _, _]) hS4 [0, 1, 3, 4, 2, 5, 6, 7] [_, _, _, _, _, _, _, _] rfl (by simp)
                          rw [← Hav.out] at h6
                          exact next_go HA.out Hd.out Hg.out ⟨HA.out.2.2.2.1, c, HA.out.2.2.1, h6⟩
                    · rw [if_neg hx2] at hd
                      have hx1I : decide ((x : Int) < 256) = false := decide_eq_false (by omega)
                      have hx1N : ¬ x < 256 := hx1
                      have hx2I : ((x : Int) == 256) = false := beq_eq_false_iff_ne.2 (by omega)
                      by_cases hx3 : 285 < x
                      · as_aux_lemma =>
                        rw [if_pos hx3] at hd
                        have Hd := Lib.hid hd
                        have hx3I : decide ((285 : Int) < x) = true := decide_eq_true (by omega)
                        clear hd
                        go_wp2_with (go_at_call 55; refine Hw.out.mono ?_; rintro e' w3 ⟨rfl, hS3⟩; have p4 : w3.cell? ⟨d, 32785, none⟩ = some (.int .i64 0) := (dec_t hS3 4 _ rfl).1; have f4 : w3.frozen? ⟨d, 32785, none⟩ = false := (dec_t hS3 4 _ rfl).2; have H4 := Lib.hid (dec_set_t hS3 4 (by omega) (.int .i64 6)); clear hS3)
                        go_roundg (gk - 1)
                        case measure => have := Hg.out; omega
                        case rel => exact next_bad HA.out Hd.out Hg.out ⟨by decide, HA.out.2.2.2.1, _, _, _, _, Sat.perm (As := [_, _, _, _, _, _, _, _]) H4.out [0, 6] [_, _] rfl (by simp), _, rfl⟩
                      · as_aux_lemma =>
                        rw [if_neg hx3] at hd
                        obtain ⟨y, Hy⟩ : ∃ y, Hid (x = y + 257) := ⟨x - 257, by unfold Hid; omega⟩
                        have hyx := Hy.out
                        subst hyx
                        rw [Nat.add_sub_cancel] at hd
                        have Hd := Lib.hid hd
                        have hx3I : decide ((285 : Int) < ((y + 257 : Nat) : Int)) = false := decide_eq_false (by omega)
                        have hy28 : y ≤ 28 := by omega
                        have Hy28 := Lib.hid hy28
                        clear hd
                        go_wp2_with (first | (go_at_call 55; refine Hw.out.mono ?_; rintro e' w3 ⟨rfl, hS3⟩; have Ht := Lib.hid (length_d hS3 y Hy28.out); clear hS3) | (go_at_call 56; refine Ht.out.mono ?_; rintro e' w4 ⟨rfl, hS4⟩))
                        go_roundg (gk - 1)
                        case measure => have := Hg.out; omega
                        case rel =>
                          have h6 := Sat.perm (As := [_, _, _, _, _, _, _, _]) hS4 [0, 1, 3, 4, 2, 5, 6, 7] [_, _, _, _, _, _, _, _] rfl (by simp)
                          rw [← Hav.out] at h6
                          exact next_go HA.out Hd.out Hg.out ⟨HA.out.2.2.2.1, c, HA.out.2.2.1, h6⟩
                · rw [stop_none he] at hd
                  have hb : ((decO s.lit s.bits).2.1 == 0) = false := beq_eq_false_iff_ne.2 he
                  rw [hb, decO_drop0 he] at Hw
                  by_cases h20 : (decO s.lit s.bits).2.1 = 2
                  · as_aux_lemma =>
                    rw [if_pos h20] at hd
                    rw [h20] at Hw
                    have Hd := Lib.hid hd
                    clear hd he hb h20
                    go_wp2_with (go_at_call 55; refine Hw.out.mono ?_; rintro e' w3 ⟨rfl, hS3'⟩)
                    have hS3 : Sat w3 (decs d lim n0 s c [] s.bits ++ Rs) := by
                      have h6 := Sat.perm (As := [_, _, _, _, _, _, _, _]) hS3' [0, 1, 3, 4, 2, 5, 6, 7] [_, _, _, _, _, _, _, _] rfl (by simp)
                      rw [← Hav.out] at h6
                      exact h6
                    clear hS3'
                    have t2 : w3.cell? ⟨d, 32783, none⟩ = some c.ov := (dec_t hS3 2 _ rfl).1
                    have t5 : w3.cell? ⟨d, 32785, none⟩ = some (.int .i64 0) := (dec_t hS3 4 _ rfl).1
                    have HF := Lib.hid (Sat.drew hS3)
                    clear hS3
                    go_region
                    go_wp2
                    rw [Exit.noGoto_ret]
                    go_ret2
                    exact push_stop HA.out Hst12.out Hd.out HF.out
                  · as_aux_lemma =>
                    rw [if_neg h20] at hd
                    have hew : errW 0 (decO s.lit s.bits).2.1 = (decO s.lit s.bits).2.1 := by unfold errW; rw [if_neg (by omega)]
                    rw [hew] at Hw
                    generalize (decO s.lit s.bits).2.1 = e at *
                    have Hd := Lib.hid hd
                    have He := Lib.hid he
                    clear hd he hb h20 hew
                    go_wp2_with (go_at_call 55; refine Hw.out.mono ?_; rintro e' w3 ⟨rfl, hS3'⟩)
                    have hS3 := Sat.perm (As := [_, _, _, _, _, _, _, _]) hS3' [0, 6] [_, _] rfl (by simp)
                    have hov : ∃ ov, c.ov = ov := ⟨_, rfl⟩
                    clear hS3'
                    have t2 : w3.cell? ⟨d, 32783, none⟩ = some c.ov := (dec_t hS3 2 _ rfl).1
                    have t5 : w3.cell? ⟨d, 32785, none⟩ = some (.int .i64 e) := (dec_t hS3 4 _ rfl).1
                    have HF := Lib.hid (Sat.drew hS3)
                    clear hS3
                    go_region
                    go_wp2
                    rw [Exit.noGoto_ret]
                    go_ret2
                    exact push_bad HA.out Hd.out He.out HA.out.2.2.2.1 HF.out ⟨_, rfl⟩
              · skip
                by_cases h2 : s.st = 2
                · have hst12 : s.st ≠ 12 := by omega
                  have hSp := Hp.out hst12
                  have HA2 : Hid (HAp lim n0 s0 s c [] s.bits) := ⟨HA.out.1, HA.out.2.1, HA.out.2.2.1, HA.out.2.2.2.1, fun _ => rfl, rfl, HA.out.2.2.2.2.2.2⟩
                  obtain ⟨gk0, Hg0⟩ : ∃ g, Hid (g = gk) := ⟨_, Lib.hid rfl⟩
                  have H2 := Lib.hid h2
                  rw [h2] at q1
                  clear hst hst12 h2 hI
                  go_wp2_with fail
                  go_loopg [] gk0 (fun g wr => ∃ s c, g ≤ gk0 ∧ muD s + 2 ≤ g ∧ Hid (s.st = 2) ∧ Hid (HAp lim n0 s0 s c [] s.bits) ∧ Sat wr (decs d lim n0 s c [] s.bits ++ Rs))
                  case atStart => exact ⟨s, c, Nat.le_refl _, by rw [Hg0.out]; exact Hg.out, H2, HA2, hSp⟩
                  case round =>
                   as_aux_lemma =>
                    obtain ⟨s, c, hgg, hmu, Hst0, HA, hS⟩ := hrel
                    have hd : dstep lim s = rawD lim s := by unfold dstep; rw [Hst0.out]; rfl
                    have hst12 : s.st ≠ 12 := by have := Hst0.out; omega
                    have Hst12 := Lib.hid hst12
                    have Hgk : Hid (gk ≤ gk0 ∧ muD s + 2 ≤ gk) := ⟨hgg, hmu⟩
                    have q0 : wr.cell? ⟨d, 0, none⟩ = some (.pointer (some ⟨c.r, 0, none⟩)) := (dec_h hS 0 _ rfl).1
                    have q3 : wr.cell? ⟨d, 3, none⟩ = some (.int .i64 s.left) := (dec_h hS 3 _ rfl).1
                    unfold rawD at hd
                    clear hgg hmu hst12 hSp HA2 H2
                    by_cases hl0 : s.left = 0
                    · rw [if_pos hl0] at hd
                      rw [hl0] at q3
                      unfold closeD at hd
                      clear hl0
                      cases hlast : s.last
                      · have hd2 : dstep lim s = .go { s with st := 0 } := by rw [hd]; exact congrArg DOut.go (if_neg (by rw [hlast]; decide))
                        have Hd := Lib.hid hd2
                        have Ht := Lib.hid (close_go hS rfl (by show some (Value.bool s.last) = _; rw [hlast]))
                        clear hd hd2 hlast hS
                        go_wp2_with (go_at_call 53; refine Ht.out.mono ?_; rintro e' w4 ⟨rfl, hS4⟩)
                        go_roundg (gk0 - 1)
                        case measure => have := Hg0.out; have := Hgk.out; omega
                        case rel => exact next_go HA.out Hd.out (by have := Hgk.out; omega) ⟨HA.out.2.2.2.1, c, HA.out.2.2.1, hS4⟩
                      · have hd2 : dstep lim s = .go { s with bits := s.bits.drop (s.bits.length % 8), st := 12 } := by rw [hd]; exact congrArg DOut.go (if_pos hlast)
                        have Hd := Lib.hid hd2
                        have Ht := Lib.hid (close_end hS rfl rfl (by show some (Value.bool s.last) = _; rw [hlast]))
                        clear hd hd2 hlast hS
                        go_wp2_with (go_at_call 53; refine Ht.out.mono ?_; rintro e' w4 ⟨rfl, hS4⟩)
                        go_roundg (gk0 - 1)
                        case measure => have := Hg0.out; have := Hgk.out; omega
                        case rel => exact next_go HA.out Hd.out (by have := Hgk.out; omega) ⟨HA.out.2.2.2.1, c, HA.out.2.2.1, hS4⟩
                    · rw [if_neg hl0] at hd
                      have hlI : decide (0 < s.left) = true := decide_eq_true (by omega)
                      obtain ⟨k, Hk⟩ : ∃ k, Hid (s.left = k + 1) := ⟨s.left - 1, by unfold Hid; omega⟩
                      have hkI : (k : Int) < 65536 := by have := HA.out.2.1.left; have := Hk.out; omega
                      rw [Hk.out] at q3
                      clear hl0
                      unfold takeD at hd
                      by_cases hl : s.bits.length < 8
                      · rw [if_pos hl] at hd
                        have Hd := Lib.hid hd
                        have Ht := Lib.hid (take_rd_short (Sat.perm (As := [_, _, _, _, _, _, _, _]) hS [1, 0, 2, 3, 4, 5, 6, 7] [_, _, _, _, _, _, _, _] rfl (by simp)) 8 (by omega) hl)
                        have HSp := Lib.hid (fun k => hS.drewN k)
                        clear hd hl hS
                        go_wp2_with (go_at_call 48; refine Ht.out.mono ?_; rintro e' w3 ⟨rfl, k3, rfl⟩)
                        have hS3 := HSp.out k3
                        generalize wr.drewN k3 = w3 at hS3 ⊢
                        have t2 : w3.cell? ⟨d, 32783, none⟩ = some c.ov := (dec_t hS3 2 _ rfl).1
                        have t5 : w3.cell? ⟨d, 32785, none⟩ = some (.int .i64 0) := (dec_t hS3 4 _ rfl).1
                        have HF := Lib.hid (Sat.drew hS3)
                        clear hS3
                        go_region
                        go_wp2
                        rw [Exit.noGoto_ret]
                        go_ret2
                        exact push_stop HA.out Hst12.out Hd.out HF.out
                      · rw [if_neg hl] at hd
                        dsimp only at hd
                        have ht := take_rd (Sat.perm (As := [_, _, _, _, _, _, _, _]) hS [1, 0, 2, 3, 4, 5, 6, 7] [_, _, _, _, _, _, _, _] rfl (by simp)) 8 (by omega) (by omega)
                        have hv8 := num_take_lt s.bits 8 8 (by omega)
                        generalize num (s.bits.take 8) = x at *
                        obtain ⟨cc, Hc⟩ : ∃ cc : UInt8, Hid (x = cc.toNat) := ⟨UInt8.ofNat x, by unfold Hid; rw [UInt8.toNat_ofNat']; omega⟩
                        have hxc := Hc.out
                        subst hxc
                        rw [UInt8.ofNat_toNat] at hd
                        have Ht := Lib.hid ht
                        have hwr : IntKind.u8.wrap (cc.toNat : Int) = (cc.toNat : Int) := by rw [IntKind.wrap_u8]; omega
                        have Hhist : Hid ((s.hist.length : Int) ≤ max 0 lim) := HA.out.2.1.hist
                        clear Hc ht hl hv8 hS
                        unfold tellD at hd
                        by_cases hlm : lim ≤ (s.hist.length : Int)
                        · rw [if_pos hlm] at hd
                          have Hd := Lib.hid hd
                          have Hlm := Lib.hid hlm
                          clear hd hlm
                          go_wp2_with (first | (go_at_call 48; refine Ht.out.mono ?_; rintro e' w3 ⟨rfl, hS3⟩; have ht := tell_no hS3.swap cc Hlm.out; unfold byteV at ht; have Ht4 := Lib.hid ht; clear ht hS3) | (go_at_call 52; refine Ht4.out.mono ?_; rintro e' w4 ⟨rfl, hS4⟩; have p4 : w4.cell? ⟨d, 32785, none⟩ = some (.int .i64 9) := (dec_t hS4 4 _ rfl).1))
                          have hS5 := Sat.perm (As := [_, _, _, _, _, _, _, _]) hS4 [0, 6] [_, _] rfl (by simp)
                          clear hS4
                          have t2 : w4.cell? ⟨d, 32783, none⟩ = some c.ov := (dec_t hS5 2 _ rfl).1
                          have t5 : w4.cell? ⟨d, 32785, none⟩ = some (.int .i64 9) := (dec_t hS5 4 _ rfl).1
                          have HF := Lib.hid (Sat.drew hS5)
                          clear hS5
                          go_region
                          go_wp2
                          rw [Exit.noGoto_ret]
                          go_ret2
                          exact push_bad HA.out Hd.out (by decide) HA.out.2.2.2.1 HF.out ⟨_, rfl⟩
                        · rw [if_neg hlm] at hd
                          have Hd := Lib.hid hd
                          have Hlm := Lib.hid hlm
                          have hout : (s.hist.drop n0).length ≤ s.hist.length := by rw [List.length_drop]; omega
                          have Hout := Lib.hid hout
                          clear hd hlm hout
                          go_wp2_with (first | (go_at_call 48; refine Ht.out.mono ?_; rintro e' w3 ⟨rfl, hS3⟩; have ht := tell_yes (Sat.perm (As := [_, _, _, _, _, _, _, _]) hS3 [1, 6, 0, 2, 3, 4, 5, 7] [_, _, _, _, _, _, _, _] rfl (by simp)) cc (by have := Hlm.out; omega) (by have := Hhist.out; omega) Hout.out; unfold byteV at ht; have Ht4 := Lib.hid ht; clear ht hS3) | (go_at_call 52; refine Ht4.out.mono ?_; rintro e' w4 ⟨rfl, ov', hS4⟩; have p4 : w4.cell? ⟨d, 32785, none⟩ = some (.int .i64 0) := (dec_t hS4 4 _ rfl).1; have p3 : w4.cell? ⟨d, 3, none⟩ = some (.int .i64 ((k + 1 : Nat) : Int)) := (by have := (dec_h hS4 3 _ rfl).1; rw [show (DS.left _) = k + 1 from Hk.out] at this; exact this); have f3 : w4.frozen? ⟨d, 3, none⟩ = false := (dec_h hS4 3 _ rfl).2; have H5 := Lib.hid (dec_set_h hS4 3 (by omega) (.int .i64 k)); clear hS4))
                          go_roundg (gk - 1)
                          case measure => have := Hgk.out; omega
                          case rel =>
                            have hG : goR d lim n0 { s with bits := s.bits.drop 8, hist := s.hist ++ [cc], left := s.left - 1 } Rs (w4.setCell ⟨d, 3, none⟩ (.int .i64 k)) := by
                              refine ⟨?_, { c with ov := ov', win := fun j => if j = s.hist.length % 32768 then byteV cc else c.win j }, win_tell HA.out.2.2.1 cc, ?_⟩
                              · rw [List.length_append]; have := HA.out.2.2.2.1; omega
                              · unfold decs
                                rw [List.length_append, List.length_singleton, List.drop_append_of_le_length HA.out.2.2.2.1, show s.left - 1 = k by have := Hk.out; omega]
                                exact Sat.perm (As := [_, _, _, _, _, _, _, _]) H5.out [0, 2, 3, 4, 5, 6, 1, 7] [_, _, _, _, _, _, _, _] rfl (by simp)
                            obtain ⟨hn', c', hw', hS'⟩ := hG
                            have hm := mu_step HA.out.2.1 Hd.out
                            exact ⟨{ s with bits := s.bits.drop 8, hist := s.hist ++ [cc], left := s.left - 1 }, c', by have := Hgk.out; omega, by have := Hgk.out; omega, Hst0, ⟨fun r hr => HA.out.1 r (.go Hd.out hr), HA.out.2.1.step Hd.out, hw', hn', fun _ => rfl, rfl, by have := HA.out.2.2.2.2.2.2; omega⟩, hS'⟩
                · skip
                  by_cases h12 : s.st = 12
                  · have h12 : s.st = 12 := by omega
                    have hd : dstep lim s = .stop := by unfold dstep; rw [h12]; rfl
                    have hal := hI.last h12
                    have hcb := HA.out.2.2.2.2.2.1
                    have hlen := congrArg List.length hcb
                    rw [List.length_append, bitsOf_length] at hlen
                    obtain ⟨bs, hbs⟩ := rd_bytes (Sat.front HS.out 1 _ rfl) (by omega)
                    subst hbs
                    rw [bitsOf_length] at hlen
                    have hmu := HA.out.2.2.2.2.2.2
                    have hbnd : rs.length + bs.length ≤ 140737488355327 := by
                      have h1 := HB.out
                      unfold muD at hmu
                      have := rankD_le s0.st
                      omega
                    have hSp := HS.out
                    have q17 : wr.cell? ⟨d, 32784, none⟩ = some c.rv := (dec_t hSp 3 _ rfl).1
                    have f17 : wr.frozen? ⟨d, 32784, none⟩ = false := (dec_t hSp 3 _ rfl).2
                    rw [h12] at q1
                    have Hd := Lib.hid hd
                    have H12 := Lib.hid h12
                    obtain ⟨i0, hi, hz0, hz1, hz2⟩ := info_parts Try.infoU8
                    clear hst hI hal hcb hlen hmu hd h12
                    obtain ⟨Fr, rao, rcap, hrv, -, -, -, -⟩ := hSp.at_ 7 _ rfl
                    rw [hrv] at q17
                    have Hrv := Lib.hid hrv
                    clear hrv
                    go_wp2_with fail
                    have HSf : Hid (∀ (w' : World) (R2 : List Res), Sat w' (decR d (headV s c) c.win (footV s.hist.length lim c.ov c.rv 0) :: R2) → w'.cell? ⟨d, 0, none⟩ = some (.pointer (some ⟨c.r, 0, none⟩)) ∧ w'.cell? ⟨d, 32784, none⟩ = some (.slice rao rs.length rcap)) := by
                      intro w' R2 h'
                      refine ⟨(dec_h h' 0 _ rfl).1, ?_⟩
                      have := (dec_t h' 3 _ rfl).1
                      rw [show (.some c.rv : Option Value) = some (.slice rao rs.length rcap) by rw [Hrv.out]] at this
                      exact this
                    have hSd : Sat wr.drew (decs d lim n0 s c rs (bitsOf bs) ++ Rs) := hSp.drew
                    clear hSp
                    refine wp_region_hz (z := 19) (S := fun w' => w'.cell? ⟨d, 0, none⟩ = some (.pointer (some ⟨c.r, 0, none⟩)) ∧ w'.cell? ⟨d, 32784, none⟩ = some (.slice rao rs.length rcap)) (by kernel_rfl) (HSf.out _ _ hSd) (fun hHeld => ?_)
                    refine wpHz_taken 0 218 ?v1 (by kernel_rfl) (by kernel_rfl) (by kernel_rfl) (by kernel_rfl) (by kernel_rfl) (fun _ _ _ h => h) (by rfl) ?hy1 (by assumption) ?rest1
                    case hy1 => intro w hSw; (try dsimp only at hSw); simp only [List.getElem?_toArray, List.getElem?_cons_zero, List.getElem?_cons_succ]; go_simp; (try with_reducible rfl)
                    try simp only [Act.put, List.setIfInBounds_toArray, List.set_cons_zero, List.set_cons_succ]
                    refine wpHz_taken 1 219 ?v2 (by kernel_rfl) (by kernel_rfl) (by kernel_rfl) (by kernel_rfl) (by kernel_rfl) (fun _ _ _ h => h) (by rfl) ?hy2 (by assumption) ?rest2
                    case hy2 => intro w hSw; (try dsimp only at hSw); simp only [List.getElem?_toArray, List.getElem?_cons_zero, List.getElem?_cons_succ]; go_simp; (try with_reducible rfl)
                    try simp only [Act.put, List.setIfInBounds_toArray, List.set_cons_zero, List.set_cons_succ]
                    refine wpHz_taken 2 220 ?v3 (by kernel_rfl) (by kernel_rfl) (by kernel_rfl) (by kernel_rfl) (by kernel_rfl) (fun _ _ _ h => h) (by rfl) ?hy3 (by assumption) ?rest3
                    case hy3 => intro w hSw; (try dsimp only at hSw); simp only [List.getElem?_toArray, List.getElem?_cons_zero, List.getElem?_cons_succ]; go_simp; (try with_reducible rfl)
                    try simp only [Act.put, List.setIfInBounds_toArray, List.set_cons_zero, List.set_cons_succ]
                    refine wpHz_taken 3 221 ?v4 (by kernel_rfl) (by kernel_rfl) (by kernel_rfl) (by kernel_rfl) (by kernel_rfl) (fun _ _ _ h => h) (by rfl) ?hy4 (by assumption) ?rest4
                    case hy4 => intro w hSw; (try dsimp only at hSw); simp only [List.getElem?_toArray, List.getElem?_cons_zero, List.getElem?_cons_succ]; go_simp; (try with_reducible rfl)
                    try simp only [Act.put, List.setIfInBounds_toArray, List.set_cons_zero, List.set_cons_succ]
                    refine wpHz_taken 4 222 ?v5 (by kernel_rfl) (by kernel_rfl) (by kernel_rfl) (by kernel_rfl) (by kernel_rfl) (fun _ _ _ h => h) (by rfl) ?hy5 (by assumption) ?rest5
                    case hy5 => intro w hSw; (try dsimp only at hSw); simp only [List.getElem?_toArray, List.getElem?_cons_zero, List.getElem?_cons_succ]; go_simp; (try with_reducible rfl)
                    try simp only [Act.put, List.setIfInBounds_toArray, List.set_cons_zero, List.set_cons_succ]
                    refine wpHz_taken 5 223 ?v6 (by kernel_rfl) (by kernel_rfl) (by kernel_rfl) (by kernel_rfl) (by kernel_rfl) (fun _ _ _ h => h) (by rfl) ?hy6 (by assumption) ?rest6
                    case hy6 => intro w hSw; (try dsimp only at hSw); simp only [List.getElem?_toArray, List.getElem?_cons_zero, List.getElem?_cons_succ]; go_simp; (try with_reducible rfl)
                    try simp only [Act.put, List.setIfInBounds_toArray, List.set_cons_zero, List.set_cons_succ]
                    refine wpHz_taken 6 224 ?v7 (by kernel_rfl) (by kernel_rfl) (by kernel_rfl) (by kernel_rfl) (by kernel_rfl) (fun _ _ _ h => h) (by rfl) ?hy7 (by assumption) ?rest7
                    case hy7 => intro w hSw; (try dsimp only at hSw); simp only [List.getElem?_toArray, List.getElem?_cons_zero, List.getElem?_cons_succ]; go_simp; (try with_reducible rfl)
                    try simp only [Act.put, List.setIfInBounds_toArray, List.set_cons_zero, List.set_cons_succ]
                    refine wpHz_taken 7 225 ?v8 (by kernel_rfl) (by kernel_rfl) (by kernel_rfl) (by kernel_rfl) (by kernel_rfl) (fun _ _ _ h => h) (by rfl) ?hy8 (by assumption) ?rest8
                    case hy8 => intro w hSw; (try dsimp only at hSw); simp only [List.getElem?_toArray, List.getElem?_cons_zero, List.getElem?_cons_succ]; go_simp; (try with_reducible rfl)
                    try simp only [Act.put, List.setIfInBounds_toArray, List.set_cons_zero, List.set_cons_succ]
                    refine wpHz_taken 8 226 ?v9 (by kernel_rfl) (by kernel_rfl) (by kernel_rfl) (by kernel_rfl) (by kernel_rfl) (fun _ _ _ h => h) (by rfl) ?hy9 (by assumption) ?rest9
                    case hy9 => intro w hSw; (try dsimp only at hSw); simp only [List.getElem?_toArray, List.getElem?_cons_zero, List.getElem?_cons_succ]; go_simp; (try with_reducible rfl)
                    try simp only [Act.put, List.setIfInBounds_toArray, List.set_cons_zero, List.set_cons_succ]
                    refine wpHz_taken 9 227 ?v10 (by kernel_rfl) (by kernel_rfl) (by kernel_rfl) (by kernel_rfl) (by kernel_rfl) (fun _ _ _ h => h) (by rfl) ?hy10 (by assumption) ?rest10
                    case hy10 => intro w hSw; (try dsimp only at hSw); simp only [List.getElem?_toArray, List.getElem?_cons_zero, List.getElem?_cons_succ]; go_simp; (try with_reducible rfl)
                    try simp only [Act.put, List.setIfInBounds_toArray, List.set_cons_zero, List.set_cons_succ]
                    refine wpHz_taken 10 228 ?v11 (by kernel_rfl) (by kernel_rfl) (by kernel_rfl) (by kernel_rfl) (by kernel_rfl) (fun _ _ _ h => h) (by rfl) ?hy11 (by assumption) ?rest11
                    case hy11 => intro w hSw; (try dsimp only at hSw); simp only [List.getElem?_toArray, List.getElem?_cons_zero, List.getElem?_cons_succ]; go_simp; (try with_reducible rfl)
                    try simp only [Act.put, List.setIfInBounds_toArray, List.set_cons_zero, List.set_cons_succ]
                    refine wpHz_taken 11 229 ?v12 (by kernel_rfl) (by kernel_rfl) (by kernel_rfl) (by kernel_rfl) (by kernel_rfl) (fun _ _ _ h => h) (by rfl) ?hy12 (by assumption) ?rest12
                    case hy12 => intro w hSw; (try dsimp only at hSw); simp only [List.getElem?_toArray, List.getElem?_cons_zero, List.getElem?_cons_succ]; go_simp; (try with_reducible rfl)
                    try simp only [Act.put, List.setIfInBounds_toArray, List.set_cons_zero, List.set_cons_succ]
                    refine wpHz_taken 12 230 ?v13 (by kernel_rfl) (by kernel_rfl) (by kernel_rfl) (by kernel_rfl) (by kernel_rfl) (fun _ _ _ h => h) (by rfl) ?hy13 (by assumption) ?rest13
                    case hy13 => intro w hSw; (try dsimp only at hSw); simp only [List.getElem?_toArray, List.getElem?_cons_zero, List.getElem?_cons_succ]; go_simp; (try with_reducible rfl)
                    try simp only [Act.put, List.setIfInBounds_toArray, List.set_cons_zero, List.set_cons_succ]
                    refine wpHz_one 13 (by kernel_rfl) (by rfl) (fun K hK => ?_)
                    simp only [List.getElem?_toArray, List.getElem?_cons_zero, List.getElem?_cons_succ]
                    obtain ⟨m8, Hm8⟩ : ∃ m8, Hid ((bitsOf bs).length = m8) := ⟨_, Lib.hid rfl⟩
                    have hhv := have_rd (Sat.perm (As := [_, _, _, _, _, _, _, _]) hSd [1, 0, 2, 3, 4, 5, 6, 7] [_, _, _, _, _, _, _, _] rfl (by simp))
                    rw [Hm8.out] at hhv
                    have Hhv := Lib.hid hhv
                    have hm8 : m8 = 8 * bs.length := by rw [← Hm8.out, bitsOf_length]
                    have hq1 : (m8 : Int) / 8 = (bs.length : Int) := by omega
                    have hq2 : Int.tdiv (m8 : Int) 8 = (bs.length : Int) := by rw [Int.tdiv_eq_ediv_of_nonneg (by omega)]; exact hq1
                    clear hhv hm8
                    go_wp2_with (go_at_call 50; refine Hhv.out.mono ?_; rintro e' w3 ⟨rfl, k3, rfl⟩)
                    have hSe := HS.out.drewN (1 + k3)
                    clear hHeld
                    refine hK.out _ _ (fun _ => (HSf.out _ _ hSe)) (fun hHeld => ?_)
                    replace hHeld := hHeld (by decide)
                    clear hK K
                    try simp only [Act.put, List.setIfInBounds_toArray, List.set_cons_zero, List.set_cons_succ]
                    generalize wr.drewN (1 + k3) = w3 at hSe hHeld ⊢
                    have HSe := Lib.hid hSe
                    have Hby := Lib.hid (bytes_rd (Sat.perm (As := [_, _, _, _, _, _, _, _]) hSe [1, 0, 2, 3, 4, 5, 6, 7] [_, _, _, _, _, _, _, _] rfl (by simp)) bs.length rfl)
                    clear hSe hSd Hhv
                    refine wpHz_one 14 (by kernel_rfl) (by rfl) (fun K hK => ?_)
                    simp only [List.getElem?_toArray, List.getElem?_cons_zero, List.getElem?_cons_succ]
                    go_simp
                    clear hHeld
                    refine hK.out _ _ (fun _ => (HSf.out _ _ HSe.out)) (fun hHeld => ?_)
                    replace hHeld := hHeld (by decide)
                    clear hK K
                    try simp only [Act.put, List.setIfInBounds_toArray, List.set_cons_zero, List.set_cons_succ]
                    refine wpHz_one 15 (by kernel_rfl) (by rfl) (fun K hK => ?_)
                    simp only [List.getElem?_toArray, List.getElem?_cons_zero, List.getElem?_cons_succ]
                    go_wp2_with (go_at_call 58; refine Hby.out.mono ?_; rintro e' w4 ⟨v4, rfl, hS4⟩)
                    clear hHeld
                    refine hK.out _ _ (fun _ => (HSf.out _ _ (Sat.front hS4 2 _ rfl))) (fun hHeld => ?_)
                    replace hHeld := hHeld (by decide)
                    clear hK K
                    try simp only [Act.put, List.setIfInBounds_toArray, List.set_cons_zero, List.set_cons_succ]
                    have hsrc := SlR.src (P := Try.prog) hS4.sl_read Try.underlying22 (byteV_one bs)
                    obtain ⟨F4, ao4, cap4, rfl, -, -, -, -⟩ := hS4.at_ 0 _ rfl
                    have hS5 := Sat.perm (As := [_, _, _, _, _, _, _, _, _]) hS4 [8, 1, 2, 3, 4, 5, 6, 7] [_, _, _, _, _, _, _, _] rfl (by simp)
                    rw [Hrv.out] at hS5
                    have Hsrc := Lib.hid hsrc
                    clear hsrc hS4 Hby
                    refine wpHz_one 16 (by kernel_rfl) (by rfl) (fun K hK => ?_)
                    simp only [List.getElem?_toArray, List.getElem?_cons_zero, List.getElem?_cons_succ]
                    refine wp_append_sat _ _ _ 22 22 rfl 5 i0 (.int .u8 0) 1 1 Try.underlying22 hi hz0 hz1 hz2 rfl (by decide) rs.length _ _ _ rfl hS5 bs.length _ _ rfl Hsrc.out (by unfold maxLen; omega) (by omega) ?_
                    intro v9 w9 hS9
                    obtain ⟨F9, ao9, cap9, rfl, -, -, -, -⟩ := hS9.at_ 0 _ rfl
                    have hS10 := Sat.perm (As := [_, _, _, _, _, _, _, _]) hS9 [2, 1, 3, 4, 5, 6, 7, 0] [_, _, _, _, _, _, _, _] rfl (by simp)
                    rw [← Hrv.out] at hS10
                    clear hHeld
                    refine hK.out _ _ (fun _ => (HSf.out _ _ hS10)) (fun hHeld => ?_)
                    replace hHeld := hHeld (by decide)
                    clear hK K
                    try simp only [Act.put, List.setIfInBounds_toArray, List.set_cons_zero, List.set_cons_succ]
                    have g17 : w9.cell? ⟨d, 32784, none⟩ = some c.rv := (dec_t hS10 3 _ rfl).1
                    have e17 : w9.frozen? ⟨d, 32784, none⟩ = false := (dec_t hS10 3 _ rfl).2
                    refine wpHz_one 17 (by kernel_rfl) (by rfl) (fun K hK => ?_)
                    simp only [List.getElem?_toArray, List.getElem?_cons_zero, List.getElem?_cons_succ]
                    go_simp
                    clear hHeld
                    refine hK.out _ _ (fun _ => (HSf.out _ _ hS10)) (fun hHeld => ?_)
                    replace hHeld := hHeld (by decide)
                    clear hK K
                    try simp only [Act.put, List.setIfInBounds_toArray, List.set_cons_zero, List.set_cons_succ]
                    refine wpHz_one 18 (by kernel_rfl) (by rfl) (fun K hK => ?_)
                    simp only [List.getElem?_toArray, List.getElem?_cons_zero, List.getElem?_cons_succ]
                    go_simp
                    clear hHeld
                    refine hK.out _ _ (fun _ => (HSf.out _ _ hS10)) (fun hHeld => ?_)
                    replace hHeld := hHeld (by decide)
                    clear hK K
                    try simp only [Act.put, List.setIfInBounds_toArray, List.set_cons_zero, List.set_cons_succ]
                    refine wpHz_one 19 (by kernel_rfl) (by rfl) (fun K hK => ?_)
                    simp only [List.getElem?_toArray, List.getElem?_cons_zero, List.getElem?_cons_succ]
                    go_simp
                    refine hK.out _ _ (fun h => absurd rfl h) (fun _ => ?_)
                    clear hK K
                    try simp only [Act.put, List.setIfInBounds_toArray, List.set_cons_zero, List.set_cons_succ]
                    refine wpHz_done (by kernel_rfl) ?_ _
                    have hS11 := dec_set_t hS10 3 (by omega) (.slice ao9 (rs.length + bs.length) cap9)
                    have t2 : (w9.setCell ⟨d, 32784, none⟩ (.slice ao9 (rs.length + bs.length) cap9)).cell? ⟨d, 32783, none⟩ = some c.ov := (dec_t hS11 2 _ rfl).1
                    have t5 : (w9.setCell ⟨d, 32784, none⟩ (.slice ao9 (rs.length + bs.length) cap9)).cell? ⟨d, 32785, none⟩ = some (.int .i64 0) := (dec_t hS11 4 _ rfl).1
                    have HF := Lib.hid (Sat.drew hS11)
                    generalize w9.setCell ⟨d, 32784, none⟩ (.slice ao9 (rs.length + bs.length) cap9) = w10 at t2 t5 HF ⊢
                    clear hS5 hS9 hS10 hS11 hHeld HSe
                    go_wp2_with fail
                    go_region
                    go_wp2
                    rw [Exit.noGoto_ret]
                    go_ret2
                    refine .inl ⟨s, { c with rv := .slice ao9 (rs.length + bs.length) cap9 }, rs ++ bs, [], Hd.out, ⟨⟨HA.out.1, HA.out.2.1, HA.out.2.2.1, HA.out.2.2.2.1, fun h => absurd H12.out h, ?_, HA.out.2.2.2.2.2.2⟩, ?_⟩, fun _ => rfl, rfl⟩
                    · rw [bitsOf_append, List.append_nil]; exact HA.out.2.2.2.2.2.1
                    · unfold decs
                      rw [List.length_append, List.map_append]
                      exact HF.out
                  · skip
                    exfalso; omega
    · obtain ⟨hist, e, hR, he, hn, h, win, ov, rv, hS, h1⟩ := hB
      have t4 : wr.cell? ⟨d, 32785, none⟩ = some (.int .i64 e) := (dec_t hS 4 _ rfl).1
      have t2 : wr.cell? ⟨d, 32783, none⟩ = some ov := (dec_t hS 2 _ rfl).1
      have hez : ((e : Int) == 0) = false := beq_eq_false_iff_ne.2 (by omega)
      have he0 : ¬ e = 0 := he
      have HF := Lib.hid (Sat.drew hS)
      clear hS he
      go_wp2_with fail
      go_region
      go_wp2
      rw [Exit.noGoto_ret]
      go_ret2
      exact .inr ⟨hist, e, h, win, ov, rv, hR, he0, hn, rfl, HF.out, h1⟩

end Go.Proofs.Ytdpocnkeokplpaa
