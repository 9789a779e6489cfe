/- The document's zlib against the decoder's states; the law ZlibHead. -/
import Derived.Test.YtdpocnkeokplpaaGreatZRefB
import Derived.Test.YtdpocnkeokplpaaGreatZAll
namespace Go.Proofs.YtdpocnkeokplpaaGreat
open Go.RowKit Go.Hal
set_option linter.unusedVariables false
set_option linter.unusedSimpArgs false

/-- The decoder and the document end alike. -/
theorem final_z {lim : Int} {ys : List UInt8} {q : DRes} {rr : RunS} (h : Tells lim ys q) (hf : FinalR lim (ds0.more (bitsOf ys)) rr) :
    rr.out = q.hist ∧ rr.done = q.done ∧ clearE rr.e = q.err ∧ (rr.done = true → ∀ rs, RestOk q rs → bitsOf rs = rr.bits.drop (rr.bits.length % 8)) := by
  rcases hf with ⟨h1, h2, s, h3, h4, h5, h6⟩ | ⟨h1, h2, s, h3, h4, h5⟩ | ⟨h1, h2, h3, h4⟩
  · have hq := runs_one h h3
    subst hq
    refine ⟨h5.symm, ?_, ?_, fun _ rs hr => ?_⟩
    · rw [h1]
      exact (beq_iff_eq.2 h4 : (s.st == 12) = true).symm
    · rw [h2]; rfl
    · have hr : if s.st = 12 then bitsOf rs = s.bits else rs = [] := hr
      rw [if_pos h4] at hr
      rw [hr, h6]
  · have hq := runs_one h h3
    subst hq
    refine ⟨h5.symm, ?_, ?_, fun hd => ?_⟩
    · rw [h1]
      exact (beq_eq_false_iff_ne.2 h4 : (s.st == 12) = false).symm
    · rw [h2]; rfl
    · rw [h1] at hd; cases hd
  · have hq := runs_one h h4
    subst hq
    refine ⟨rfl, h1, ?_, fun hd => ?_⟩
    · unfold clearE
      rw [if_neg h3]; rfl
    · rw [h1] at hd; cases hd
def Alike (s : ZS) (out rest : List UInt8) (e : Nat) (dn : Bool) : Prop := s.q.hist = out ∧ clearE e = s.e ∧ s.done = dn ∧ s.rest = rest
theorem zrf_zt {lim : Int} {a c : UInt8} {b out rest : List UInt8} {e : Nat} {dn : Bool} {s : ZS} (h : ZRf lim b out rest e dn) (hok : HeadOk a c) (hz : ZT lim (a :: c :: b) s) : Alike s out rest e dn := by
  cases hz with
  | short h1 => exact (no2 h1).elim
  | form h1 => exact absurd hok h1
  | @on _ _ _ Q h1 hT hd =>
    have key : ∀ rr, FinalR lim (ds0.more (bitsOf b)) rr → rr.done = true → False := fun rr hF hr => by
      have := (final_z hT hF).2.1
      rw [hr, hd] at this
      cases this
    cases h with
    | run hF hr =>
      obtain ⟨f1, f2, f3, -⟩ := final_z hT hF
      exact ⟨f1.symm, f3, rfl, rfl⟩
    | few hF hr => exact (key _ hF hr).elim
    | bad hF hr => exact (key _ hF hr).elim
    | good hF hr => exact (key _ hF hr).elim
  | @foot _ _ _ rs Q q h1 hT hd hq hh hr hl =>
    cases h with
    | run hF hr => have := (final_z hT hF).2.1; rw [hr, hd] at this; cases this
    | few hF hr2 hb h4 =>
      obtain ⟨f1, f2, f3, f4⟩ := final_z hT hF
      exact ⟨hh.trans f1.symm, rfl, rfl, rfl⟩
    | bad hF hr2 hb h4 =>
      obtain ⟨f1, f2, f3, f4⟩ := final_z hT hF
      have := bitsOf_inj _ _ ((f4 hr2 rs hr).trans hb.symm)
      subst this
      omega
    | good hF hr2 hb h4 =>
      obtain ⟨f1, f2, f3, f4⟩ := final_z hT hF
      have := bitsOf_inj _ _ ((f4 hr2 rs hr).trans hb.symm)
      subst this
      omega
  | @good _ _ _ rs Q q h1 hT hd hq hh hr hl hs =>
    cases h with
    | run hF hr => have := (final_z hT hF).2.1; rw [hr, hd] at this; cases this
    | few hF hr2 hb h4 =>
      obtain ⟨f1, f2, f3, f4⟩ := final_z hT hF
      have := bitsOf_inj _ _ ((f4 hr2 rs hr).trans hb.symm)
      subst this
      omega
    | bad hF hr2 hb h4 hne =>
      obtain ⟨f1, f2, f3, f4⟩ := final_z hT hF
      have := bitsOf_inj _ _ ((f4 hr2 rs hr).trans hb.symm)
      subst this
      rw [f1] at hne
      exact absurd hs hne
    | good hF hr2 hb h4 hs2 =>
      obtain ⟨f1, f2, f3, f4⟩ := final_z hT hF
      have := bitsOf_inj _ _ ((f4 hr2 rs hr).trans hb.symm)
      subst this
      exact ⟨hh.trans f1.symm, by rw [f3]; exact done_err hd, rfl, rfl⟩
  | @sum _ _ _ rs Q q h1 hT hd hq hh hr hl hs =>
    cases h with
    | run hF hr => have := (final_z hT hF).2.1; rw [hr, hd] at this; cases this
    | few hF hr2 hb h4 =>
      obtain ⟨f1, f2, f3, f4⟩ := final_z hT hF
      have := bitsOf_inj _ _ ((f4 hr2 rs hr).trans hb.symm)
      subst this
      omega
    | bad hF hr2 hb h4 hne =>
      obtain ⟨f1, f2, f3, f4⟩ := final_z hT hF
      exact ⟨hh.trans f1.symm, rfl, rfl, rfl⟩
    | good hF hr2 hb h4 hs2 =>
      obtain ⟨f1, f2, f3, f4⟩ := final_z hT hF
      have := bitsOf_inj _ _ ((f4 hr2 rs hr).trans hb.symm)
      subst this
      rw [f1] at hs2
      exact absurd hs2 hs
def Z8P (lim : Int) (ys : List UInt8) (Rs : List Res) (e' : Ending) (w' : World) : Prop := ∃ out rest e dn ov rv X, (∀ s, ZT lim ys s → Alike s out rest e dn) ∧ e' = .returned (.agg #[ov, rv, .int .i64 (e : Nat), .bool dn]) ∧ (∀ w2, Sat w2 (X :: Rs) → SlR w2 5 1 rest.length rv (rest.map byteV)) ∧ Sat w' (sl 5 1 out.length ov (out.map byteV) :: X :: Rs)
theorem ref8_any {w : World} {lim : Int} {Rs : List Res} (hS : Sat w Rs) (hlim : lim ≤ 65535) {v : Value} {ys : List UInt8} (hv : ∀ w', Sat w' Rs → SlR w' 5 1 ys.length v (ys.map byteV)) (hl : ys.length ≤ 1048576) :
    Calls Tryz.prog 8 #[v, .int .i64 lim] w (Z8P lim ys Rs) := by
  by_cases h2 : ys.length < 2
  · refine (ref8_short hS hv h2).mono ?_
    rintro e' w' ⟨rfl, h⟩
    refine ⟨[], [], 2, false, .slice none 0 0, .slice none 0 0, sl 5 1 0 (.slice none 0 0) [], fun s hz => ?_, rfl, fun w2 h => h.sl_read, (h.sl_nil 5 1 none).sl_nil 5 1 none⟩
    cases hz with
    | short => exact ⟨rfl, rfl, rfl, rfl⟩
    | _ => exact (no2 h2).elim
  · match ys, hv, hl, h2 with
    | [], _, _, h2 => exact absurd (by simp) h2
    | [_], _, _, h2 => exact absurd (by simp) h2
    | a :: c :: b, hv, hl, h2 =>
      by_cases hok : HeadOk a c
      · refine (ref8_on hS hlim hv (by rw [List.length_cons, List.length_cons] at hl; omega) hok).mono ?_
        rintro e' w' ⟨out, rest, e, dn, ov, rv, X, hz, rfl, hr, h⟩
        exact ⟨out, rest, e, dn, ov, rv, X, fun s h => zrf_zt hz hok h, rfl, hr, h⟩
      · refine (ref8_form hS hv hok).mono ?_
        rintro e' w' ⟨rfl, h⟩
        refine ⟨[], [], 3, false, .slice none 0 0, .slice none 0 0, sl 5 1 0 (.slice none 0 0) [], fun s hz => ?_, rfl, fun w2 h => h.sl_read, (h.sl_nil 5 1 none).sl_nil 5 1 none⟩
        cases hz with
        | short h => exact (no2 h).elim
        | form => exact ⟨rfl, rfl, rfl, rfl⟩
        | _ => contradiction
theorem clear8_any (w : World) (e : Nat) : Calls Tryz.prog 9 #[.int .i64 (e : Nat)] w fun e' w' => e' = .returned (.int .i64 (clearE e : Nat)) ∧ w' = w := by
  by_cases h : e = 2
  · subst h
    go_enter Tryz.func9, Tryz.ntmps9
    go_wp2
    go_ret
    exact ⟨rfl, rfl⟩
  · have d1 : ((e : Int) == 2) = false := beq_eq_false_iff_ne.2 (by omega)
    have d2 : (e == 2) = false := beq_eq_false_iff_ne.2 h
    have hc : Hid (clearE e = e) := by unfold Hid clearE; rw [if_neg h]
    clear h
    go_enter Tryz.func9, Tryz.ntmps9
    go_wp2
    go_ret
    exact ⟨by rw [hc.out]; rfl, rfl⟩

set_option maxRecDepth 100000 in
set_option maxHeartbeats 4000000 in
theorem zlibHead_true {w : World} {Rs : List Res} (hS : Sat w Rs) (A C : Nat) (hA : A < 256) (hC : C < 256) (u : Value) (b : List UInt8) (hu : ∀ w', Sat w' Rs → SlR w' 5 1 b.length u (b.map byteV)) :
    Calls Tryz.prog 3 #[.int .u8 A, .int .u8 C, u] w fun e w' => e = .returned (.bool true) ∧ Sat w' Rs := by
  have hfix := fixed8_true hS
  obtain ⟨ao, cap, rfl, -, -, -, -⟩ := hu w hS
  have Hu := Lib.hid hu
  obtain ⟨i0, hi, hz0, hz1, hz2⟩ := info_parts Tryz.infoU8
  obtain ⟨a, ha⟩ : ∃ a : UInt8, Hid (a.toNat = A) := ⟨UInt8.ofNat A, by unfold Hid; rw [UInt8.toNat_ofNat']; omega⟩
  obtain ⟨c, hc⟩ : ∃ c : UInt8, Hid (c.toNat = C) := ⟨UInt8.ofNat C, by unfold Hid; rw [UInt8.toNat_ofNat']; omega⟩
  clear hS hu
  by_cases hbig : 300 < b.length
  · have hd : decide (300 < b.length) = true := decide_eq_true hbig
    go_enter Tryz.func3, Tryz.ntmps3
    go_wp2_with (go_at_call 6; refine hfix.mono ?_; rintro e w1 ⟨rfl, hS1⟩)
    go_ret
    exact ⟨rfl, hS1⟩
  · have hd : decide (300 < b.length) = false := decide_eq_false hbig
    have hmade : ∀ w1 Rs', Sat w1 Rs' → Sat (w1.alloc (.cells #[.int .u8 A, .int .u8 C] 5)) (sl 5 1 2 (.slice (some ⟨w1.heap.size, 0, none⟩) 2 2) ([a, c].map byteV) :: Rs') := by
      intro w1 Rs' h
      refine h.sl_made (e := 5) (size := 1) (n := 2) (cap := 2) (cur := #[.int .u8 A, .int .u8 C]) (by omega) (by decide) rfl (by simp) (fun j u hu => ?_)
      unfold byteV at hu
      rw [← ha.out, ← hc.out]
      simpa using hu
    have hall : ∀ w1 v, Sat w1 (sl 5 1 (2 + b.length) v (([a, c] ++ b).map byteV) :: Rs) → ∀ n m : Int, n = 400 → m = 3000 → Calls Tryz.prog 7 #[v, .int .i64 n, .int .i64 m] w1 (ZAllP 3000 ([a, c] ++ b) (sl 5 1 (2 + b.length) v (([a, c] ++ b).map byteV) :: Rs)) := by
      rintro w1 v h n m rfl rfl
      have hl : ([a, c] ++ b).length = 2 + b.length := by rw [List.length_append]; rfl
      exact zall_any (N := 400) (by omega) h (fun w' h' => by rw [hl]; exact h'.sl_read) (by rw [hl]; omega) (by omega) (by omega)
    have hof : ∀ w1 v Rs', Sat w1 (sl 5 1 (2 + b.length) v (([a, c] ++ b).map byteV) :: Rs') → ∀ m : Int, m = 3000 → Calls Tryz.prog 8 #[v, .int .i64 m] w1 (Z8P 3000 ([a, c] ++ b) (sl 5 1 (2 + b.length) v (([a, c] ++ b).map byteV) :: Rs')) := by
      rintro w1 v Rs' h m rfl
      have hl : ([a, c] ++ b).length = 2 + b.length := by rw [List.length_append]; rfl
      exact ref8_any h (by omega) (fun w' h' => by rw [hl]; exact h'.sl_read) (by rw [hl]; omega)
    have Hmade := Lib.hid hmade
    have Hall := Lib.hid hall
    have Hof := Lib.hid hof
    clear hmade hall hof
    go_enter Tryz.func3, Tryz.ntmps3
    go_wp2_with (first
      | (go_at_call 6; refine hfix.mono ?_; rintro e w1 ⟨rfl, hS1⟩; have HA := Lib.hid (Hmade.out _ _ hS1); have Hsrc := Lib.hid (SlR.src (P := Tryz.prog) (Hu.out _ HA.out.tail) Tryz.underlying22 (byteV_one b)); clear hfix hS1)
      | (at_builtin; refine wpList_append_sat _ rfl _ _ 22 22 rfl 5 i0 (.int .u8 0) 1 1 Tryz.underlying22 hi hz0 hz1 hz2 rfl (by decide) 2 _ _ _ rfl HA.out b.length _ _ rfl Hsrc.out (by unfold maxLen; omega) (by omega) ?_; intro v9 w9 hS9; rw [← List.map_append] at hS9; obtain ⟨_, ao9, cap9, rfl, -, -, -, -⟩ := hS9.at_ 0 _ rfl; have HL := Lib.hid (Hall.out _ _ hS9); clear HA Hsrc Hall hS9)
      | (go_at_call 7; refine (HL.out _ _ (by omega) (by omega)).mono ?_; rintro e w2 ⟨s, ov, z, hT, rfl, hS2⟩; obtain ⟨_, oo, oap, rfl, -, -, -, -⟩ := hS2.at_ 0 _ rfl; have HT := Lib.hid hT; have HB := Lib.hid (Hmade.out _ _ hS2); have Hsrc := Lib.hid (SlR.src (P := Tryz.prog) (Hu.out _ HB.out.tail.tail.tail.tail) Tryz.underlying22 (byteV_one b)); clear HL hT hS2)
      | (at_builtin; refine wpList_append_sat _ rfl _ _ 22 22 rfl 5 i0 (.int .u8 0) 1 1 Tryz.underlying22 hi hz0 hz1 hz2 rfl (by decide) 2 _ _ _ rfl HB.out b.length _ _ rfl Hsrc.out (by unfold maxLen; omega) (by omega) ?_; intro v9 w9 hS9; rw [← List.map_append] at hS9; obtain ⟨_, ao8, cap8, rfl, -, -, -, -⟩ := hS9.at_ 0 _ rfl; have HO := Lib.hid (Hof.out _ _ _ hS9); clear HB Hsrc Hof hS9)
      | (go_at_call 8; refine (HO.out _ (by omega)).mono ?_; rintro e w3 ⟨out, rest, e8, dn, ov8, rv8, X, hal, rfl, hrd, hS3⟩; obtain ⟨ro8, rap8, rfl, -, -, -, -⟩ := hrd _ hS3.tail; clear hrd; obtain ⟨_, oo8, oap8, rfl, -, -, -, -⟩ := hS3.at_ 0 _ rfl; have Hcl := clear8_any; have hce := (hal s HT.out).2.1; have HS3 := Lib.hid hS3; clear HO hal hS3; have HcE := Lib.hid hce; clear hce)
      | (go_at_call 9; refine (clear8_any _ _).mono ?_; rintro e w4 ⟨rfl, rfl⟩; rw [HcE.out]))
    go_ret
    refine ⟨by simp, ?_⟩
    exact Sat.perm (As := [_, _, _, _, _, _]) (Bs := []) (HS3.out.alloc_drop _) [] rfl (by simp)

end Go.Proofs.YtdpocnkeokplpaaGreat
