/- The fixed calls of layer 8's laws. -/
import Derived.Test.YtdpocnkeokplpaaZPush
import Derived.Test.YtdpocnkeokplpaaZPack
import Derived.Test.YtdpocnkeokplpaaQo
import Derived.Test.YtdpocnkeokplpaaQh
namespace Go.Proofs.Ytdpocnkeokplpaa
open Go.RowKit Go.Hal
set_option linter.unusedVariables false
set_option linter.unusedSimpArgs false

def looksB (lim : Int) (n : Nat) (ys hist rest : List UInt8) : Bool := match runN lim n (ds0.more (bitsOf ys)) with
  | some (.ok s) => s.hist == hist && s.st == 12 && s.bits == bitsOf rest
  | _ => false
theorem looksB_tells {lim : Int} {n : Nat} {ys hist rest : List UInt8} (h : looksB lim n ys hist rest = true) : ∃ Q, Tells lim ys Q ∧ Q.hist = hist ∧ Q.done = true ∧ RestOk Q rest := by
  unfold looksB at h
  split at h
  · rename_i s hq
    simp only [Bool.and_eq_true, beq_iff_eq] at h
    refine ⟨.ok s, runN_runs _ _ _ hq, h.1.1, beq_iff_eq.2 h.1.2, ?_⟩
    show if s.st = 12 then bitsOf rest = s.bits else rest = []
    rw [if_pos h.1.2, h.2]
  · cases h
theorem looksB_1 : looksB 1 20 [1, 1, 0, 254, 255, 7, 0, 8, 0, 8] [7] [0, 8, 0, 8] = true := by decide +kernel
def zfx : List UInt8 := [120, 1, 1, 1, 0, 254, 255, 7, 0, 8, 0, 8]
theorem zt_fx {s : ZS} (h : ZT 1 ([] ++ zfx) s) : s.e = 0 ∧ s.q.hist = [7] ∧ s.done = true := by
  obtain ⟨Q, h1, h2, h3, h4⟩ := looksB_tells looksB_1
  have hg : ZT 1 ([] ++ zfx) _ := ZT.good (a := 120) (c := 1) (b := [1, 1, 0, 254, 255, 7, 0, 8, 0, 8]) (q := Q) ⟨by decide, by decide, by decide, by decide⟩ h1 h3 h3 rfl h4 (by decide) (by rw [h2]; decide)
  obtain ⟨a1, a2, a3, -⟩ := zt_one h hg
  exact ⟨a1, a2.trans h2, a3⟩
theorem storeB_fx {out : List UInt8} (h : bitsOf out = storeB 1 1 [] [7]) : out = [1, 1, 0, 254, 255, 7] := by
  have e : storeB 1 1 [] [7] = bitsOf [1, 1, 0, 254, 255, 7] := by decide +kernel
  rw [e] at h
  exact bitsOf_inj _ _ h

set_option maxRecDepth 100000 in
set_option maxHeartbeats 4000000 in
theorem fixed8_true {w : World} {Rs : List Res} (hS : Sat w Rs) :
    Calls Try.prog 23 #[] w fun e w' => e = .returned (.bool true) ∧ Sat w' Rs := by
  have hA := hS.sl_made (e := 5) (size := 1) (n := 1) (cap := 1) (cur := #[.int .u8 7]) (xs := ([7] : List UInt8).map byteV) (by omega) (by decide) rfl (by simp) (fun j u hu => by simpa [byteV] using hu)
  have hp0 := pack0_any (K := 1) (b := [7]) hA (v := .slice (some ⟨w.heap.size, 0, none⟩) 1 1) (fun w' h => h.sl_read) (by decide) (by decide)
  have hp := zpack_any (how := 0) (P := fun out => out = [1, 1, 0, 254, 255, 7]) hA (v := .slice (some ⟨w.heap.size, 0, none⟩) 1 1) (b := [7]) (fun w' h => h.sl_read) (by decide) (by decide) (hp0.mono (by
    rintro e' w' ⟨ov, out, rfl, h1, h2⟩
    obtain rfl := storeB_fx h1
    exact ⟨ov, _, rfl, ⟨rfl, by decide⟩, h2⟩))
  rw [show ((0 : Nat) : Int) = 0 from rfl] at hp
  have Hp := Lib.hid hp
  clear hS hA hp0 hp
  go_enter Try.func23, Try.ntmps23
  go_wp2_with (first
    | (go_at_call 24; (with_reducible refine Hp.out.mono ?_); rintro e' w1 ⟨ov, out, rfl, hout, hS1⟩; subst hout; have hS1 : Sat w1 (sl 5 1 12 ov (zfx.map byteV) :: _) := hS1; obtain ⟨_, oo, oap, rfl, -, -, -, -⟩ := hS1.at_ 0 _ rfl; have Hn := Lib.hid (zNew_any hS1 1); clear hS1 Hp)
    | (go_at_call 60; (with_reducible refine Hn.out.mono ?_); rintro e' w2 ⟨z, rfl, hS2⟩; have Hq := Lib.hid (zPush_any (b := zfx) (v := .slice oo 12 oap) (by decide) (zt_nil 1) (by decide) hS2 (fun w' h => h.sl_read)); clear hS2 Hn)
    | (go_at_call 29; (with_reducible refine Hq.out.mono ?_); rintro e' w3 ⟨s2, nw, ov2, hT, hh, rfl, hS3⟩; obtain ⟨a1, a2, a3⟩ := zt_fx hT; rw [a2] at hh; have hnw : nw = [7] := hh.symm; subst hnw; rw [a1]; obtain ⟨_, oo2, oap2, hov2, -, -, -, -⟩ := hS3.at_ 0 _ rfl; subst hov2; have hA3 := hS3.sl_made (e := 5) (size := 1) (n := 12) (cap := 12) (cur := #[.int .u8 120, .int .u8 1, .int .u8 1, .int .u8 1, .int .u8 0, .int .u8 254, .int .u8 255, .int .u8 7, .int .u8 0, .int .u8 8, .int .u8 0, .int .u8 8]) (xs := zfx.map byteV) (by omega) (by decide) rfl (by simp) (fun j u hu => by simpa [byteV, zfx] using hu); have hc1 : (convert 22 9 (.slice oo2 1 oap2)).run Try.prog (w3.alloc (.cells #[.int .u8 120, .int .u8 1, .int .u8 1, .int .u8 1, .int .u8 0, .int .u8 254, .int .u8 255, .int .u8 7, .int .u8 0, .int .u8 8, .int .u8 0, .int .u8 8] 5)) = .ok (.string ⟨#[7]⟩) (w3.alloc (.cells #[.int .u8 120, .int .u8 1, .int .u8 1, .int .u8 1, .int .u8 0, .int .u8 254, .int .u8 255, .int .u8 7, .int .u8 0, .int .u8 8, .int .u8 0, .int .u8 8] 5)) := conv_bytes (xs := [7]) (Sat.front hA3 1 _ rfl).sl_read; have hsm := same_d (xs := zfx) (ys := zfx) (Sat.front hA3 3 _ rfl).sl_read hA3.sl_read; rw [show (zfx == zfx) = true from by decide] at hsm; have Hsm := Lib.hid hsm; have hdn := zDone_any (Sat.front hA3 2 _ rfl); rw [a3] at hdn; have Hdn := Lib.hid hdn; have HS4 := Lib.hid hA3; clear hA3 hsm hdn hS3 Hq hT a1 a2 a3 hh)
    | (go_at_call 16; (with_reducible refine Hsm.out.mono ?_); rintro e' w5 ⟨rfl, rfl⟩; clear Hsm)
    | (go_at_call 26; (with_reducible refine Hdn.out.mono ?_); rintro e' w6 ⟨rfl, rfl⟩; clear Hdn))
  go_ret
  exact ⟨rfl, Sat.perm (As := [_, _, _, _, _]) (Bs := []) HS4.out [] rfl (by simp)⟩

end Go.Proofs.Ytdpocnkeokplpaa
