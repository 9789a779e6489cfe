/- A range over a function, as a law of owned memory; a region in a round. -/
import Derived.Test.YtobkmkdnkdbgeaaSat
import Derived.RangeFuncWrites
import Derived.RangeFuncCalls
import Derived.RangeFuncLeaves
import Derived.Shelf.Abstract
import Derived.OwnWalkIn
import Derived.TacticsInMore
import Derived.LoopNIn
import Derived.LoopIn
import Derived.OrdersHeld
import Derived.OrdersIn
import Derived.Deep.RegionHeld
namespace Go.Hal
open Go.RowKit
set_option linter.unusedVariables false
variable {P : Program}

theorem Sat.putObj {w : World} {b : Nat} {o o' : Obj} {Rs : List Res} (hS : Sat w (blk b o :: Rs)) : Sat (w.putObj b o') (blk b o' :: Rs) := by
  refine hS.upd (fun F hF => ⟨⟨rfl, rfl, rfl, by simp, fun k hk hn => ?_⟩, fun F' h1 _ => ⟨h1 _ hF.1, ?_⟩⟩)
  · exact World.putObj_heap_other (by rintro rfl; exact hn hF.1)
  · exact World.putObj_heap_same (Array.getElem?_eq_some_iff.1 hF.2).1

/-- A function that is ranged over: it hands over xs, one by one; It is its own memory. -/
def SeqSat {α : Type} (P : Program) (gf : Nat) (lb : Array Value) (encs : α → Array Value) (xs : List α) (It : Res) : Prop :=
  ∀ (l : Nat) (J : List α → List Res) (Jx : List α → World → Prop) (w : World),
    (∀ pre x, (pre ++ [x]) <+: xs → ∀ W, Sat W (It :: J pre) → YieldAt Fence.wide 0 P l (encs x) W fun e W' =>
      (e = .returned (.bool true) ∧ Sat W' (It :: J (pre ++ [x]))) ∨ (e = .returned (.bool false) ∧ Jx (pre ++ [x]) W')) →
    Sat w (It :: J []) →
    CallsIn Fence.wide 0 P gf (#[.func (.yield l) #[] #[]] ++ lb) w fun e w' => (∃ v, e = .returned v) ∧ (Sat w' (It :: J xs) ∨ ∃ pre, pre <+: xs ∧ Jx pre w')

/-- The mark of a loop over a function. -/
def loopMark (D : Nat) : Deferred := { target := .collected D, args := #[] }
/-- The blocks of such marks. -/
def marks (ds : List Nat) : List Res := ds.map fun D => blk D (.deferred (some []))

/-- How a round's body may be left. -/
def satPost {α : Type} (J : List α → Res) (Jx : Code → List α → Res) (xs : List α) (Rs : List Res) : Exit → Act → World → Prop
  | .normal, _, W => Sat W (J xs :: Rs)
  | .ret, _, W => Sat W (Jx .ret xs :: Rs)
  | .exit id, _, W => Sat W (Jx (.exit id) xs :: Rs)
  | .goto t, _, W => Sat W (Jx (.goto t) xs :: Rs)
  | .panic _, _, _ => False
  | .outgrown, _, _ => False

theorem wp_rangeFunc_sat {α : Type} {g : Operand} {ps : Array Tmp} {assign body : Code} {Q : Exit → Act → World → Prop} {a : Act} {w : World}
    {gf : Nat} {lb : Array Value} (hg : a.eval g = .func (.func gf) #[] lb) (eg : ∀ args w, (callFunc gf args).run P w = .ok (.enter gf args) w)
    {encs : α → Array Value} {xs : List α} {It : Res} (hseq : SeqSat P gf lb encs xs It) (hps : ∀ x, (encs x).size = ps.size)
    (J : List α → Res) (Jx : Code → List α → Res) (hS : Sat w [It, J []]) (a₁ : α → Act)
    (hassign : ∀ (l : Nat) (x : α) (W : World) (K : Act → World → Prop), K (a₁ x) W →
      assign.wpIn (Fence.wide.inRound l) 0 P (Exit.then K (fun _ _ _ => False)) { tmps := (ps.zip (encs x)).foldl (fun t (p, v) => t.setIfInBounds p v) a.tmps, defers := [] } W)
    (hbody : ∀ (l : Nat) (pre : List α) (x : α), (pre ++ [x]) <+: xs → ∀ (W : World) (Rs : List Res), Sat W (J pre :: Rs) → body.wpIn (Fence.wide.inRound l) 0 P (satPost J Jx (pre ++ [x]) Rs) (a₁ x) W)
    (hdone : ∀ (D : Nat) (W : World), Sat W [blk D (.deferred (some [])), It, J xs] → Q .normal { a with defers := loopMark D :: a.defers } W)
    (hstop : ∀ (D : Nat) (c : Code) (pre : List α) (W : World), pre <+: xs → Sat W [blk D (.deferred (some [])), It, Jx c pre] → c.wp P Q { a with defers := loopMark D :: a.defers } W) :
    (Code.rangeFunc g ps assign body).wp P Q a w := by
  refine (wpIn_wide (n := 0)).1 (wpIn_rangeFunc ?_)
  intro fn hfn
  obtain ⟨rec, hrec⟩ : ∃ rec : LoopState → Option Code → Loop, rec = fun st pe => { state := st, pending := pe, fn, tmps := a.tmps, params := ps, assign, body, defers := w.heap.size } := ⟨_, rfl⟩
  obtain ⟨W1, hW1⟩ : ∃ W1, (w.alloc (.deferred (some []))).alloc (.loop (rec .ready none)) = W1 := ⟨_, rfl⟩
  have hS1 : Sat W1 [It, J [], blk (w.heap.size + 1) (.loop (rec .ready none)), blk w.heap.size (.deferred (some []))] := by
    rw [← hW1]
    have := (hS.alloc (.deferred (some []))).alloc (.loop (rec .ready none))
    rw [World.size_alloc] at this
    exact this.pick [2, 3, 0, 1] _ rfl (by simp)
  refine ⟨w.heap.size + 1, [{ target := .collected w.heap.size, args := #[] }], W1, { target := .fn (.func gf) lb, args := #[.func (.yield (w.heap.size + 1)) #[] #[]] }, W1, gf,
    #[.func (.yield (w.heap.size + 1)) #[] #[]] ++ lb, W1, ?_, ?_, ?_, ?_, (fun h => by simp [Fence.wide] at h), ?_⟩
  · rw [← hW1, hrec]; exact run_enterLoop_outer _ _ _ _ _
  · simp only [resolve, hg]
    simp [go_sem]
  · intro f' hf'; trivial
  · simp [invoke, go_sem, eg]
  · refine (hseq (w.heap.size + 1)
      (fun pre => [J pre, blk (w.heap.size + 1) (.loop (rec .ready none)), blk w.heap.size (.deferred (some []))])
      (fun pre W => ∃ c, Sat W [It, Jx c pre, blk (w.heap.size + 1) (.loop (rec .done (some c))), blk w.heap.size (.deferred (some []))])
      W1 ?_ hS1).mono ?_
    · intro pre x hpre W hW
      have hl : W.heap[w.heap.size + 1]? = some (.loop (rec .ready none)) := (hW.at_ 2 _ rfl).choose_spec.2
      have hy := run_yield (P := P) (args := encs x) hl (by rw [hrec]; exact hps x)
      rw [hrec] at hy
      refine ⟨fn, _, assign, body, hy, roundIn_of_wpIn hfn (hassign _ x W _ ⟨_, run_beginRound hl (by rw [hrec]), ?_⟩)⟩
      have hW2 : Sat (W.putObj (w.heap.size + 1) (.loop { rec .ready none with state := .busy })) (J pre :: [It, blk (w.heap.size + 1) (.loop { rec .ready none with state := .busy }), blk w.heap.size (.deferred (some []))]) :=
        (Sat.putObj (o' := .loop { rec .ready none with state := .busy }) (hW.pick [2, 0, 1, 3] [_, _, _, _] rfl (by simp))).pick [2, 1, 0, 3] _ rfl (by simp)
      refine wpIn_mono (hbody _ pre x hpre _ _ hW2) ?_
      have fin : ∀ (R : Res) (jump : Option Code) (W3 : World), Sat W3 [R, It, blk (w.heap.size + 1) (.loop { rec .ready none with state := .busy }), blk w.heap.size (.deferred (some []))] →
          (Instr.endRound (w.heap.size + 1) jump).run P W3 = .ok (.bool jump.isNone) (W3.putObj (w.heap.size + 1) (.loop (rec (if jump.isNone then .ready else .done) jump))) ∧
          Sat (W3.putObj (w.heap.size + 1) (.loop (rec (if jump.isNone then .ready else .done) jump))) [It, R, blk (w.heap.size + 1) (.loop (rec (if jump.isNone then .ready else .done) jump)), blk w.heap.size (.deferred (some []))] := fun R jump W3 hk3 => by
        have hl3 : W3.heap[w.heap.size + 1]? = some (.loop { rec .ready none with state := .busy }) := (hk3.at_ 2 _ rfl).choose_spec.2
        have := run_endRound (P := P) jump hl3
        rw [hrec] at this hk3 ⊢
        refine ⟨this, ?_⟩
        exact (Sat.putObj (hk3.pick [2, 0, 1, 3] [_, _, _, _] rfl (by simp))).pick [2, 1, 0, 3] _ rfl (by simp)
      rintro e a3 W3 hp
      cases e with
      | normal =>
        obtain ⟨hr, hs⟩ := fin _ none W3 hp
        exact ⟨_, _, hr, .inl ⟨rfl, hs⟩⟩
      | ret =>
        obtain ⟨hr, hs⟩ := fin _ (some .ret) W3 hp
        exact ⟨_, _, hr, .inr ⟨rfl, .ret, hs⟩⟩
      | exit id =>
        obtain ⟨hr, hs⟩ := fin _ (some (.exit id)) W3 hp
        exact ⟨_, _, hr, .inr ⟨rfl, .exit id, hs⟩⟩
      | goto t =>
        obtain ⟨hr, hs⟩ := fin _ (some (.goto t)) W3 hp
        exact ⟨_, _, hr, .inr ⟨rfl, .goto t, hs⟩⟩
      | panic ch => exact hp.elim
      | outgrown => exact hp.elim
    · rintro e W2 ⟨⟨v, rfl⟩, (h | ⟨pre, hSp, c, h⟩)⟩
      · have hl : W2.heap[w.heap.size + 1]? = some (.loop (rec .ready none)) := (h.at_ 2 _ rfl).choose_spec.2
        refine ⟨none, _, by have := run_endLoop (P := P) hl (by rw [hrec]; simp); rw [hrec] at this; exact this, hdone _ _ ?_⟩
        exact (Sat.putObj (h.pick [2, 0, 1, 3] [_, _, _, _] rfl (by simp))).pick [3, 1, 2] _ rfl (by simp)
      · have hl : W2.heap[w.heap.size + 1]? = some (.loop (rec .done (some c))) := (h.at_ 2 _ rfl).choose_spec.2
        refine ⟨some c, _, by have := run_endLoop (P := P) hl (by rw [hrec]; simp); rw [hrec] at this; exact this, wpIn_wide.2 (hstop _ c pre _ hSp ?_)⟩
        exact (Sat.putObj (h.pick [2, 0, 1, 3] [_, _, _, _] rfl (by simp))).pick [3, 1, 2] _ rfl (by simp)

/-- The same, one value a round, in slot p, laid into slot q. -/
theorem wp_rangeFunc_sat1 (p q : Nat) {g : Operand} {assign body : Code} {Q : Exit → Act → World → Prop} {a : Act} {w : World}
    {gf : Nat} {lb : Array Value} (hg : a.eval g = .func (.func gf) #[] lb) (eg : ∀ args w, (callFunc gf args).run P w = .ok (.enter gf args) w)
    {xs : List Value} {It : Res} (hseq : SeqSat P gf lb (fun v : Value => #[v]) xs It)
    (J : List Value → Res) (Jx : Code → List Value → Res) (hS : Sat w [It, J []])
    (hassign : ∀ (l : Nat) (x : Value) (W : World) (K : Act → World → Prop), K { tmps := (a.tmps.setIfInBounds p x).setIfInBounds q x, defers := [] } W →
      assign.wpIn (Fence.wide.inRound l) 0 P (Exit.then K (fun _ _ _ => False)) { tmps := a.tmps.setIfInBounds p x, defers := [] } W)
    (hbody : ∀ (l : Nat) (pre : List Value) (x : Value), (pre ++ [x]) <+: xs → ∀ (W : World) (Rs : List Res), Sat W (J pre :: Rs) → body.wpIn (Fence.wide.inRound l) 0 P (satPost J Jx (pre ++ [x]) Rs) { tmps := (a.tmps.setIfInBounds p x).setIfInBounds q x, defers := [] } W)
    (hdone : ∀ (D : Nat) (W : World), Sat W [blk D (.deferred (some [])), It, J xs] → Q .normal { a with defers := loopMark D :: a.defers } W)
    (hstop : ∀ (D : Nat) (c : Code) (pre : List Value) (W : World), pre <+: xs → Sat W [blk D (.deferred (some [])), It, Jx c pre] → c.wp P Q { a with defers := loopMark D :: a.defers } W) :
    (Code.rangeFunc g #[p] assign body).wp P Q a w :=
  wp_rangeFunc_sat hg eg hseq (fun _ => rfl) J Jx hS (fun x => { tmps := (a.tmps.setIfInBounds p x).setIfInBounds q x, defers := [] }) (fun l x W K hK => by
    have e : (#[p].zip #[x]).foldl (fun t ((p, v) : Tmp × Value) => t.setIfInBounds p v) a.tmps = a.tmps.setIfInBounds p x := by simp
    exact (congrArg (fun t => assign.wpIn (Fence.wide.inRound l) 0 P (Exit.then K (fun _ _ _ => False)) { tmps := t, defers := [] } W) e).mpr (hassign l x W K hK)) hbody hdone hstop

theorem Sat.bag_tail {w : World} {A : Res} {As : List Res} (h : Sat w (A :: As)) : Sat w [A, bag As] := by
  have h1 := Sat.back h As.length (Nat.le_refl _)
  have e : As.insertIdx As.length A = As ++ [A] := by
    rw [List.insertIdx_length_self]
  rw [e] at h1
  exact (Sat.bag_in h1).swap
theorem Sat.bag_head {w : World} {A : Res} {As : List Res} (h : Sat w [A, bag As]) : Sat w (A :: As) := by
  have h1 := Sat.bag_out h.swap
  have h2 := h1.front As.length A (by simp)
  rw [List.eraseIdx_append_of_length_le (Nat.le_refl _)] at h2
  simpa using h2
theorem Sat.bag_cons {w : World} {A : Res} {As Rs : List Res} (h : Sat w (A :: bag As :: Rs)) : Sat w (bag (A :: As) :: Rs) := by
  have h1 := Sat.bag_out h.swap
  have h2 := h1.front As.length A (by simp)
  rw [List.eraseIdx_append_of_length_le (Nat.le_refl _)] at h2
  simp only [Nat.sub_self, List.eraseIdx_cons_zero] at h2
  exact Sat.bag_in (As := A :: As) h2

/-- A function that leaves with marks. -/
theorem leaves_marks {fn : Func} {tmps : Array Value} {R : Ending → World → Prop} : ∀ (ds : List Nat) (w : World) (Rs : List Res), Sat w (marks ds ++ Rs) →
    (∀ w', Sat w' Rs → ∃ v, (results fn tmps).run P w' = .ok v w' ∧ R (.returned v) w') → LeavesInM Fence.wide 0 P fn tmps R (ds.map loopMark) .returning w
  | [], w, Rs, hS, h => h w hS
  | D :: ds, w, Rs, hS, h => by
    have hD : w.heap[D]? = some (.deferred (some [])) := (hS.at_ 0 _ rfl).choose_spec.2
    refine ⟨by simp, .inl ⟨D, _, rfl, run_takeDeferred hD, ?_⟩⟩
    refine leaves_marks ds _ Rs ?_ h
    exact (Sat.putObj hS).tail

theorem bodyPost_marks {fn : Func} {R : Ending → World → Prop} {tmps : Array Value} {w : World} {Rs : List Res} (ds : List Nat) (hS : Sat w (marks ds ++ Rs))
    (h : ∀ w', Sat w' Rs → ∃ v, (results fn tmps).run P w' = .ok v w' ∧ R (.returned v) w') : bodyPostM Fence.wide 0 P fn R .ret { tmps := tmps, defers := ds.map loopMark } w := leaves_marks ds w Rs hS h
theorem bodyPost_marks_end {fn : Func} {R : Ending → World → Prop} {tmps : Array Value} {w : World} {Rs : List Res} (ds : List Nat) (hS : Sat w (marks ds ++ Rs))
    (h : ∀ w', Sat w' Rs → ∃ v, (results fn tmps).run P w' = .ok v w' ∧ R (.returned v) w') : bodyPostM Fence.wide 0 P fn R .normal { tmps := tmps, defers := ds.map loopMark } w := leaves_marks ds w Rs hS h

theorem calls_of_wp_marks {f : FuncId} {fn : Func} {c : Code} {args : Array Value} {w : World} {R : Ending → World → Prop}
    (hf : P.funcs[f]? = some fn) (hb : fn.body = some c) (h : c.wp P (bodyPostM Fence.wide 0 P fn R) { tmps := args ++ Array.replicate (fn.ntmps - args.size) undef, defers := [] } w) : Calls P f args w R :=
  callsIn_wide.1 (callsIn_of_wp_marks hf hb trivial (wpIn_wide.2 h))

/-- A region that draws its order, in a round: what is shown of it outside of rounds. -/
theorem wpIn_of_wp_op {l : Nat} {o : Oper} {a : Act} {w : World} {K : Act → World → Prop} {Q : Exit → Act → World → Prop} (hd : ∀ c, o.op ≠ .defer c) (h : o.wp P a w K Q) : o.wpIn (Fence.wide.inRound l) 0 P a w K Q := by
  refine ⟨fun _ _ => trivial, ?_⟩
  have e : o.semAt (Fence.wide.inRound l).round a.eval = execOp a.eval o := Oper.semAt_some l a.eval o hd
  rw [e]
  unfold Oper.wp at h
  generalize (execOp a.eval o).run P w = r at h ⊢
  cases r with
  | ok x w' =>
    cases x with
    | value v => exact h
    | skip => exact h
    | «defer» d => exact h
    | enter f args => exact ⟨fun h => by simp [Fence.inRound, Fence.wide] at h, CallsIn.inRound l (callsIn_wide.2 h)⟩
    | row row args =>
      refine ⟨fun h => by simp [Fence.inRound, Fence.wide] at h, fun c cs hr => ?_⟩
      obtain ⟨v, w'', hq, hs⟩ := h c cs
      refine ⟨v, w'', hq, ?_⟩
      exact (stepsIn_wide (P := P)).2 hs
    | _ => exact h.elim
  | halt x w' => cases x <;> exact h

theorem wpAnyIn_of_wpAny {l : Nat} {md : Region.Mode} {ops : Array Oper} {Q : Exit → Act → World → Prop} (hd : ∀ (i : Nat) (o : Oper) c, ops[i]? = some o → o.op ≠ .defer c) (hQ : ∀ a w, ¬ Q .outgrown a w) :
    ∀ (fuel : Nat) (listed : Array Bool) (a : Act) (w : World), wpAny P md ops Q fuel listed a w → wpAnyIn (Fence.wide.inRound l) 0 P md ops Q fuel listed a w
  | 0, _, _, _, h => h
  | fuel + 1, listed, a, w, h => by
    refine ⟨h.1, fun i hi => ?_⟩
    have h2 := h.2 i hi
    unfold wpOp at h2
    unfold wpOpIn
    cases ho : ops[i]? with
    | none => rw [ho] at h2; exact wpAnyIn_of_wpAny hd hQ fuel _ _ _ h2
    | some o =>
      rw [ho] at h2
      simp only at h2 ⊢
      split
      · rename_i hw
        rw [if_pos hw] at h2
        rcases h2 with h2 | ⟨-, a', w', h3⟩
        · exact Oper.wpIn_mono (fun a w h => wpAnyIn_of_wpAny hd hQ fuel _ _ _ h) (wpIn_of_wp_op (hd i o · ho) h2)
        · exact (hQ _ _ h3).elim
      · rename_i hw
        rw [if_neg hw] at h2
        exact ⟨fun _ _ => trivial, wpAnyIn_of_wpAny hd hQ fuel _ _ _ h2⟩

/-- No operation of a region defers. -/
def noDefer (ops : Array Oper) : Bool := ops.all fun o => match o.op with
  | .defer _ => false
  | _ => true
theorem noDefer_spec {ops : Array Oper} (h : noDefer ops = true) (i : Nat) (o : Oper) (c : Call) (hi : ops[i]? = some o) : o.op ≠ .defer c := by
  intro e
  have := (Array.all_eq_true_iff_forall_mem.1 h) o (Array.mem_of_getElem? hi)
  rw [e] at this
  cases this

/-- The beginning, in a round. -/
theorem wpIn_region_held {l id : Nat} {ops : Array Oper} {Q : Exit → Act → World → Prop} {S : World → Prop} {a : Act} {w : World} (hm : P.follows .mixedOrders = true) (hd : noDefer ops = true) (hQ : ∀ a w, ¬ Q .outgrown a w) (hS : S w.drew)
    (h : S w.drew → wpAnyH P .any ops Q S ops.size (Array.replicate ops.size false) a w.drew) : (Code.region id ops true).wpIn (Fence.wide.inRound l) 0 P Q a w :=
  wpIn_region_any hm (wpAnyIn_of_wpAny (noDefer_spec hd) hQ _ _ _ _ (wpAny_of_held _ _ _ _ (h hS)))

/-- Whatever order comes: S behind every operation but the one, z. -/
def wpHz (P : Program) (md : Region.Mode) (ops : Array Oper) (Q : Exit → Act → World → Prop) (S : World → Prop) (z : Nat) : Nat → Array Bool → Act → World → Prop
  | 0, listed, a, w => Region.ready md ops listed = [] ∧ Q .normal a w
  | fuel + 1, listed, a, w => (Region.ready md ops listed = [] → Q .normal a w) ∧
    ∀ i ∈ Region.ready md ops listed, wpOp P ops Q i (fun a' w' => (i ≠ z → S w') ∧ wpHz P md ops Q S z fuel (listed.setIfInBounds i true) a' w') a w

section
variable {md : Region.Mode} {ops : Array Oper} {Q : Exit → Act → World → Prop} {S : World → Prop} {z : Nat}

theorem wpAny_of_hz : ∀ (fuel : Nat) (listed : Array Bool) (a : Act) (w : World), wpHz P md ops Q S z fuel listed a w → wpAny P md ops Q fuel listed a w
  | 0, _, _, _, h => h
  | fuel + 1, _, _, _, h => ⟨h.1, fun i hi => wpOp_mono (fun a' w' h' => wpAny_of_hz fuel _ a' w' h'.2) (h.2 i hi)⟩

/-- z waits for i. -/
def waits (md : Region.Mode) (ops : Array Oper) (z i : Nat) : Bool := match ops[z]? with
  | some o => o.after.any fun e => Region.binds md e && e.on == i
  | none => false
theorem waits_spec {i : Nat} {oz : Oper} (h : waits md ops z i = true) (hz : ops[z]? = some oz) : ¬ ∀ e ∈ oz.after, Region.binds md e = true → e.on ≠ i := by
  unfold waits at h
  rw [hz] at h
  simp only [Array.any_eq_true, Bool.and_eq_true, beq_iff_eq] at h
  obtain ⟨k, hk, h1, h2⟩ := h
  exact fun hn => hn _ (Array.getElem_mem hk) h1 h2

theorem wpHz_first {i : Nat} {oi : Oper} {v : Value} (hi : ops[i]? = some oi) (hsel : ∀ (j : Nat) (o : Oper) cs b, ops[j]? = some o → o.op ≠ .select cs b)
    (hQ : ∀ c a w, Q (.panic c) (a.put oi.dst v) w → Q (.panic c) a w) (hz : waits md ops z i = true) :
    ∀ (fuel : Nat) (listed : Array Bool) (a : Act) (w : World),
      (∀ j oj, ops[j]? = some oj → j ≠ i → listed.getD j true = false → (∀ e ∈ oj.after, Region.binds md e = true → e.on ≠ i) → oi.apart ops oj = true) →
      i ∈ Region.ready md ops listed → YieldsIf P ops S oi v a → S w →
      wpHz P md ops Q S z fuel (listed.setIfInBounds i true) (a.put oi.dst v) w → wpHz P md ops Q S z (fuel + 1) listed a w := by
  intro fuel
  induction fuel with
  | zero =>
    intro listed a w _ hr hy hS H
    refine ⟨fun h => (by rw [h] at hr; cases hr), fun j hj => ?_⟩
    by_cases hji : j = i
    · subst hji; exact hy.wpOp hi hS ⟨fun _ => hS, H⟩
    · have := ready_mono hj hji
      rw [H.1] at this
      cases this
  | succ fuel ih =>
    intro listed a w hfree hr hy hS H
    refine ⟨fun h => (by rw [h] at hr; cases hr), fun j hj => ?_⟩
    by_cases hji : j = i
    · subst hji; exact hy.wpOp hi hS ⟨fun _ => hS, H⟩
    · have h1 := H.2 j (ready_mono hj hji)
      obtain ⟨hjun, oj, hoj, hall⟩ := mem_ready.1 hj
      have hnot : ∀ e ∈ oj.after, Region.binds md e = true → e.on ≠ i := fun e he hb heq => by
        have h1 := hall e he hb
        have h0 := (mem_ready.1 hr).1
        rw [heq] at h1
        rcases Nat.lt_or_ge i listed.size with h' | h'
        · simp [h'] at h0 h1; rw [h0] at h1; cases h1
        · simp [Array.getElem?_eq_none h'] at h1
      have hjz : j ≠ z := by
        rintro rfl
        exact waits_spec hz hoj hnot
      have h2 := wpOp_putIf hoj (hfree j oj hoj hji hjun hnot) (fun cs b => hsel i oi cs b hi) (fun cs b => hsel j oj cs b hoj) hQ hy h1
      have hfree' : ∀ k ok, ops[k]? = some ok → k ≠ i → (listed.setIfInBounds j true).getD k true = false →
          (∀ e ∈ ok.after, Region.binds md e = true → e.on ≠ i) → oi.apart ops ok = true := fun k ok hk hki hun hno => by
        refine hfree k ok hk hki ?_ hno
        by_cases hjk : j = k
        · subst hjk; exact hjun
        · rw [getD_set_ne true hjk] at hun; exact hun
      refine wpOp_mono (fun a' w' h3 => ⟨h3.2.1, ih (listed.setIfInBounds j true) a' w' hfree' (ready_mono hr (Ne.symm hji)) h3.1 (h3.2.1 hjz) ?_⟩) h2
      rw [Array.setIfInBounds_comm _ _ hji]
      exact h3.2.2

/-- An operation that only reads is taken first: its number and its slot told. -/
theorem wpHz_taken (i k : Nat) (v : Value) {fuel : Nat} {listed : Array Bool} {a : Act} {w : World} (hk : (ops[i]?).bind (·.dst) = some k)
    (hs : Region.noSelect ops = true) (hf : Region.free md ops listed i = true) (hr : (Region.ready md ops listed).contains i = true) (hz : waits md ops z i = true)
    (hQ : ∀ c a w, Q (.panic c) (a.put (some k) v) w → Q (.panic c) a w) (hw : (match ops[i]? with | some o => Region.wanted o (yielded ops a.tmps) | none => false) = true)
    (hy : ∀ w, S w → match ops[i]? with | some o => (execOp a.eval o).run P w = .ok (.value v) w | none => True) (hS : S w)
    (h : wpHz P md ops Q S z fuel (listed.setIfInBounds i true) (a.put (some k) v) w) : wpHz P md ops Q S z (fuel + 1) listed a w := by
  cases ho : ops[i]? with
  | none => rw [ho] at hk; cases hk
  | some o =>
    rw [ho] at hk hw hy
    simp only [Option.bind_some] at hk
    exact wpHz_first ho (Region.noSelect_spec hs) (by rw [hk]; exact hQ) hz fuel listed a w (Region.free_spec ho hf) (by simpa using hr) (.inl ⟨hw, hy⟩) hS (by rw [hk]; exact h)
/-- The one operation that may come up is carried out. -/
theorem wpHz_one (i : Nat) {fuel : Nat} {listed : Array Bool} {a : Act} {w : World} (hr : Region.ready md ops listed = [i])
    (hw : (match ops[i]? with | some o => Region.wanted o (yielded ops a.tmps) | none => false) = true)
    (h : ∀ K' : Act → World → Prop, Shut (∀ a w, (i ≠ z → S w) → ((i ≠ z → S w) → wpHz P md ops Q S z fuel (listed.setIfInBounds i true) a w) → K' a w) → match ops[i]? with | some o => Oper.wp P o a w K' Q | none => True) : wpHz P md ops Q S z (fuel + 1) listed a w := by
  refine ⟨fun h0 => (by rw [h0] at hr; cases hr), fun j hj => ?_⟩
  rw [hr] at hj
  simp only [List.mem_singleton] at hj
  subst hj
  cases ho : ops[j]? with
  | none => rw [ho] at hw; cases hw
  | some o =>
    rw [ho] at hw h
    exact wpOp_step ho (fun K' hK => by rw [if_pos hw]; exact h K' (fun a w hS hW => hK a w ⟨hS, hW hS⟩))
theorem wpHz_done {listed : Array Bool} {a : Act} {w : World} (hr : Region.ready md ops listed = []) (h : Q .normal a w) : ∀ fuel, wpHz P md ops Q S z fuel listed a w
  | 0 => ⟨hr, h⟩
  | _ + 1 => ⟨fun _ => h, by rw [hr]; simp⟩

/-- The beginning: in a round; outside of rounds. -/
theorem wpIn_region_hz {l id : Nat} {a : Act} {w : World} (hm : P.follows .mixedOrders = true) (hd : noDefer ops = true) (hQ : ∀ a w, ¬ Q .outgrown a w) (hS : S w.drew)
    (h : S w.drew → wpHz P .any ops Q S z ops.size (Array.replicate ops.size false) a w.drew) : (Code.region id ops true).wpIn (Fence.wide.inRound l) 0 P Q a w :=
  wpIn_region_any hm (wpAnyIn_of_wpAny (noDefer_spec hd) hQ _ _ _ _ (wpAny_of_hz _ _ _ _ (h hS)))
theorem wp_region_hz {id : Nat} {a : Act} {w : World} (hm : P.follows .mixedOrders = true) (hS : S w.drew)
    (h : S w.drew → wpHz P .any ops Q S z ops.size (Array.replicate ops.size false) a w.drew) : (Code.region id ops true).wp P Q a w :=
  wp_region_any hm (wpAny_of_hz _ _ _ _ (h hS))
end

end Go.Hal
