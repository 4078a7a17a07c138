/- The logic's ranges over a function. -/
import Derived.Test.YtbhggmghelmnhaaClCode
namespace Go
section
variable {P : Program} {n : Nat} {r : Option Nat} {e : CEnv} {ms : List Nat} {H : PHeap} {Q : CPost}

/-- The function is one of Go's own text, as the machine enters it. -/
def EntersC (P : Program) (f : FuncId) : Prop := ∃ fn, P.funcs[f]? = some fn ∧ (fn.name == "runtime.NumGoroutine") = false ∧ fn.body.isNone = false

theorem run_callFunc {f : FuncId} (h : EntersC P f) (args : Array Value) (w : World) : (callFunc f args).run P w = .ok (.enter f args) w := by
  obtain ⟨fn, h1, h2, h3⟩ := h
  unfold callFunc
  simp only [Sem.run_bind, run_program, Result.andThen_ok, h1]
  rw [if_neg (by simp [h2]), if_neg (by simp [h3])]
  rfl
theorem exH_callFunc {f : FuncId} (h : EntersC P f) (args : Array Value) {K : Value → PHeap → Prop} (hk : CallP P f args H K) : (callFunc f args).exH P H (nextP P K) := by
  obtain ⟨fn, h1, h2, h3⟩ := h
  show ((match P.funcs[f]? with
    | none => stuck "call: no such function"
    | some fn => _ : Sem Next)).exH P H _
  rw [h1]
  dsimp only
  rw [if_neg (by simp [h2]), if_neg (by simp [h3])]
  exact hk

/-- The loop's record, as it is laid. -/
def loopObj (fn : FuncId) (tmps : Array Value) (ps : Array Tmp) (assign body : Code) (d : Nat) (st : LoopState) (pend : Option Code) : Obj :=
  .loop { state := st, pending := pend, fn, tmps, params := ps, assign, body, defers := d }

/-- Where a loop over a function has been left. -/
def jumpP (Q : CPost) (e : CEnv) (ms : List Nat) (H : PHeap) : Option Code → Prop
  | none => Q .normal e ms H
  | some .ret => Q .ret e ms H
  | some (.exit id) => Q (.exit id) e ms H
  | _ => False

theorem jumpP_code {c : Code} (h : jumpP Q e ms H (some c)) : CodeP P n r c e ms H Q := by
  cases c <;> first | exact h.elim | exact CodeP.ret h | exact CodeP.exit h

theorem CodeP.rangeFunc {g : Operand} {ps : Array Tmp} {assign body : Code} {gf : FuncId} {first cap : Array Value} (hr : r = none) (hg : e.opd g = some (.func (.func gf) first cap)) (hgf : EntersC P gf)
    (h : ∀ fn tmps d l, (∀ i v, e i = some v → tmps[i]?.getD undef = v) → tmps.size = n → H d = none → H l = none → d ≠ l →
      CallP P gf (first ++ #[.func (.yield l) #[] #[]] ++ cap) ((H.put d (.deferred (some []))).put l (loopObj fn tmps ps assign body d .ready none)) fun _ H2 =>
        ∃ st pend, H2 l = some (loopObj fn tmps ps assign body d st pend) ∧ (st == LoopState.busy) = false ∧ jumpP Q e (d :: ms) (H2.put l (loopObj fn tmps ps assign body d .exhausted pend)) pend) :
    CodeP P n r (.rangeFunc g ps assign body) e ms H Q := by
  subst hr
  intro a w he hd hs
  refine wpIn_rangeFunc fun fn _ => ?_
  have h0 := hs.new (.deferred (some []))
  have h1 := h0.sub.new (loopObj fn a.tmps ps assign body w.heap.size .ready none)
  have hcall := h fn a.tmps w.heap.size (w.heap.size + 1) (fun i v hv => he.val i v hv) he.size (hs.none_of_ge (Nat.le_refl _)) (hs.none_of_ge (by omega)) (by omega)
  have hsz : ({ w with heap := w.heap.push (.deferred (some [])) } : World).heap.size = w.heap.size + 1 := by simp
  rw [hsz] at h1
  have hinv : ∀ W, (invoke (.fn (.func gf) cap) (first ++ #[.func (.yield (w.heap.size + 1)) #[] #[]])).run P W = .ok (.enter gf (first ++ #[.func (.yield (w.heap.size + 1)) #[] #[]] ++ cap)) W := fun W => run_callFunc hgf _ W
  refine ⟨w.heap.size + 1, [{ target := .collected w.heap.size, args := #[] }], { w with heap := (w.heap.push (.deferred (some []))).push (loopObj fn a.tmps ps assign body w.heap.size .ready none) },
    { target := .fn (.func gf) cap, args := first ++ #[.func (.yield (w.heap.size + 1)) #[] #[]] }, { w with heap := (w.heap.push (.deferred (some []))).push (loopObj fn a.tmps ps assign body w.heap.size .ready none) },
    gf, first ++ #[.func (.yield (w.heap.size + 1)) #[] #[]] ++ cap, _, ?_, ?_, fun _ _ => trivial, hinv _, fun h => (by cases h), ?_⟩
  · simp [Instr.enterLoop, fw, loopObj]
    rfl
  · simp [resolve, rangeCall, he.opd hg, Deferred.ofValue]
    simp [Act.eval]
  · refine callsIn_wide.2 ((hcall _ h1.sub).mono ?_)
    rintro x w' ⟨v, H2, rfl, hst, st, pend, hl, hb, hj⟩
    have hst2 := hst.sub.setObj (loopObj fn a.tmps ps assign body w.heap.size .exhausted pend) hl
    have hend : (Instr.endLoop (w.heap.size + 1)).run P w' = .ok pend { w' with heap := w'.heap.setIfInBounds (w.heap.size + 1) (loopObj fn a.tmps ps assign body w.heap.size .exhausted pend) } := by
      have hw := hst.sub _ _ hl
      simp only [loopObj] at hw
      cases st <;> first | (cases hb; done) | simp [Instr.endLoop, Instr.getLoop, getObj, setObj, Sem.run, hw, loopObj]
    refine ⟨pend, _, hend, ?_⟩
    have hall := ((h0.trans h1).trans hst).trans hst2
    have hd' : ({ a with defers := [{ target := .collected w.heap.size, args := #[] }] ++ a.defers } : Act).defers = defersOf (w.heap.size :: ms) := by simp [defersOf, hd]
    have he' : EnvOk e n { a with defers := [{ target := .collected w.heap.size, args := #[] }] ++ a.defers } := ⟨he.size, he.val⟩
    cases pend with
    | none => exact ⟨e, _, _, he', hd', hall, hj⟩
    | some c =>
      refine wpIn_mono (jumpP_code (P := P) (n := n) (r := none) hj _ _ he' hd' hst2.sub) ?_
      rintro x3 a3 w3 ⟨e3, ms3, H3, k1, k2, k3, k4⟩
      exact ⟨e3, ms3, H3, k1, k2, hall.trans k3, k4⟩

/-- A loop over a function that stands in a round of another one. -/
theorem CodeP.rangeFuncIn {g : Operand} {ps : Array Tmp} {assign body : Code} {gf : FuncId} {first cap : Array Value} {l0 : Nat} {fn0 : FuncId} {tmps0 : Array Value} {ps0 : Array Tmp} {as0 body0 : Code} {d0 : Nat} {st0 : LoopState} {pe0 : Option Code}
    (hr : r = some l0) (hl0 : H l0 = some (loopObj fn0 tmps0 ps0 as0 body0 d0 st0 pe0)) (hg : e.opd g = some (.func (.func gf) first cap)) (hgf : EntersC P gf)
    (h : ∀ fn tmps l, (∀ i v, e i = some v → tmps[i]?.getD undef = v) → tmps.size = n → H l = none →
      CallP P gf (first ++ #[.func (.yield l) #[] #[]] ++ cap) (H.put l (loopObj fn tmps ps assign body d0 .ready none)) fun _ H2 =>
        ∃ st pend, H2 l = some (loopObj fn tmps ps assign body d0 st pend) ∧ (st == LoopState.busy) = false ∧ jumpP Q e ms (H2.put l (loopObj fn tmps ps assign body d0 .exhausted pend)) pend) :
    CodeP P n r (.rangeFunc g ps assign body) e ms H Q := by
  subst hr
  intro a w he hd hs
  refine wpIn_rangeFunc fun fn _ => ?_
  have h1 := hs.new (loopObj fn a.tmps ps assign body d0 .ready none)
  have hcall := h fn a.tmps w.heap.size (fun i v hv => he.val i v hv) he.size (hs.none_of_ge (Nat.le_refl _))
  have hinv : ∀ W, (invoke (.fn (.func gf) cap) (first ++ #[.func (.yield w.heap.size) #[] #[]])).run P W = .ok (.enter gf (first ++ #[.func (.yield w.heap.size) #[] #[]] ++ cap)) W := fun W => run_callFunc hgf _ W
  refine ⟨w.heap.size, [], { w with heap := w.heap.push (loopObj fn a.tmps ps assign body d0 .ready none) }, { target := .fn (.func gf) cap, args := first ++ #[.func (.yield w.heap.size) #[] #[]] },
    { w with heap := w.heap.push (loopObj fn a.tmps ps assign body d0 .ready none) }, gf, first ++ #[.func (.yield w.heap.size) #[] #[]] ++ cap, _, ?_, ?_, fun _ _ => trivial, hinv _, fun h => (by cases h), ?_⟩
  · have hw := hs _ _ hl0
    simp only [loopObj] at hw
    simp [Instr.enterLoop, Instr.getLoop, getObj, Sem.run, fw, loopObj, hw]
  · simp [resolve, rangeCall, he.opd hg, Deferred.ofValue]
    simp [Act.eval]
  · refine callsIn_wide.2 ((hcall _ h1.sub).mono ?_)
    rintro x w' ⟨v, H2, rfl, hst, st, pend, hl, hb, hj⟩
    have hst2 := hst.sub.setObj (loopObj fn a.tmps ps assign body d0 .exhausted pend) hl
    have hend : (Instr.endLoop w.heap.size).run P w' = .ok pend { w' with heap := w'.heap.setIfInBounds w.heap.size (loopObj fn a.tmps ps assign body d0 .exhausted pend) } := by
      have hw := hst.sub _ _ hl
      simp only [loopObj] at hw
      cases st <;> first | (cases hb; done) | simp [Instr.endLoop, Instr.getLoop, getObj, setObj, Sem.run, hw, loopObj]
    refine ⟨pend, _, hend, ?_⟩
    have hall := (h1.trans hst).trans hst2
    have hd' : ({ a with defers := [] ++ a.defers } : Act).defers = defersOf ms := by simp [hd]
    have he' : EnvOk e n { a with defers := [] ++ a.defers } := ⟨he.size, he.val⟩
    cases pend with
    | none => exact ⟨e, _, _, he', hd', hall, hj⟩
    | some c =>
      refine wpIn_mono (jumpP_code (P := P) (n := n) (r := some l0) hj _ _ he' hd' hst2.sub) ?_
      rintro x3 a3 w3 ⟨e3, ms3, H3, k1, k2, k3, k4⟩
      exact ⟨e3, ms3, H3, k1, k2, hall.trans k3, k4⟩

/-- How a round may end. -/
def roundEnd (l : Nat) (L : LoopState → Option Code → Obj) (K : Value → PHeap → Prop) : CPost
  | .normal, _, _, H => (∃ st pe, H l = some (L st pe)) ∧ K (.bool true) (H.put l (L .ready none))
  | .ret, _, _, H => (∃ st pe, H l = some (L st pe)) ∧ K (.bool false) (H.put l (L .done (some .ret)))
  | .exit id, _, _, H => (∃ st pe, H l = some (L st pe)) ∧ K (.bool false) (H.put l (L .done (some (.exit id))))
  | _, _, _, _ => False

/-- One round of a range over a function, by its body. -/
theorem RoundP.of_code {l : Nat} {fn : FuncId} {tmps0 tmps : Array Value} {ps : Array Tmp} {assign body : Code} {d : Nat} {pend : Option Code} {K : Value → PHeap → Prop}
    (hl : H l = some (loopObj fn tmps0 ps assign body d .ready pend)) (he : ∀ i v, e i = some v → tmps[i]?.getD undef = v) (hn : tmps.size = n)
    (h : CodeP P n (some l) assign e [] H fun x e1 ms1 H1 => x = .normal ∧ ms1 = [] ∧ H1 l = some (loopObj fn tmps0 ps assign body d .ready pend) ∧
      CodeP P n (some l) body e1 [] (H1.put l (loopObj fn tmps0 ps assign body d .busy pend)) (roundEnd l (loopObj fn tmps0 ps assign body d) K)) :
    RoundP P l fn tmps assign body H K := by
  intro r w hs
  refine roundIn_of_wpIn trivial ?_
  refine wpIn_mono (h { tmps := tmps, defers := [] } w ⟨hn, he⟩ rfl hs) ?_
  rintro x a1 w1 ⟨e1, ms1, H1, he1, hd1, hst1, rfl, rfl, hl1, hbody⟩
  have hst2 := hst1.sub.setObj (loopObj fn tmps0 ps assign body d .busy pend) hl1
  refine ⟨{ w1 with heap := w1.heap.setIfInBounds l (loopObj fn tmps0 ps assign body d .busy pend) }, ?_, ?_⟩
  · have hw := hst1.sub _ _ hl1
    simp only [loopObj] at hw
    simp [Instr.beginRound, Instr.getLoop, getObj, setObj, Sem.run, hw, loopObj]
  · refine wpIn_mono (hbody a1 _ he1 hd1 hst2.sub) ?_
    rintro x a2 w2 ⟨e2, ms2, H2, he2, hd2, hst3, hq⟩
    have hend : ∀ (j : Option Code) st pe, H2 l = some (loopObj fn tmps0 ps assign body d st pe) →
        (Instr.endRound l j).run P w2 = .ok (.bool j.isNone) { w2 with heap := w2.heap.setIfInBounds l (loopObj fn tmps0 ps assign body d (if j.isNone then .ready else .done) j) } := by
      intro j st pe hl2
      have hw := hst3.sub _ _ hl2
      simp only [loopObj] at hw
      simp [Instr.endRound, Instr.getLoop, getObj, setObj, Sem.run, hw, loopObj]
    have hstep : ∀ (o : Obj) st pe, H2 l = some (loopObj fn tmps0 ps assign body d st pe) → PStep H (H2.put l o) w { w2 with heap := w2.heap.setIfInBounds l o } := fun o st pe hl2 =>
      ((hst1.trans hst2).trans hst3).trans (hst3.sub.setObj o hl2)
    cases x with
    | normal =>
      obtain ⟨⟨st, pe, hl2⟩, hk⟩ := hq
      exact ⟨_, _, hend none st pe hl2, _, _, rfl, hstep _ st pe hl2, hk⟩
    | ret =>
      obtain ⟨⟨st, pe, hl2⟩, hk⟩ := hq
      exact ⟨_, _, hend (some .ret) st pe hl2, _, _, rfl, hstep _ st pe hl2, hk⟩
    | exit id =>
      obtain ⟨⟨st, pe, hl2⟩, hk⟩ := hq
      exact ⟨_, _, hend (some (.exit id)) st pe hl2, _, _, rfl, hstep _ st pe hl2, hk⟩
    | goto t => exact hq.elim
    | panic ch => exact hq.elim
    | outgrown => exact hq.elim
end
end Go
