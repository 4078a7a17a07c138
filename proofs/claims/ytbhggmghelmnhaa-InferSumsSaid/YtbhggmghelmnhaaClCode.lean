/- The logic's code: what a function's code does over a partial heap; calls, loops, rounds of a range over a function. -/
import Derived.Test.YtbhggmghelmnhaaClSound
import Derived.RangeFuncRecord
namespace Go
/-- What is asked at an end of code: how it was left, what is known of the temporaries, the blocks of deferred calls, the heap. -/
abbrev CPost := Exit → CEnv → List Nat → PHeap → Prop
def defersOf (ms : List Nat) : List Deferred := ms.map fun r => { target := .collected r, args := #[] }

def CodeP (P : Program) (n : Nat) (r : Option Nat) (c : Code) (e : CEnv) (ms : List Nat) (H : PHeap) (Q : CPost) : Prop :=
  ∀ a w, EnvOk e n a → a.defers = defersOf ms → H.sub w →
    c.wpIn (fw r) 0 P (fun x a' w' => ∃ e' ms' H', EnvOk e' n a' ∧ a'.defers = defersOf ms' ∧ PStep H H' w w' ∧ Q x e' ms' H') a w

section
variable {P : Program} {n : Nat} {r : Option Nat} {c d : Code} {e : CEnv} {ms : List Nat} {H : PHeap} {Q Q' : CPost}

theorem CodeP.mono (h : CodeP P n r c e ms H Q) (hq : ∀ x e ms H, Q x e ms H → Q' x e ms H) : CodeP P n r c e ms H Q' :=
  fun a w he hd hs => wpIn_mono (h a w he hd hs) fun _ _ _ ⟨e', ms', H', a1, a2, a3, a4⟩ => ⟨e', ms', H', a1, a2, a3, hq _ _ _ _ a4⟩

theorem CodeP.skip (h : Q .normal e ms H) : CodeP P n r .skip e ms H Q :=
  fun _ _ he hd hs => wpIn_skip ⟨e, ms, H, he, hd, .refl hs, h⟩
theorem CodeP.exit {id : Nat} (h : Q (.exit id) e ms H) : CodeP P n r (.exit id) e ms H Q :=
  fun _ _ he hd hs => wpIn_exit ⟨e, ms, H, he, hd, .refl hs, h⟩
theorem CodeP.ret (h : Q .ret e ms H) : CodeP P n r .ret e ms H Q :=
  fun _ _ he hd hs => wpIn_ret ⟨e, ms, H, he, hd, .refl hs, h⟩

theorem CodeP.cond {x : Operand} {b : Bool} (hx : e.opd x = some (.bool b)) (h : CodeP P n r (if b then c else d) e ms H Q) : CodeP P n r (.cond x c d) e ms H Q :=
  fun a w he hd hs => wpIn_cond (he.opd hx) (h a w he hd hs)

/-- What comes behind, if nothing was left. -/
def thenP (next : CEnv → List Nat → PHeap → Prop) (Q : CPost) : CPost
  | .normal, e, ms, H => next e ms H
  | x, e, ms, H => Q x e ms H

theorem CodeP.seq (h : CodeP P n r c e ms H (thenP (fun e ms H => CodeP P n r d e ms H Q) Q)) : CodeP P n r (.seq c d) e ms H Q := by
  intro a w he hd hs
  refine wpIn_seq (wpIn_mono (h a w he hd hs) ?_)
  rintro x a' w' ⟨e', ms', H', he', hd', hst, hq⟩
  cases x with
  | normal =>
    refine wpIn_mono (hq a' w' he' hd' hst.sub) ?_
    rintro x2 a2 w2 ⟨e2, ms2, H2, he2, hd2, hst2, hq2⟩
    exact ⟨e2, ms2, H2, he2, hd2, hst.trans hst2, hq2⟩
  | exit id => exact ⟨e', ms', H', he', hd', hst, hq⟩
  | goto l => exact ⟨e', ms', H', he', hd', hst, hq⟩
  | ret => exact ⟨e', ms', H', he', hd', hst, hq⟩
  | panic ch => exact ⟨e', ms', H', he', hd', hst, hq⟩
  | outgrown => exact ⟨e', ms', H', he', hd', hst, hq⟩

def blockP (id : Nat) (Q : CPost) : CPost
  | .exit id', e, ms, H => if id' = id then Q .normal e ms H else Q (.exit id') e ms H
  | x, e, ms, H => Q x e ms H

theorem CodeP.block {id : Nat} (h : CodeP P n r c e ms H (blockP id Q)) : CodeP P n r (.block id c) e ms H Q := by
  intro a w he hd hs
  refine wpIn_block (wpIn_mono (h a w he hd hs) ?_)
  rintro x a' w' ⟨e', ms', H', he', hd', hst, hq⟩
  cases x with
  | exit id' =>
    simp only [blockP] at hq
    simp only [Exit.inBlock]
    split
    · rename_i h1; rw [if_pos h1] at hq; exact ⟨e', ms', H', he', hd', hst, hq⟩
    · rename_i h1; rw [if_neg h1] at hq; exact ⟨e', ms', H', he', hd', hst, hq⟩
  | normal => exact ⟨e', ms', H', he', hd', hst, hq⟩
  | goto l => exact ⟨e', ms', H', he', hd', hst, hq⟩
  | ret => exact ⟨e', ms', H', he', hd', hst, hq⟩
  | panic ch => exact ⟨e', ms', H', he', hd', hst, hq⟩
  | outgrown => exact ⟨e', ms', H', he', hd', hst, hq⟩

theorem CodeP.label {l : Nat} (h : Q .normal e ms H) : CodeP P n r (.label l) e ms H Q :=
  fun _ _ he hd hs => wpIn_label ⟨e, ms, H, he, hd, .refl hs, h⟩

theorem stepR_scopeC {P : Program} {b : Frame} {a : Act} {k : List Item} {cs : List Frame} {w : World} {c : Code} : step P (lone (b.atR a (.code (.scope c) :: k)) cs w) = .next (lone (b.atR a (.code c :: .inScope c :: k)) cs w) :=
  step_lone_go (by simp [stepG, stepG.exec, Frame.atR])
theorem stepR_inScopeC {P : Program} {b : Frame} {a : Act} {k : List Item} {cs : List Frame} {w : World} {c : Code} : step P (lone (b.atR a (.inScope c :: k)) cs w) = .next (lone (b.atR a k) cs w) :=
  step_lone_go (by simp [stepG, stepG.exec, Frame.atR])
def scopeQ (Q : Exit → Act → World → Prop) : Exit → Act → World → Prop
  | .goto _, _, _ => False
  | e, a, w => Q e a w
theorem wpIn_scopeC {F : Fence} {n : Nat} {P : Program} {Q : Exit → Act → World → Prop} {a : Act} {w : World} {c : Code} (h : c.wpIn F n P (scopeQ Q) a w) : (Code.scope c).wpIn F n P Q a w := by
  intro b k cs hro hb hr
  have h0 : (lone (b.atR a (.code (.scope c) :: k)) cs w).fenced P F := fenced_calm hb hr rfl
  obtain ⟨e, a₁, w₁, hq, harr⟩ := h b (.inScope c :: k) cs hro hb hr
  cases e with
  | normal => exact ⟨.normal, a₁, w₁, hq, .head h0 stepR_scopeC (StepsIn.trans harr (.one (fenced_calm hb hr rfl) stepR_inScopeC))⟩
  | exit id =>
    have hx : exitTo id (.inScope c :: k) = exitTo id k := by simp [exitTo]
    exact ⟨.exit id, a₁, w₁, hq, fun k' hk => .head h0 stepR_scopeC (harr.1 k' (by rw [hx]; exact hk)),
      fun hr' hk => let ⟨k₁, h1, h2⟩ := harr.2 hr' (by rw [hx]; exact hk); ⟨k₁, h1, .head h0 stepR_scopeC h2⟩⟩
  | goto l => exact hq.elim
  | ret => exact ⟨_, a₁, w₁, hq, .of_steps (.one h0 stepR_scopeC) harr⟩
  | panic ch => exact ⟨_, a₁, w₁, hq, .of_steps (.one h0 stepR_scopeC) harr⟩
  | outgrown => exact ⟨_, a₁, w₁, hq, .of_steps (.one h0 stepR_scopeC) harr⟩
/-- A scope that nothing jumps in. -/
def scopeP (Q : CPost) : CPost
  | .goto _, _, _, _ => False
  | x, e, ms, H => Q x e ms H
theorem CodeP.scope (h : CodeP P n r c e ms H (scopeP Q)) : CodeP P n r (.scope c) e ms H Q := by
  intro a w he hd hs
  refine wpIn_scopeC (wpIn_mono (h a w he hd hs) ?_)
  rintro x a' w' ⟨e', ms', H', he', hd', hst, hq⟩
  cases x with
  | goto l => exact hq.elim
  | normal => exact ⟨e', ms', H', he', hd', hst, hq⟩
  | exit id => exact ⟨e', ms', H', he', hd', hst, hq⟩
  | ret => exact ⟨e', ms', H', he', hd', hst, hq⟩
  | panic ch => exact ⟨e', ms', H', he', hd', hst, hq⟩
  | outgrown => exact ⟨e', ms', H', he', hd', hst, hq⟩

theorem CodeP.region {id : Nat} {ops : Array Oper} (h : runC P n ops (fun _ _ => true) (fun e' H' => Q .normal e' ms H') (List.range ops.size) ⟨e, H, [], []⟩) : CodeP P n r (.region id ops false) e ms H Q :=
  fun _ _ he hd hs => region_sound h he hs fun e' H' _ _ hK he' hd' hst => ⟨e', ms, H', he', hd'.trans hd, hst, hK⟩
theorem CodeP.draw {id : Nat} {ops : Array Oper} (hm : P.follows .mixedOrders = true) (hok : regionOk ops (masksOf ops.toList []) = true)
    (h : runC P n ops (ordM (masksOf ops.toList [])) (fun e' H' => Q .normal e' ms H') (List.range ops.size) ⟨e, H, [], []⟩) : CodeP P n r (.region id ops true) e ms H Q :=
  fun _ _ he hd hs => draw_sound hm hok h he hs fun e' H' _ _ hK he' hd' hst => ⟨e', ms, H', he', hd'.trans hd, hst, hK⟩

/-! ### A loop -/
open Classical in
noncomputable def leastOfC (p : Nat → Prop) : Nat := if h : ∃ m, p m ∧ ∀ k, p k → m ≤ k then h.choose else 0
theorem leastOfC_spec {p : Nat → Prop} (h : ∃ m, p m) : p (leastOfC p) ∧ ∀ k, p k → leastOfC p ≤ k := by
  have hex : ∃ m, p m ∧ ∀ k, p k → m ≤ k := by
    obtain ⟨m, hm⟩ := h
    induction m using Nat.strongRecOn with
    | _ m ih =>
      by_cases hq : ∃ k, p k ∧ k < m
      · obtain ⟨k, hk, hkm⟩ := hq
        exact ih k hkm hk
      · exact ⟨m, hm, fun k hk => Nat.le_of_not_lt fun hlt => hq ⟨k, hk, hlt⟩⟩
  unfold leastOfC
  rw [dif_pos hex]
  exact hex.choose_spec

/-- A loop, by an invariant of what is known at its head, and a number that goes down. -/
theorem CodeP.loop {S : Type} (E : S → CEnv) (I : S → PHeap → Prop) (μ : S → PHeap → Nat) (s0 : S) (he0 : ∀ i v, E s0 i = some v → e i = some v) (h0 : I s0 H)
    (hr : ∀ s H1, I s H1 → CodeP P n r c (E s) ms H1 (thenP (fun e' ms' H' => ms' = ms ∧ ∃ s', (∀ i v, E s' i = some v → e' i = some v) ∧ I s' H' ∧ μ s' H' < μ s H1) Q)) :
    CodeP P n r (.loop c) e ms H Q := by
  intro a w he hd hs
  let p : Act → World → Nat → Prop := fun a' w' m => ∃ s H1, EnvOk (E s) n a' ∧ a'.defers = defersOf ms ∧ PStep H H1 w w' ∧ I s H1 ∧ μ s H1 = m
  refine wpIn_loop (fun a' w' => ∃ m, p a' w' m) (fun a' w' => leastOfC (p a' w')) ⟨μ s0 H, s0, H, ⟨he.size, fun i v hv => he.val i v (he0 i v hv)⟩, hd, .refl hs, h0, rfl⟩ ?_
  intro a1 w1 hp
  obtain ⟨s, H1, he1, hd1, hst1, hI, hmu⟩ := (leastOfC_spec hp).1
  refine wpIn_mono (hr s H1 hI a1 w1 he1 hd1 hst1.sub) ?_
  rintro x a2 w2 ⟨e2, ms2, H2, he2, hd2, hst2, hq⟩
  cases x with
  | normal =>
    obtain ⟨rfl, s', hes, hI', hlt⟩ := hq
    have hp2 : p a2 w2 (μ s' H2) := ⟨s', H2, ⟨he2.size, fun i v hv => he2.val i v (hes i v hv)⟩, hd2, hst1.trans hst2, hI', rfl⟩
    exact ⟨⟨_, hp2⟩, Nat.lt_of_le_of_lt ((leastOfC_spec ⟨_, hp2⟩).2 _ hp2) (hmu ▸ hlt)⟩
  | exit id => exact ⟨e2, ms2, H2, he2, hd2, hst1.trans hst2, hq⟩
  | goto l => exact ⟨e2, ms2, H2, he2, hd2, hst1.trans hst2, hq⟩
  | ret => exact ⟨e2, ms2, H2, he2, hd2, hst1.trans hst2, hq⟩
  | panic ch => exact ⟨e2, ms2, H2, he2, hd2, hst1.trans hst2, hq⟩
  | outgrown => exact ⟨e2, ms2, H2, he2, hd2, hst1.trans hst2, hq⟩

theorem Sem.rdH_run {α : Type} {P : Program} : ∀ (s : Sem α) {a : α} {H : PHeap} {w : World}, s.rdH P H = some a → H.sub w → s.run P w = .ok a w := by
  intro s
  induction s with
  | pure a => intro x H w h _; cases h; rfl
  | load m a k ih =>
    intro x H w h hs
    simp only [Sem.rdH] at h
    cases hc : H.cell? a with
    | none => rw [hc] at h; cases h
    | some v => rw [hc] at h; simp only [Sem.run, hs.cell hc]; exact ih _ h hs
  | shape q k ih =>
    intro x H w h hs
    simp only [Sem.rdH] at h
    cases hc : H q with
    | none => rw [hc] at h; cases h
    | some o =>
      rw [hc] at h
      have : w.shape? q = o.shapeOf := by unfold World.shape?; rw [hs _ _ hc]; cases o <;> rfl
      simp only [Sem.run, this]; exact ih _ h hs
  | frozen a k ih =>
    intro x H w h hs
    simp only [Sem.rdH] at h
    cases hc : H a.block with
    | none => rw [hc] at h; cases h
    | some o =>
      rw [hc] at h
      have : w.frozen? a = o.frozenAt a.off := by unfold World.frozen?; rw [hs _ _ hc]; cases o <;> rfl
      simp only [Sem.run, this]; exact ih _ h hs
  | getObj q k ih =>
    intro x H w h hs
    simp only [Sem.rdH] at h
    cases hc : H q with
    | none => rw [hc] at h; cases h
    | some o =>
      rw [hc] at h
      dsimp only at h
      by_cases hr : o.isRow = true
      · rw [if_pos hr] at h; cases h
      · rw [if_neg hr] at h
        simp only [Sem.run, hs _ _ hc]
        cases o <;> first | (exact absurd rfl hr) | exact ih _ h hs
  | program k ih => exact fun h hs => ih _ h hs
  | mark m k ih => exact fun h hs => ih h hs
  | store => exact fun h => by cases h
  | new => exact fun h => by cases h
  | freeze => exact fun h => by cases h
  | setObj => exact fun h => by cases h
  | choose => exact fun h => by cases h
  | sys => exact fun h => by cases h
  | halt => exact fun h => by cases h

/-! ### A function -/
def resSem (fn : Func) (ρ : Nat → Value) : Sem Value := do
  let vs ← fn.results.mapM fun
    | .tmp t => pure (ρ t)
    | .cell a t => do loadVar t (← asAddr (ρ a))
  pure (if h : vs.size = 1 then vs[0] else .tuple vs)
def ResultVar.at : ResultVar → Nat
  | .tmp t => t
  | .cell a _ => a
def PHeap.drop (H : PHeap) (ms : List Nat) : PHeap := fun i => if ms.contains i then none else H i
def argsEnv (args : Array Value) : CEnv := fun i => args[i]?

theorem mapM_congr' {α β : Type} {m : Type → Type} [Monad m] [LawfulMonad m] {f g : α → m β} {l : Array α} (h : ∀ x ∈ l, f x = g x) : l.mapM f = l.mapM g := by
  have h2 : ∀ (l : List α), (∀ x ∈ l, f x = g x) → l.mapM f = l.mapM g := by
    intro l
    induction l with
    | nil => intro _; rfl
    | cons x l ih =>
      intro hl
      rw [List.mapM_cons, List.mapM_cons, hl x (List.mem_cons_self ..), ih fun y hy => hl y (List.mem_cons_of_mem _ hy)]
  rw [Array.mapM_eq_mapM_toList, Array.mapM_eq_mapM_toList, h2 l.toList fun x hx => h x (by simpa using hx)]

theorem results_env {fn : Func} {a : Act} {e : CEnv} (he : EnvOk e n a) (hr : ∀ x ∈ fn.results, (e x.at).isSome = true) : results fn a.tmps = resSem fn fun t => (e t).getD undef := by
  unfold results resSem
  have hv : ∀ x ∈ fn.results, a.tmps.getD x.at undef = (e x.at).getD undef := fun x hx => by
    obtain ⟨v, hv⟩ := Option.isSome_iff_exists.1 (hr x hx)
    rw [hv, Array.getD_eq_getD_getElem?, he.val _ _ hv]; rfl
  congr 1
  have hlist : ∀ l : List ResultVar, (∀ x ∈ l, a.tmps.getD x.at undef = (e x.at).getD undef) →
      l.mapM (m := Sem) (fun | .tmp t => pure (a.tmps.getD t undef) | .cell b t => do loadVar t (← asAddr (a.tmps.getD b undef))) =
      l.mapM (m := Sem) (fun | .tmp t => pure ((e t).getD undef) | .cell b t => do loadVar t (← asAddr ((e b).getD undef))) := by
    intro l
    induction l with
    | nil => intro _; rfl
    | cons x l ih =>
      intro hl
      have h1 := hl x (List.mem_cons_self ..)
      have h2 := ih fun y hy => hl y (List.mem_cons_of_mem _ hy)
      cases x with
      | tmp t => simp only [List.mapM_cons, h2]; simp only [ResultVar.at] at h1; rw [h1]
      | cell b t => simp only [List.mapM_cons, h2]; simp only [ResultVar.at] at h1; rw [h1]
  rw [Array.mapM_eq_mapM_toList, Array.mapM_eq_mapM_toList]
  exact congrArg (fun z : Sem (List Value) => List.toArray <$> z) (hlist fn.results.toList fun x hx => hv x (by simpa using hx))

theorem leaves_marks {fn : Func} {tmps : Array Value} {R : Ending → World → Prop} : ∀ (ms : List Nat) {H : PHeap} {w : World}, (∀ d ∈ ms, ∃ x, H d = some (.deferred (some x)) ∧ x = []) → ms.Nodup → H.sub w →
    (∀ w', PStep H (H.drop ms) w w' → ∃ v, (results fn tmps).run P w' = .ok v w' ∧ R (.returned v) w') → LeavesInM (fw r) 0 P fn tmps R (defersOf ms) .returning w
  | [], H, w, _, _, hs, hR => by
    have : PHeap.drop H [] = H := by funext i; simp [PHeap.drop]
    exact hR w (by rw [this]; exact .refl hs)
  | d :: ms, H, w, hd, hnd, hs, hR => by
    obtain ⟨x, hx, rfl⟩ := hd d (List.mem_cons_self ..)
    refine ⟨by simp, .inl ⟨d, _, rfl, run_takeDeferred (hs _ _ hx), ?_⟩⟩
    have hl := hs.lt hx
    rw [List.nodup_cons] at hnd
    have hst : PStep H (H.drop [d]) w { w with heap := w.heap.setIfInBounds d (.deferred none) } := by
      refine ⟨?_, rfl, rfl, rfl, by simp, ?_⟩
      · intro b o hb
        unfold PHeap.drop at hb
        by_cases hbd : b = d
        · subst hbd; simp at hb
        · simp [hbd] at hb
          simp only [Array.getElem?_setIfInBounds]
          rw [if_neg (fun q => hbd q.symm)]
          exact hs _ _ hb
      · intro b hb hn
        have hbd : b ≠ d := fun q => by rw [q, hx] at hn; cases hn
        simp only [Array.getElem?_setIfInBounds]
        rw [if_neg (fun q => hbd q.symm)]
        exact ⟨rfl, by simp [PHeap.drop, hn]⟩
    refine leaves_marks ms (H := H.drop [d]) (fun d' hd' => ?_) hnd.2 hst.sub fun w' hst' => ?_
    · obtain ⟨x, hx', rfl⟩ := hd d' (List.mem_cons_of_mem _ hd')
      have hne : d' ≠ d := fun q => hnd.1 (q ▸ hd')
      exact ⟨[], by simp [PHeap.drop, hne, hx'], rfl⟩
    · have : (H.drop [d]).drop ms = H.drop (d :: ms) := by
        funext i
        simp only [PHeap.drop, List.contains_cons, List.contains_nil, Bool.or_false]
        by_cases h1 : i = d <;> simp [h1]
      rw [this] at hst'
      exact hR w' (hst.trans hst')

theorem CallP.of_code {f : FuncId} {fn : Func} {args : Array Value} {K : Value → PHeap → Prop} (hf : P.funcs[f]? = some fn) (hb : fn.body = some c) (hn : args.size ≤ fn.ntmps)
    (h : CodeP P fn.ntmps none c (argsEnv args) [] H fun x e' ms' H' => (x = .normal ∨ x = .ret) ∧ (∀ y ∈ fn.results, (e' y.at).isSome = true) ∧ (∀ d ∈ ms', ∃ x, H' d = some (.deferred (some x)) ∧ x = []) ∧ ms'.Nodup ∧
      ∃ v, (resSem fn fun t => (e' t).getD undef).rdH P (H'.drop ms') = some v ∧ K v (H'.drop ms')) : CallP P f args H K := by
  intro w hs
  refine (callsIn_wide (n := 0)).1 (callsIn_of_wp_marks (F := fw none) hf hb trivial ?_ rfl)
  refine wpIn_mono (h { tmps := args ++ Array.replicate (fn.ntmps - args.size) undef, defers := [] } w ⟨by simp; omega, fun i v hi => ?_⟩ rfl hs) ?_
  · unfold argsEnv at hi
    have hlt := (Array.getElem?_eq_some_iff.1 hi).1
    simp only []
    rw [Array.getElem?_append_left hlt, hi]; rfl
  · rintro x a' w' ⟨e', ms', H', he', hd', hst, hx, hres, hm, hnd, v, hv, hk⟩
    have hgoal : LeavesInM (fw none) 0 P fn a'.tmps (fun e w' => ∃ v H', e = .returned v ∧ PStep H H' w w' ∧ K v H') a'.defers .returning w' := by
      rw [hd']
      refine leaves_marks ms' hm hnd hst.sub fun w2 hst2 => ⟨v, ?_, v, _, rfl, hst.trans hst2, hk⟩
      rw [results_env he' hres]
      exact Sem.rdH_run _ hv hst2.sub
    rcases hx with rfl | rfl <;> exact hgoal
end
end Go
