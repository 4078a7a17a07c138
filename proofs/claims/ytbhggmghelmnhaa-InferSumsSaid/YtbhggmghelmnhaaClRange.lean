/- Ranges over functions: the loop, a round, what stands behind it; the call of a loop's own function. -/
import Derived.Test.YtbhggmghelmnhaaClHeap
namespace Go
/-- How many ranges over functions stand in code. -/
def rangeCnt : Code → Nat
  | .seq a b => rangeCnt a + rangeCnt b
  | .cond _ a b => rangeCnt a + rangeCnt b
  | .block _ c => rangeCnt c
  | .loop c => rangeCnt c
  | .scope c => rangeCnt c
  | .rangeFunc _ _ _ _ => 1
  | _ => 0
structure RangeParts where
  ps : Array Tmp
  assign : Code
  body : Code
/-- The k-th of them. -/
def rangeIn : Code → Nat → Option RangeParts
  | .seq a b, k => match Nat.blt k (rangeCnt a) with
    | true => rangeIn a k
    | false => rangeIn b (k - rangeCnt a)
  | .cond _ a b, k => match Nat.blt k (rangeCnt a) with
    | true => rangeIn a k
    | false => rangeIn b (k - rangeCnt a)
  | .block _ c, k => rangeIn c k
  | .loop c, k => rangeIn c k
  | .scope c, k => rangeIn c k
  | .rangeFunc _ ps a b, _ => some ⟨ps, a, b⟩
  | _, _ => none
def rangeAt (P : Program) (f k : Nat) : Option RangeParts :=
  match P.funcs[f]? with
  | some fn => match fn.body with
    | some c => rangeIn c k
    | none => none
  | none => none
/-- What stands behind it. -/
def behind (P : Program) (n : Nat) : Code → Nat → CPost → CPost
  | .seq c d, k, Q => match Nat.blt k (rangeCnt c) with
    | true => behind P n c k (thenP (fun e1 ms1 H1 => nv P n true d e1 ms1 H1 Q) Q)
    | false => behind P n d (k - rangeCnt c) Q
  | .cond _ c d, k, Q => match Nat.blt k (rangeCnt c) with
    | true => behind P n c k Q
    | false => behind P n d (k - rangeCnt c) Q
  | .block id c, k, Q => behind P n c k (blockP id Q)
  | .scope c, k, Q => behind P n c k (scopeP Q)
  | _, _, Q => Q
def behindW (P : Program) (f k : Nat) (K : Value → PHeap → Prop) : CPost :=
  match P.funcs[f]? with
  | some fn => match fn.body with
    | some c => behind P fn.ntmps c k (endP P fn K)
    | none => fun _ _ _ _ => False
  | none => fun _ _ _ _ => False
def ntmpsOf (P : Program) (f : Nat) : Nat :=
  match P.funcs[f]? with
  | some fn => fn.ntmps
  | none => 0
/-- The k-th range over a function of f, over gf. -/
def rangeW (P : Program) (f k : Nat) (gf : FuncId) (first cap : Array Value) (e : CEnv) (ms : List Nat) (H : PHeap) (K : Value → PHeap → Prop) : Prop :=
  match rangeAt P f k with
  | some r => onlyIf (true && entersB P gf) (∀ fn tmps d l, (∀ i v, e i = some v → tmps[i]?.getD undef = v) → tmps.size = ntmpsOf P f → H d = none → H l = none → d ≠ l →
      CallP P gf (first ++ #[.func (.yield l) #[] #[]] ++ cap) ((H.put d (.deferred (some []))).put l (loopObj fn tmps r.ps r.assign r.body d .ready none)) fun _ H2 =>
        ∃ st pend, H2 l = some (loopObj fn tmps r.ps r.assign r.body d st pend) ∧ (st == LoopState.busy) = false ∧ jumpP (behindW P f k K) e (d :: ms) (H2.put l (loopObj fn tmps r.ps r.assign r.body d .exhausted pend)) pend)
  | none => False
/-- .. over a value. -/
def rangeV (P : Program) (f k : Nat) (g : Value) (e : CEnv) (ms : List Nat) (H : PHeap) (K : Value → PHeap → Prop) : Prop :=
  match g with
  | .func (.func gf) first cap => rangeW P f k gf first cap e ms H K
  | _ => False
/-- A round of it. L is the loop's record. -/
def roundW (P : Program) (f k l : Nat) (L : LoopState → Option Code → Obj) (e : CEnv) (H : PHeap) (K : Value → PHeap → Prop) : Prop :=
  match rangeAt P f k with
  | some r => nv P (ntmpsOf P f) false r.assign e [] H fun x e1 ms1 H1 => x = .normal ∧ ms1 = [] ∧ H1 l = some (L .ready none) ∧ nv P (ntmpsOf P f) false r.body e1 [] (H1.put l (L .busy none)) (roundEnd l L K)
  | none => False
def endW (P : Program) (f : Nat) (K : Value → PHeap → Prop) (e : CEnv) (ms : List Nat) (H : PHeap) : Prop :=
  match P.funcs[f]? with
  | some fn => endN P fn K e ms H
  | none => False
/-- The call of a loop's function. -/
def YieldP (P : Program) (l : Nat) (args : Array Value) (H : PHeap) (K : Value → PHeap → Prop) : Prop := (Instr.yield l args).exH P H (nextP P K)

section
variable {P : Program} {H : PHeap}
theorem YieldP.mono {l : Nat} {args : Array Value} {K K' : Value → PHeap → Prop} (h : YieldP P l args H K) (hk : ∀ v H', K v H' → K' v H') : YieldP P l args H K' :=
  Sem.exH_mono (fun _ _ hq => nextP.mono hk hq) _ _ h

theorem yield_run {l : Nat} {fn : FuncId} {tmps : Array Value} {ps : Array Tmp} {assign body : Code} {d : Nat} {st : LoopState} {pend : Option Code} {args : Array Value} {K : Value → PHeap → Prop}
    (hl : H l = some (loopObj fn tmps ps assign body d st pend)) (ha : args.size = ps.size) (h : RoundP P l fn ((ps.zip args).foldl (fun tmps (t, a) => tmps.setIfInBounds t a) tmps) assign body H K) : YieldP P l args H K := by
  unfold YieldP Instr.yield Instr.getLoop
  refine Sem.exH_bind _ _ _ (Sem.exH_bind _ _ _ ⟨_, hl, rfl, ?_⟩)
  have hne : ¬ (args.size ≠ ps.size) := fun h => h ha
  simp only [loopObj]
  show Sem.exH P (if args.size ≠ ps.size then _ else _) H _
  rw [if_neg hne]
  exact h

theorem setW_keep {e : CEnv} {tmps : Array Value} {n : Nat} (hn : tmps.size = n) (he : ∀ i v, e i = some v → tmps[i]?.getD undef = v) :
    ∀ (ps : List Nat) (vs : List Value), ps.length = vs.length → (∀ p ∈ ps, p < n) → ps.Nodup →
      ((ps.zip vs).foldl (fun (tmps : Array Value) (t, a) => tmps.setIfInBounds t a) tmps).size = n ∧
      ∀ i v, setW e ps vs i = some v → ((ps.zip vs).foldl (fun (tmps : Array Value) (t, a) => tmps.setIfInBounds t a) tmps)[i]?.getD undef = v := by
  intro ps
  induction ps generalizing tmps e with
  | nil => intro vs hl _ _; exact ⟨hn, he⟩
  | cons p ps ih =>
    intro vs hl hps hnd
    cases vs with
    | nil => cases hl
    | cons v vs =>
      have hp : p < n := hps p (by simp)
      have hnd' := List.nodup_cons.1 hnd
      have hn' : (tmps.setIfInBounds p v).size = n := by simpa using hn
      have he' : ∀ i u, (e.put (some p) v) i = some u → (tmps.setIfInBounds p v)[i]?.getD undef = u := by
        intro i u hi
        unfold CEnv.put at hi
        by_cases hip : i = p
        · subst hip
          simp at hi
          subst hi
          simp [Array.getElem?_setIfInBounds, hn, hp]
        · have : e i = some u := by simpa [hip] using hi
          have h2 := he i u this
          rw [Array.getElem?_setIfInBounds, if_neg (fun h => hip h.symm)]
          exact h2
      obtain ⟨h1, h2⟩ := ih hn' he' vs (by simpa using hl) (fun q hq => hps q (by simp [hq])) hnd'.2
      refine ⟨h1, fun i u hi => h2 i u ?_⟩
      rw [← hi]
      -- the places differ
      have hcomm : ∀ (ps : List Nat) (vs : List Value) (e : CEnv), p ∉ ps → setW (e.put (some p) v) ps vs = (setW e ps vs).put (some p) v := by
        intro ps
        induction ps with
        | nil => intro vs e _; cases vs <;> rfl
        | cons q ps ih =>
          intro vs e hq
          cases vs with
          | nil => rfl
          | cons u vs =>
            simp only [List.mem_cons, not_or] at hq
            simp only [setW]
            rw [ih vs e hq.2]
            funext j
            unfold CEnv.put
            by_cases h1 : j = p <;> by_cases h2 : j = q <;> simp_all
      rw [hcomm ps vs e hnd'.1]
      rfl

/-- What a loop over a function comes to: the loop's record is L; each of its rounds is its body's. -/
theorem rangeW.intro {f k : Nat} {gf : FuncId} {first cap : Array Value} {e : CEnv} {ms : List Nat} {K : Value → PHeap → Prop} {r : RangeParts} (hr : rangeAt P f k = some r) (hgf : entersB P gf = true)
    (hps : r.ps.toList.all (fun p => Nat.blt p (ntmpsOf P f)) = true) (hnd : r.ps.toList.Nodup)
    (h : ∀ (d l : Nat) (L : LoopState → Option Code → Obj), H d = none → H l = none → d ≠ l →
      (∀ (args : List Value) (H1 : PHeap) (K1 : Value → PHeap → Prop), args.length = r.ps.size → H1 l = some (L .ready none) → roundW P f k l L (setW e r.ps.toList args) H1 K1 → YieldP P l args.toArray H1 K1) →
      CallP P gf (first ++ #[.func (.yield l) #[] #[]] ++ cap) ((H.put d (.deferred (some []))).put l (L .ready none)) fun _ H2 =>
        (H2 l = some (L .ready none) ∧ behindW P f k K .normal e (d :: ms) (H2.put l (L .exhausted none))) ∨
        (H2 l = some (L .done (some .ret)) ∧ behindW P f k K .ret e (d :: ms) (H2.put l (L .exhausted (some .ret)))) ∨
        ∃ id, H2 l = some (L .done (some (.exit id))) ∧ behindW P f k K (.exit id) e (d :: ms) (H2.put l (L .exhausted (some (.exit id))))) : rangeW P f k gf first cap e ms H K := by
  unfold rangeW
  rw [hr]
  refine onlyIf_intro (by rw [hgf]; rfl) fun fn tmps d l he hn hd hl hdl => ?_
  refine CallP.mono (h d l (loopObj fn tmps r.ps r.assign r.body d) hd hl hdl ?_) ?_
  · intro args H1 K1 ha hl1 hround
    unfold roundW at hround
    rw [hr] at hround
    have hk := setW_keep (e := e) hn he r.ps.toList args (by simpa using ha.symm) (fun p hp => by
      have := List.all_eq_true.1 hps p hp
      exact Nat.le_of_ble_eq_true this) hnd
    have hfold : (r.ps.zip args.toArray).foldl (fun (tmps : Array Value) (x : Tmp × Value) => tmps.setIfInBounds x.1 x.2) tmps = (r.ps.toList.zip args).foldl (fun (tmps : Array Value) (x : Tmp × Value) => tmps.setIfInBounds x.1 x.2) tmps := by
      rw [← Array.foldl_toList]; simp
    refine yield_run hl1 (by simpa using ha) ?_
    have hro : RoundP P l fn ((r.ps.toList.zip args).foldl (fun (tmps : Array Value) (x : Tmp × Value) => tmps.setIfInBounds x.1 x.2) tmps) r.assign r.body H1 K1 := RoundP.of_nv hl1 hk.2 hk.1 hround
    rw [← hfold] at hro
    exact hro
  · rintro v H2 (⟨h1, h2⟩ | ⟨h1, h2⟩ | ⟨id, h1, h2⟩)
    · exact ⟨_, _, h1, rfl, h2⟩
    · exact ⟨_, _, h1, rfl, h2⟩
    · exact ⟨_, _, h1, rfl, h2⟩

/-- .. by what can be asked of the program. -/
def rangeOk (P : Program) (f k : Nat) (ps : List Nat) : Bool :=
  match rangeAt P f k with
  | some r => r.ps.toList == ps && ps.all (fun p => Nat.blt p (ntmpsOf P f)) && decide ps.Nodup
  | none => false
theorem rangeV.intro {f k : Nat} {gf : FuncId} {first cap : Array Value} {e : CEnv} {ms : List Nat} {K : Value → PHeap → Prop} {ps : List Nat} (hr : rangeOk P f k ps = true) (hgf : entersB P gf = true)
    (h : ∀ (d l : Nat) (L : LoopState → Option Code → Obj), H d = none → H l = none → d ≠ l →
      (∀ (args : List Value) (H1 : PHeap) (K1 : Value → PHeap → Prop), args.length = ps.length → H1 l = some (L .ready none) → roundW P f k l L (setW e ps args) H1 K1 → YieldP P l args.toArray H1 K1) →
      CallP P gf (first ++ #[.func (.yield l) #[] #[]] ++ cap) ((H.put d (.deferred (some []))).put l (L .ready none)) fun _ H2 =>
        (H2 l = some (L .ready none) ∧ behindW P f k K .normal e (d :: ms) (H2.put l (L .exhausted none))) ∨
        (H2 l = some (L .done (some .ret)) ∧ behindW P f k K .ret e (d :: ms) (H2.put l (L .exhausted (some .ret)))) ∨
        ∃ id, H2 l = some (L .done (some (.exit id))) ∧ behindW P f k K (.exit id) e (d :: ms) (H2.put l (L .exhausted (some (.exit id))))) : rangeV P f k (.func (.func gf) first cap) e ms H K := by
  unfold rangeOk at hr
  split at hr
  · rename_i r hra
    simp only [Bool.and_eq_true, decide_eq_true_eq] at hr
    obtain ⟨⟨h1, h2⟩, h3⟩ := hr
    have h1' : r.ps.toList = ps := eq_of_beq h1
    subst h1'
    refine rangeW.intro hra hgf h2 h3 fun d l L hd hl hdl hY => h d l L hd hl hdl fun args H1 K1 ha => hY args H1 K1 (by simpa using ha)
  · cases hr
def resultsAt (P : Program) (f : Nat) : Option (List ResultVar) := (P.funcs[f]?).map fun fn => fn.results.toList

/-- Results that lie in variables. -/
def resL (P : Program) (H : PHeap) (e : CEnv) : List ResultVar → List Value → Prop
  | [], [] => True
  | .tmp t :: l, v :: vs => e t = some v ∧ resL P H e l vs
  | .cell a t :: l, v :: vs => (∃ p, e a = some p ∧ ldAt P H t p v) ∧ resL P H e l vs
  | _, _ => False
theorem resL_at {e : CEnv} : ∀ {l : List ResultVar} {vs : List Value}, resL P H e l vs → ∀ y ∈ l, (e y.at).isSome = true
  | [], _, _, y, hy => by cases hy
  | .tmp t :: l, [], h, _, _ => h.elim
  | .cell a t :: l, [], h, _, _ => h.elim
  | .tmp t :: l, v :: vs, h, y, hy => by
    rcases List.mem_cons.1 hy with rfl | hy
    · simp [ResultVar.at, h.1]
    · exact resL_at h.2 y hy
  | .cell a t :: l, v :: vs, h, y, hy => by
    obtain ⟨⟨p, h1, _⟩, h2⟩ := h
    rcases List.mem_cons.1 hy with rfl | hy
    · simp [ResultVar.at, h1]
    · exact resL_at h2 y hy
theorem resL_spec {e : CEnv} {f : ResultVar → Sem Value} (hf : ∀ x, f x = resOne (fun t => (e t).getD undef) x) : ∀ {l : List ResultVar} {vs : List Value}, resL P H e l vs → (l.mapM f).rdH P H = some vs
  | [], [], _ => rfl
  | [], _ :: _, h => h.elim
  | .tmp t :: l, [], h => h.elim
  | .cell a t :: l, [], h => h.elim
  | .tmp t :: l, v :: vs, h => by
    have ih := resL_spec hf h.2
    rw [List.mapM_cons, hf]
    simp only [rdH_bind, resOne, rdH_pure, Option.bind_some, h.1, Option.getD_some, ih]
  | .cell a t :: l, v :: vs, h => by
    obtain ⟨⟨p, h1, h3⟩, h2⟩ := h
    have ih := resL_spec hf h2
    have hp : ∃ q, p = .pointer (some q) := by
      unfold ldAt at h3
      split at h3
      · exact ⟨_, rfl⟩
      · exact ⟨_, rfl⟩
      · exact h3.elim
    obtain ⟨q, rfl⟩ := hp
    have hl := rdH_loadVar h3
    unfold Instr.loadAt at hl
    rw [List.mapM_cons, hf]
    have hl2 : (resOne (fun t => (e t).getD undef) (.cell a t)).rdH P H = some v := by
      unfold resOne
      simp only [h1, Option.getD_some]
      exact hl
    simp only [rdH_bind, hl2, Option.bind_some, ih, rdH_pure]
theorem endW_intro {f : Nat} {fn : Func} {K : Value → PHeap → Prop} {e : CEnv} {ms : List Nat} {vs : List Value} (hfn : P.funcs[f]? = some fn) (hcell : ms ≠ [] ∨ resVals e fn.results.toList = none) (hres : resL P (H.drop ms) e fn.results.toList vs)
    (hms : ∀ m ∈ ms, H m = some (.deferred (some []))) (hnd : ms.Nodup) (hv : K (if h : vs.toArray.size = 1 then vs.toArray[0] else .tuple vs.toArray) (H.drop ms)) : endW P f K e ms H := by
  unfold endW
  rw [hfn]
  show endN P fn K e ms H
  suffices hs : (∀ y ∈ fn.results, (e y.at).isSome = true) ∧ (∀ d ∈ ms, ∃ x, H d = some (.deferred (some x)) ∧ x = []) ∧ ms.Nodup ∧
      ∃ v, (resSem fn fun t => (e t).getD undef).rdH P (H.drop ms) = some v ∧ K v (H.drop ms) by
    unfold endN
    split
    · rename_i h1 h2
      rcases hcell with h | h
      · exact absurd rfl h
      · rw [h] at h2; cases h2
    · rename_i h1 h2
      rcases hcell with h | h
      · exact absurd rfl h
      · rw [h] at h2; cases h2
    · exact hs
  refine ⟨fun y hy => resL_at hres y (by simpa using hy), fun m hm => ⟨[], hms m hm, rfl⟩, hnd, _, ?_, hv⟩
  unfold resSem
  rw [Array.mapM_eq_mapM_toList]
  simp only [rdH_bind, rdH_map]
  rw [resL_spec (e := e) (fun x => by cases x <;> rfl) hres]
  rfl
theorem endW_cells {f : Nat} {K : Value → PHeap → Prop} {e : CEnv} {ms : List Nat} {rs : List ResultVar} {vs : List Value} (hr : resultsAt P f = some rs) (hcell : ms ≠ [] ∨ resVals e rs = none) (hres : resL P (H.drop ms) e rs vs)
    (hms : ∀ m ∈ ms, H m = some (.deferred (some []))) (hnd : ms.Nodup) (hv : K (if h : vs.toArray.size = 1 then vs.toArray[0] else .tuple vs.toArray) (H.drop ms)) : endW P f K e ms H := by
  unfold resultsAt at hr
  cases hf : P.funcs[f]? with
  | none => rw [hf] at hr; cases hr
  | some fn =>
    rw [hf] at hr
    simp only [Option.map_some, Option.some.injEq] at hr
    subst hr
    exact endW_intro hf hcell hres hms hnd hv
theorem ldAt_one {t : TypeId} {p : Addr} {v : Value} (ht : isAggT P t = some false) (hc : H.cell? p = some v) : ldAt P H t (.pointer (some p)) v := by
  unfold ldAt
  rw [ht]
  exact hc
theorem drop_other {i d : Nat} (h : i ≠ d) : H.drop [d] i = H i := by simp [PHeap.drop, h]
theorem drop_cell {p : Addr} {d : Nat} (h : p.block ≠ d) : (H.drop [d]).cell? p = H.cell? p := by unfold PHeap.cell?; rw [drop_other h]
theorem put_cell {p : Addr} {i : Nat} {o : Obj} (h : p.block ≠ i) : (H.put i o).cell? p = H.cell? p := by unfold PHeap.cell?; rw [PHeap.put_other _ _ h]
end
end Go
