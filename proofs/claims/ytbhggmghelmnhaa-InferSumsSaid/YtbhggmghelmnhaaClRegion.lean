/- The logic's regions: a region's operations over a partial heap, and that a region that draws its order may be run in the order of the text. -/
import Derived.Test.YtbhggmghelmnhaaClBase
import Derived.OrdersIn
namespace Go

/-! ### Readers -/
def Sem.rdH {α : Type} (P : Program) : Sem α → PHeap → Option α
  | .pure a, _ => some a
  | .load _ a k, H => match H.cell? a with
    | some v => (k v).rdH P H
    | none => none
  | .shape r k, H => match H r with
    | some o => (k o.shapeOf).rdH P H
    | none => none
  | .frozen a k, H => match H a.block with
    | some o => (k (o.frozenAt a.off)).rdH P H
    | none => none
  | .getObj r k, H => match H r with
    | some o => if o.isRow then none else (k o).rdH P H
    | none => none
  | .program k, H => (k P).rdH P H
  | .mark _ k, H => k.rdH P H
  | _, _ => none

def PHeap.le (H H' : PHeap) : Prop := ∀ b o, H b = some o → H' b = some o
theorem PHeap.le.refl (H : PHeap) : H.le H := fun _ _ h => h
theorem PHeap.le.trans {H H' H'' : PHeap} (h : H.le H') (k : H'.le H'') : H.le H'' := fun b o hb => k b o (h b o hb)
theorem PHeap.le_put {H : PHeap} {b : Nat} (o : Obj) (hb : H b = none) : H.le (H.put b o) := fun i o' hi => by
  rw [PHeap.put_other _ _ (fun e => by rw [e, hb] at hi; cases hi)]; exact hi
theorem PHeap.le.cell {H H' : PHeap} (h : H.le H') {a : Addr} {v : Value} (hv : H.cell? a = some v) : H'.cell? a = some v := by
  unfold PHeap.cell? at hv ⊢
  cases hH : H a.block with
  | none => simp [hH] at hv
  | some o => rw [h _ _ hH]; rw [hH] at hv; exact hv

theorem Sem.rdH_le {α : Type} {P : Program} {H H' : PHeap} (hl : H.le H') : ∀ (s : Sem α) {a : α}, s.rdH P H = some a → s.rdH P H' = some a := by
  intro s
  induction s with
  | pure a => exact fun h => h
  | load m a k ih =>
    intro x h
    simp only [rdH] at h ⊢
    cases hc : H.cell? a with
    | none => rw [hc] at h; cases h
    | some v => rw [hc] at h; rw [hl.cell hc]; exact ih _ h
  | shape r k ih =>
    intro x h
    simp only [rdH] at h ⊢
    cases hc : H r with
    | none => rw [hc] at h; cases h
    | some v => rw [hc] at h; rw [hl _ _ hc]; exact ih _ h
  | frozen a k ih =>
    intro x h
    simp only [rdH] at h ⊢
    cases hc : H a.block with
    | none => rw [hc] at h; cases h
    | some v => rw [hc] at h; rw [hl _ _ hc]; exact ih _ h
  | getObj r k ih =>
    intro x h
    simp only [rdH] at h ⊢
    cases hc : H r with
    | none => rw [hc] at h; cases h
    | some v =>
      rw [hc] at h; rw [hl _ _ hc]
      dsimp only at h ⊢
      by_cases hr : v.isRow = true
      · rw [if_pos hr] at h; cases h
      · rw [if_neg hr] at h; rw [if_neg hr]; exact ih _ h
  | program k ih => exact fun h => ih _ h
  | mark m k ih => exact fun h => ih h
  | store => exact fun h => by cases h
  | new => exact fun h => by cases h
  | freeze => exact fun h => by cases h
  | setObj => exact fun h => by cases h
  | choose => exact fun h => by cases h
  | sys => exact fun h => by cases h
  | halt => exact fun h => by cases h

theorem PHeap.cell?_put_none {H : PHeap} {a : Addr} (hc : H.cell? a = none) {b : Nat} (ob : Obj) (hb : b ≠ a.block) : (H.put b ob).cell? a = none := by
  unfold PHeap.cell? at hc ⊢
  rw [PHeap.put_other _ _ (fun e => hb e.symm)]
  exact hc

/-- A reader that fails fails too where a block has come that it would not have met. -/
theorem Sem.rdH_anti {α : Type} {P : Program} {H : PHeap} : ∀ (s : Sem α), s.rdH P H = none → ∃ r, ∀ b ob, b ≠ r → H b = none → s.rdH P (H.put b ob) = none := by
  intro s
  induction s with
  | pure a => exact fun h => by cases h
  | load m a k ih =>
    intro h
    simp only [rdH] at h ⊢
    cases hc : H.cell? a with
    | none => exact ⟨a.block, fun b ob hb _ => by rw [PHeap.cell?_put_none hc ob hb]⟩
    | some v =>
      rw [hc] at h
      obtain ⟨r, hr⟩ := ih v h
      exact ⟨r, fun b ob hb hn => by rw [(PHeap.le_put ob hn).cell hc]; exact hr b ob hb hn⟩
  | shape r k ih =>
    intro h
    simp only [rdH] at h ⊢
    cases hc : H r with
    | none => exact ⟨r, fun b ob hb _ => by rw [PHeap.put_other _ _ (fun e => hb e.symm), hc]⟩
    | some v =>
      rw [hc] at h
      obtain ⟨q, hq⟩ := ih _ h
      exact ⟨q, fun b ob hb hn => by rw [PHeap.le_put ob hn _ _ hc]; exact hq b ob hb hn⟩
  | frozen a k ih =>
    intro h
    simp only [rdH] at h ⊢
    cases hc : H a.block with
    | none => exact ⟨a.block, fun b ob hb _ => by rw [PHeap.put_other _ _ (fun e => hb e.symm), hc]⟩
    | some v =>
      rw [hc] at h
      obtain ⟨q, hq⟩ := ih _ h
      exact ⟨q, fun b ob hb hn => by rw [PHeap.le_put ob hn _ _ hc]; exact hq b ob hb hn⟩
  | getObj r k ih =>
    intro h
    simp only [rdH] at h ⊢
    cases hc : H r with
    | none => exact ⟨r, fun b ob hb _ => by rw [PHeap.put_other _ _ (fun e => hb e.symm), hc]⟩
    | some v =>
      rw [hc] at h
      dsimp only at h
      by_cases hr : v.isRow = true
      · exact ⟨0, fun b ob _ hn => by rw [PHeap.le_put ob hn _ _ hc]; dsimp only; rw [if_pos hr]⟩
      · rw [if_neg hr] at h
        obtain ⟨q, hq⟩ := ih _ h
        exact ⟨q, fun b ob hb hn => by rw [PHeap.le_put ob hn _ _ hc]; dsimp only; rw [if_neg hr]; exact hq b ob hb hn⟩
  | program k ih => exact fun h => ih _ h
  | mark m k ih => exact fun h => ih h
  | store => exact fun _ => ⟨0, fun _ _ _ _ => rfl⟩
  | new => exact fun _ => ⟨0, fun _ _ _ _ => rfl⟩
  | freeze => exact fun _ => ⟨0, fun _ _ _ _ => rfl⟩
  | setObj => exact fun _ => ⟨0, fun _ _ _ _ => rfl⟩
  | choose => exact fun _ => ⟨0, fun _ _ _ _ => rfl⟩
  | sys => exact fun _ => ⟨0, fun _ _ _ _ => rfl⟩
  | halt => exact fun _ => ⟨0, fun _ _ _ _ => rfl⟩

theorem Sem.rdH_exH {α : Type} {P : Program} {H : PHeap} {Q : α → PHeap → Prop} : ∀ (s : Sem α) {a : α}, s.rdH P H = some a → Q a H → s.exH P H Q := by
  intro s
  induction s with
  | pure a => intro x h hq; cases h; exact hq
  | load m a k ih =>
    intro x h hq
    simp only [rdH] at h
    cases hc : H.cell? a with
    | none => rw [hc] at h; cases h
    | some v => rw [hc] at h; exact ⟨v, hc, ih _ h hq⟩
  | shape r k ih =>
    intro x h hq
    simp only [rdH] at h
    cases hc : H r with
    | none => rw [hc] at h; cases h
    | some v => rw [hc] at h; exact ⟨v, hc, ih _ h hq⟩
  | frozen a k ih =>
    intro x h hq
    simp only [rdH] at h
    cases hc : H a.block with
    | none => rw [hc] at h; cases h
    | some v => rw [hc] at h; exact ⟨v, hc, ih _ h hq⟩
  | getObj r k ih =>
    intro x h hq
    simp only [rdH] at h
    cases hc : H r with
    | none => rw [hc] at h; cases h
    | some v =>
      rw [hc] at h
      dsimp only at h
      by_cases hr : v.isRow = true
      · rw [if_pos hr] at h; cases h
      · rw [if_neg hr] at h; exact ⟨v, hc, by simpa using hr, ih _ h hq⟩
  | program k ih => exact fun h hq => ih _ h hq
  | mark m k ih => exact fun h hq => ih h hq
  | store => exact fun h => by cases h
  | new => exact fun h => by cases h
  | freeze => exact fun h => by cases h
  | setObj => exact fun h => by cases h
  | choose => exact fun h => by cases h
  | sys => exact fun h => by cases h
  | halt => exact fun h => by cases h

/-! ### What lays one block and reads nothing -/
def Sem.pureOf {α : Type} : Sem α → Option α
  | .pure a => some a
  | _ => none
def Sem.alH {α : Type} (P : Program) : Sem α → Option (Obj × (Nat → Option α))
  | .new o k => some (o, fun b => (k b).pureOf)
  | .program k => (k P).alH P
  | .mark _ k => k.alH P
  | _ => none

theorem Sem.pureOf_eq {α : Type} {s : Sem α} {a : α} (h : s.pureOf = some a) : s = .pure a := by
  cases s <;> simp_all [pureOf]

theorem Sem.alH_exH {α : Type} {P : Program} {H : PHeap} {Q : α → PHeap → Prop} : ∀ (s : Sem α) {o : Obj} {f : Nat → Option α}, s.alH P = some (o, f) →
    (∀ b, H b = none → ∃ a, f b = some a ∧ Q a (H.put b o)) → s.exH P H Q := by
  intro s
  induction s with
  | new o k ih =>
    intro o' f h hq b hb
    simp only [alH, Option.some.injEq, Prod.mk.injEq] at h
    obtain ⟨rfl, rfl⟩ := h
    obtain ⟨a, ha, hqa⟩ := hq b hb
    rw [pureOf_eq ha]
    exact hqa
  | program k ih => exact fun h hq => ih _ h hq
  | mark m k ih => exact fun h hq => ih h hq
  | pure => exact fun h => by cases h
  | load => exact fun h => by cases h
  | store => exact fun h => by cases h
  | shape => exact fun h => by cases h
  | freeze => exact fun h => by cases h
  | frozen => exact fun h => by cases h
  | getObj => exact fun h => by cases h
  | setObj => exact fun h => by cases h
  | choose => exact fun h => by cases h
  | sys => exact fun h => by cases h
  | halt => exact fun h => by cases h

/-! ### A block that is not known is not touched -/
theorem PHeap.put_comm (H : PHeap) {b c : Nat} (o p : Obj) (h : b ≠ c) : (H.put b o).put c p = (H.put c p).put b o := by
  funext i
  simp only [PHeap.put]
  by_cases h1 : i = c
  · by_cases h2 : i = b
    · exact absurd (h2.symm.trans h1) h
    · simp [h1]; intro e; exact absurd e.symm h
  · simp [h1]

theorem Sem.exH_frame {α : Type} {P : Program} {b : Nat} {o : Obj} : ∀ (s : Sem α) (H : PHeap) (Q : α → PHeap → Prop), s.exH P H Q → H b = none →
    s.exH P (H.put b o) (fun a H2 => ∃ H1, H2 = PHeap.put H1 b o ∧ H1 b = none ∧ Q a H1) := by
  intro s
  induction s with
  | pure a => exact fun H Q h hb => ⟨H, rfl, hb, h⟩
  | load m a k ih => exact fun H Q ⟨v, h1, h2⟩ hb => ⟨v, (PHeap.le_put o hb).cell h1, ih _ _ _ h2 hb⟩
  | store m a v k ih =>
    intro H Q ⟨h1, h2, h3, h4⟩ hb
    obtain ⟨u, hu⟩ := Option.isSome_iff_exists.1 h2
    have hne : a.block ≠ b := by intro e; rw [PHeap.cell?, e, hb] at hu; cases hu
    refine ⟨h1, by rw [(PHeap.le_put o hb).cell hu]; rfl, by unfold PHeap.frozen? at h3 ⊢; rw [PHeap.put_other _ _ hne]; exact h3, ?_⟩
    have he : (H.put b o).setCell a v = (H.setCell a v).put b o := by
      funext i
      simp only [PHeap.setCell, PHeap.put]
      by_cases h1 : i = a.block
      · subst h1; simp [hne]
      · simp [h1]
    rw [he]
    exact ih _ _ h4 (by simp [PHeap.setCell, hb])
  | new o' k ih =>
    intro H Q h hb c hc
    have hcb : c ≠ b := by intro e; rw [e, PHeap.put_same] at hc; cases hc
    rw [PHeap.put_other _ _ hcb] at hc
    rw [PHeap.put_comm _ _ _ (fun e => hcb e.symm)]
    exact ih _ _ _ (h c hc) (by rw [PHeap.put_other _ _ (fun e => hcb e.symm)]; exact hb)
  | shape r k ih => exact fun H Q ⟨v, h1, h2⟩ hb => ⟨v, PHeap.le_put o hb _ _ h1, ih _ _ _ h2 hb⟩
  | freeze => exact fun H Q h _ => h
  | frozen a k ih => exact fun H Q ⟨v, h1, h2⟩ hb => ⟨v, PHeap.le_put o hb _ _ h1, ih _ _ _ h2 hb⟩
  | getObj r k ih => exact fun H Q ⟨v, h1, h2, h3⟩ hb => ⟨v, PHeap.le_put o hb _ _ h1, h2, ih _ _ _ h3 hb⟩
  | setObj r o' k ih =>
    intro H Q ⟨v, h1, h2, h3⟩ hb
    have hne : r ≠ b := by intro e; rw [e, hb] at h1; cases h1
    refine ⟨v, PHeap.le_put o hb _ _ h1, h2, ?_⟩
    rw [PHeap.put_comm _ _ _ (fun e => hne e.symm)]
    exact ih _ _ h3 (by rw [PHeap.put_other _ _ (fun e => hne e.symm)]; exact hb)
  | choose q k ih =>
    intro H Q h hb
    simp only [exH] at h ⊢
    split
    · rename_i hf; rw [if_pos hf] at h; exact ih _ _ _ h hb
    · rename_i hf; rw [if_neg hf] at h; exact fun t => ih _ _ _ (h t) hb
  | sys => exact fun H Q h _ => h
  | program k ih => exact fun H Q h hb => ih _ _ _ h hb
  | mark m k ih => exact fun H Q h hb => ih _ _ h hb
  | halt => exact fun H Q h _ => h

/-! ### Calls, and rounds -/
def fw (r : Option Nat) : Fence := { Fence.wide with round := r }

/-- The call returns, over H and whatever lies beside it. -/
def CallP (P : Program) (f : FuncId) (args : Array Value) (H : PHeap) (K : Value → PHeap → Prop) : Prop :=
  ∀ w, H.sub w → Calls P f args w fun e w' => ∃ v H', e = .returned v ∧ PStep H H' w w' ∧ K v H'
def RoundP (P : Program) (l : Nat) (f : FuncId) (tmps : Array Value) (assign body : Code) (H : PHeap) (K : Value → PHeap → Prop) : Prop :=
  ∀ r w, H.sub w → RoundIn (fw r) 0 P l f tmps assign body w fun e w' => ∃ v H', e = .returned v ∧ PStep H H' w w' ∧ K v H'

theorem PHeap.sub_of_put {H : PHeap} {b : Nat} {o : Obj} {w : World} (h : (H.put b o).sub w) (hb : H b = none) : H.sub w := fun i o' hi => h i o' (PHeap.le_put o hb i o' hi)

theorem PStep.frame {H H' : PHeap} {w w' : World} {b : Nat} {o : Obj} (h : PStep H H' w w') (hs : (H.put b o).sub w) (hb : H b = none) : PStep (H.put b o) (H'.put b o) w w' ∧ H' b = none := by
  have hl : b < w.heap.size := hs.lt (PHeap.put_same H b o)
  have ⟨k1, k2⟩ := h.keep b hl hb
  refine ⟨⟨?_, h.os, h.tape, h.output, h.size, ?_⟩, k2⟩
  · intro i o' hi
    by_cases hib : i = b
    · subst hib; rw [PHeap.put_same] at hi; cases hi; rw [k1]; exact hs _ _ (PHeap.put_same _ _ _)
    · rw [PHeap.put_other _ _ hib] at hi; exact h.sub i o' hi
  · intro i hi hn
    have hib : i ≠ b := by intro e; rw [e, PHeap.put_same] at hn; cases hn
    rw [PHeap.put_other _ _ hib] at hn ⊢
    exact h.keep i hi hn

theorem CallP.mono {P : Program} {f : FuncId} {args : Array Value} {H : PHeap} {K K' : Value → PHeap → Prop} (h : CallP P f args H K) (hk : ∀ v H', K v H' → K' v H') : CallP P f args H K' :=
  fun w hw => (h w hw).mono fun _ _ ⟨v, H', e, hs, hk'⟩ => ⟨v, H', e, hs, hk _ _ hk'⟩
theorem RoundP.mono {P : Program} {l : Nat} {f : FuncId} {tmps : Array Value} {assign body : Code} {H : PHeap} {K K' : Value → PHeap → Prop} (h : RoundP P l f tmps assign body H K) (hk : ∀ v H', K v H' → K' v H') :
    RoundP P l f tmps assign body H K' :=
  fun r w hw => (h r w hw).mono fun _ _ ⟨v, H', e, hs, hk'⟩ => ⟨v, H', e, hs, hk _ _ hk'⟩
theorem CallP.frame {P : Program} {f : FuncId} {args : Array Value} {H : PHeap} {K : Value → PHeap → Prop} (h : CallP P f args H K) {b : Nat} (o : Obj) (hb : H b = none) :
    CallP P f args (H.put b o) fun v H2 => ∃ H1, H2 = PHeap.put H1 b o ∧ H1 b = none ∧ K v H1 :=
  fun w hw => (h w (PHeap.sub_of_put hw hb)).mono fun _ _ ⟨v, H', e, hs, hk'⟩ =>
    have ⟨h1, h2⟩ := hs.frame hw hb
    ⟨v, _, e, h1, H', rfl, h2, hk'⟩
theorem RoundP.frame {P : Program} {l : Nat} {f : FuncId} {tmps : Array Value} {assign body : Code} {H : PHeap} {K : Value → PHeap → Prop} (h : RoundP P l f tmps assign body H K) {b : Nat} (o : Obj) (hb : H b = none) :
    RoundP P l f tmps assign body (H.put b o) fun v H2 => ∃ H1, H2 = PHeap.put H1 b o ∧ H1 b = none ∧ K v H1 :=
  fun r w hw => (h r w (PHeap.sub_of_put hw hb)).mono fun _ _ ⟨v, H', e, hs, hk'⟩ =>
    have ⟨h1, h2⟩ := hs.frame hw hb
    ⟨v, _, e, h1, H', rfl, h2, hk'⟩
theorem CallP.out {P : Program} {f : FuncId} {args : Array Value} {H : PHeap} {K : Value → PHeap → Prop} (h : CallP P f args H K) {w : World} (hw : H.sub w) : ∃ v H', K v H' :=
  let ⟨_, _, _, ⟨v, H', _, _, hk⟩, _⟩ := h w hw []
  ⟨v, H', hk⟩
theorem RoundP.out {P : Program} {l : Nat} {f : FuncId} {tmps : Array Value} {assign body : Code} {H : PHeap} {K : Value → PHeap → Prop} (h : RoundP P l f tmps assign body H K) {w : World} (hw : H.sub w) : ∃ v H', K v H' :=
  let ⟨_, _, ⟨v, H', _, _, hk⟩, _⟩ := (h none w hw).2 default [] (fun _ h => by cases h)
  ⟨v, H', hk⟩

/-- What an operation leads to. -/
def nextP (P : Program) (K : Value → PHeap → Prop) : Next → PHeap → Prop
  | .value v, H => K v H
  | .skip, H => K undef H
  | .enter f args, H => CallP P f args H K
  | .round l f tmps assign body, H => RoundP P l f tmps assign body H K
  | _, _ => False

theorem nextP.mono {P : Program} {K K' : Value → PHeap → Prop} (hk : ∀ v H', K v H' → K' v H') : ∀ {x : Next} {H : PHeap}, nextP P K x H → nextP P K' x H
  | .value _, _, h => hk _ _ h
  | .skip, _, h => hk _ _ h
  | .enter _ _, _, h => CallP.mono h hk
  | .round _ _ _ _ _, _, h => RoundP.mono h hk
  | .defer _, _, h => h
  | .recover, _, h => h
  | .spawn _, _, h => h
  | .comm _ _ _, _, h => h
  | .numGoroutine, _, h => h
  | .collect, _, h => h
  | .watch _, _, h => h
  | .newcoro _ _, _, h => h
  | .coroswitch _ _, _, h => h
  | .sleep _, _, h => h
  | .timer _, _, h => h
  | .alone _ _, _, h => h
  | .callThen _ _ _ _, _, h => h
  | .row _ _, _, h => h
  | .stack _ _, _, h => h

theorem nextP.frame {P : Program} {K : Value → PHeap → Prop} {b : Nat} (o : Obj) : ∀ {x : Next} {H : PHeap}, nextP P K x H → H b = none →
    nextP P (fun v H2 => ∃ H1, H2 = PHeap.put H1 b o ∧ H1 b = none ∧ K v H1) x (H.put b o)
  | .value _, H, h, hb => ⟨H, rfl, hb, h⟩
  | .skip, H, h, hb => ⟨H, rfl, hb, h⟩
  | .enter _ _, _, h, hb => CallP.frame h o hb
  | .round _ _ _ _ _, _, h, hb => RoundP.frame h o hb
  | .defer _, _, h, _ => h.elim
  | .recover, _, h, _ => h.elim
  | .spawn _, _, h, _ => h.elim
  | .comm _ _ _, _, h, _ => h.elim
  | .numGoroutine, _, h, _ => h.elim
  | .collect, _, h, _ => h.elim
  | .watch _, _, h, _ => h.elim
  | .newcoro _ _, _, h, _ => h.elim
  | .coroswitch _ _, _, h, _ => h.elim
  | .sleep _, _, h, _ => h.elim
  | .timer _, _, h, _ => h.elim
  | .alone _ _, _, h, _ => h.elim
  | .callThen _ _ _ _, _, h, _ => h.elim
  | .row _ _, _, h, _ => h.elim
  | .stack _ _, _, h, _ => h.elim

theorem nextP.out {P : Program} {K : Value → PHeap → Prop} {w : World} : ∀ {x : Next} {H : PHeap}, nextP P K x H → H.sub w → ∃ v H', K v H'
  | .value v, H, h, _ => ⟨v, H, h⟩
  | .skip, H, h, _ => ⟨_, H, h⟩
  | .enter _ _, _, h, hw => CallP.out h hw
  | .round _ _ _ _ _, _, h, hw => RoundP.out h hw
  | .defer _, _, h, _ => h.elim
  | .recover, _, h, _ => h.elim
  | .spawn _, _, h, _ => h.elim
  | .comm _ _ _, _, h, _ => h.elim
  | .numGoroutine, _, h, _ => h.elim
  | .collect, _, h, _ => h.elim
  | .watch _, _, h, _ => h.elim
  | .newcoro _ _, _, h, _ => h.elim
  | .coroswitch _ _, _, h, _ => h.elim
  | .sleep _, _, h, _ => h.elim
  | .timer _, _, h, _ => h.elim
  | .alone _ _, _, h, _ => h.elim
  | .callThen _ _ _ _, _, h, _ => h.elim
  | .row _ _, _, h, _ => h.elim
  | .stack _ _, _, h, _ => h.elim

theorem Sem.exH_out {P : Program} {K : Value → PHeap → Prop} {s : Sem Next} {H : PHeap} (h : s.exH P H (nextP P K)) {w : World} (hw : H.sub w) : ∃ v H', K v H' :=
  let ⟨_, _, _, _, hst, hq⟩ := Sem.exH_run s H _ w h hw
  nextP.out hq hst.sub
end Go
