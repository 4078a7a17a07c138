/- The logic's ground: partial heaps, and what a piece of the model's own operations does over such a heap, whatever the world around it holds. -/
import Derived.RangeFuncIn
import Derived.RangeFuncCalls
import Derived.RangeFuncLeaves
namespace Go
/-- A partial heap: what is known of some blocks. -/
abbrev PHeap := Nat → Option Obj

namespace PHeap
def cell? (H : PHeap) (a : Addr) : Option Value :=
  match H a.block with
  | some (.cells c _ _) => if a.spot.isSome then none else c[a.off]?
  | _ => none
def frozen? (H : PHeap) (a : Addr) : Bool :=
  match H a.block with
  | some (.cells _ _ (lo, hi)) => lo ≤ a.off && a.off < hi
  | _ => true
def put (H : PHeap) (b : Nat) (o : Obj) : PHeap := fun i => if i = b then some o else H i
def setObj (o : Obj) (a : Addr) (v : Value) : Obj :=
  match o with
  | .cells c elem fr => .cells (if a.spot.isSome then c else c.setIfInBounds a.off v) elem fr
  | o => o
def setCell (H : PHeap) (a : Addr) (v : Value) : PHeap := fun i => if i = a.block then (H i).map (setObj · a v) else H i
/-- H tells the truth about w. -/
def sub (H : PHeap) (w : World) : Prop := ∀ b o, H b = some o → w.heap[b]? = some o

theorem sub.none_of_ge {H : PHeap} {w : World} (h : H.sub w) {b : Nat} (hb : w.heap.size ≤ b) : H b = none := by
  cases hH : H b with
  | none => rfl
  | some o => have := h b o hH; rw [Array.getElem?_eq_none hb] at this; cases this
theorem sub.lt {H : PHeap} {w : World} (h : H.sub w) {b : Nat} {o : Obj} (hb : H b = some o) : b < w.heap.size := by
  have := h b o hb
  exact (Array.getElem?_eq_some_iff.1 this).1
@[simp] theorem put_same (H : PHeap) (b : Nat) (o : Obj) : H.put b o b = some o := by simp [put]
theorem put_other (H : PHeap) {b i : Nat} (o : Obj) (h : i ≠ b) : H.put b o i = H i := by simp [put, h]
end PHeap

/-- What a step from w to w' over the heap H leaves: H' holds; whatever lay outside H lies as it lay. -/
structure PStep (H H' : PHeap) (w w' : World) : Prop where
  sub : H'.sub w'
  os : w'.os = w.os
  tape : w'.tape = w.tape
  output : w'.output = w.output
  size : w.heap.size ≤ w'.heap.size
  keep : ∀ b, b < w.heap.size → H b = none → w'.heap[b]? = w.heap[b]? ∧ H' b = none

theorem PStep.refl {H : PHeap} {w : World} (h : H.sub w) : PStep H H w w := ⟨h, rfl, rfl, rfl, Nat.le_refl _, fun _ _ hb => ⟨rfl, hb⟩⟩
theorem PStep.trans {H H' H'' : PHeap} {w w' w'' : World} (h : PStep H H' w w') (k : PStep H' H'' w' w'') : PStep H H'' w w'' :=
  ⟨k.sub, k.os.trans h.os, k.tape.trans h.tape, k.output.trans h.output, Nat.le_trans h.size k.size, fun b hb hn =>
    have ⟨h1, h2⟩ := h.keep b hb hn
    have ⟨k1, k2⟩ := k.keep b (Nat.lt_of_lt_of_le hb h.size) h2
    ⟨k1.trans h1, k2⟩⟩

theorem PHeap.sub.cell {H : PHeap} {w : World} (h : H.sub w) {a : Addr} {v : Value} (hv : H.cell? a = some v) : w.cell? a = some v := by
  unfold PHeap.cell? at hv
  unfold World.cell?
  cases hH : H a.block with
  | none => simp [hH] at hv
  | some o => rw [h _ _ hH]; rw [hH] at hv; exact hv
theorem PHeap.sub.frozen {H : PHeap} {w : World} (h : H.sub w) {a : Addr} (hv : H.frozen? a = false) : w.frozen? a = false := by
  unfold PHeap.frozen? at hv
  unfold World.frozen?
  cases hH : H a.block with
  | none => simp [hH] at hv
  | some o => rw [h _ _ hH]; rw [hH] at hv; cases o <;> simp_all
theorem PHeap.sub.setCell {H : PHeap} {w : World} (h : H.sub w) (a : Addr) (v : Value) : PStep H (H.setCell a v) w (w.setCell a v) ∨ H a.block = none := by
  cases hH : H a.block with
  | none => exact .inr rfl
  | some o =>
    refine .inl ⟨?_, rfl, rfl, rfl, by simp [World.setCell], ?_⟩
    · intro b o' hb
      simp only [World.setCell, Array.getElem?_modify]
      unfold PHeap.setCell at hb
      by_cases hba : b = a.block
      · subst hba
        rw [if_pos rfl, hH] at hb
        simp only [Option.map_some, Option.some.injEq] at hb
        rw [if_pos rfl, h _ _ hH, ← hb]
        cases o <;> rfl
      · rw [if_neg hba] at hb
        rw [if_neg (fun e => hba e.symm)]
        exact h _ _ hb
    · intro b hb hn
      have hba : b ≠ a.block := fun e => by rw [e, hH] at hn; cases hn
      simp only [World.setCell, Array.getElem?_modify]
      rw [if_neg (fun e => hba e.symm)]
      exact ⟨rfl, by simp [PHeap.setCell, hba, hn]⟩
theorem PHeap.sub.new {H : PHeap} {w : World} (h : H.sub w) (o : Obj) : PStep H (H.put w.heap.size o) w { w with heap := w.heap.push o } := by
  refine ⟨?_, rfl, rfl, rfl, by simp, ?_⟩
  · intro b o' hb
    unfold PHeap.put at hb
    by_cases hbs : b = w.heap.size
    · subst hbs; simp at hb; simp [hb]
    · rw [if_neg hbs] at hb
      have hl := h.lt hb
      rw [Array.getElem?_push, if_neg hbs]
      exact h _ _ hb
  · intro b hb hn
    rw [Array.getElem?_push, if_neg (by omega)]
    exact ⟨rfl, by simp [PHeap.put, hn]; omega⟩
theorem PHeap.sub.setObj {H : PHeap} {w : World} (h : H.sub w) {r : Nat} {o : Obj} (o' : Obj) (hr : H r = some o) : PStep H (H.put r o') w { w with heap := w.heap.setIfInBounds r o' } := by
  have hl := h.lt hr
  refine ⟨?_, rfl, rfl, rfl, by simp, ?_⟩
  · intro b o'' hb
    unfold PHeap.put at hb
    by_cases hbr : b = r
    · subst hbr; simp at hb; simp [hb, hl]
    · rw [if_neg hbr] at hb
      simp only [Array.getElem?_setIfInBounds]
      rw [if_neg (fun e => hbr e.symm)]
      exact h _ _ hb
  · intro b hb hn
    have hbr : b ≠ r := fun e => by rw [e, hr] at hn; cases hn
    simp only [Array.getElem?_setIfInBounds]
    rw [if_neg (fun e => hbr e.symm)]
    exact ⟨rfl, by simp [PHeap.put, hbr, hn]⟩
theorem PHeap.sub.drew {H : PHeap} {w : World} (h : H.sub w) (n : Nat) : PStep H H w { w with drawn := n } :=
  ⟨h, rfl, rfl, rfl, Nat.le_refl _, fun _ _ hn => ⟨rfl, hn⟩⟩

/-- The shape that a block has, and whether a cell of it is frozen. -/
def Obj.shapeOf : Obj → Option (TypeId × Nat)
  | .cells c elem _ => some (elem, c.size)
  | _ => none
def Obj.frozenAt (o : Obj) (off : Nat) : Bool :=
  match o with
  | .cells _ _ (lo, hi) => lo ≤ off && off < hi
  | _ => false
def Value.single : Value → Bool
  | .agg _ | .tuple _ => false
  | _ => true
def Obj.isRow : Obj → Bool
  | .cells .. => true
  | _ => false

/-- What a piece of the model's operations does over a partial heap: new blocks are any that are free, each draw is any draw. -/
def Sem.exH {α : Type} (P : Program) : Sem α → PHeap → (α → PHeap → Prop) → Prop
  | .pure a, H, Q => Q a H
  | .load _ a k, H, Q => ∃ v, H.cell? a = some v ∧ (k v).exH P H Q
  | .store _ a v k, H, Q => v.single = true ∧ (H.cell? a).isSome = true ∧ H.frozen? a = false ∧ k.exH P (H.setCell a v) Q
  | .new o k, H, Q => ∀ b, H b = none → (k b).exH P (H.put b o) Q
  | .shape r k, H, Q => ∃ o, H r = some o ∧ (k o.shapeOf).exH P H Q
  | .freeze _ _ _, _, _ => False
  | .frozen a k, H, Q => ∃ o, H a.block = some o ∧ (k (o.frozenAt a.off)).exH P H Q
  | .getObj r k, H, Q => ∃ o, H r = some o ∧ o.isRow = false ∧ (k o).exH P H Q
  | .setObj r o' k, H, Q => ∃ o, H r = some o ∧ o.isRow = false ∧ k.exH P (H.put r o') Q
  | .choose q k, H, Q => if q.forced then (k 0).exH P H Q else ∀ t, (k (q.cut t)).exH P H Q
  | .sys _ _, _, _ => False
  | .program k, H, Q => (k P).exH P H Q
  | .mark _ k, H, Q => k.exH P H Q
  | .halt _, _, _ => False

theorem Sem.exH_mono {α : Type} {P : Program} {Q Q' : α → PHeap → Prop} (hq : ∀ a H, Q a H → Q' a H) : ∀ (s : Sem α) (H : PHeap), s.exH P H Q → s.exH P H Q' := by
  intro s
  induction s with
  | pure a => exact fun H h => hq _ _ h
  | load m a k ih => exact fun H ⟨v, h1, h2⟩ => ⟨v, h1, ih _ _ h2⟩
  | store m a v k ih => exact fun H ⟨h1, h2, h3, h4⟩ => ⟨h1, h2, h3, ih _ h4⟩
  | new o k ih => exact fun H h b hb => ih _ _ (h b hb)
  | shape r k ih => exact fun H ⟨o, h1, h2⟩ => ⟨o, h1, ih _ _ h2⟩
  | freeze => exact fun H h => h
  | frozen a k ih => exact fun H ⟨o, h1, h2⟩ => ⟨o, h1, ih _ _ h2⟩
  | getObj r k ih => exact fun H ⟨o, h1, h2, h3⟩ => ⟨o, h1, h2, ih _ _ h3⟩
  | setObj r o k ih => exact fun H ⟨o', h1, h2, h3⟩ => ⟨o', h1, h2, ih _ h3⟩
  | choose q k ih =>
    intro H h
    simp only [exH] at h ⊢
    split
    · rename_i hf; rw [if_pos hf] at h; exact ih _ _ h
    · rename_i hf; rw [if_neg hf] at h; exact fun t => ih _ _ (h t)
  | sys => exact fun H h => h
  | program k ih => exact fun H h => ih _ _ h
  | mark m k ih => exact fun H h => ih _ h
  | halt => exact fun H h => h

theorem Sem.exH_bind {α β : Type} {P : Program} {Q : β → PHeap → Prop} (f : α → Sem β) : ∀ (s : Sem α) (H : PHeap), s.exH P H (fun a H' => (f a).exH P H' Q) → (s.bind f).exH P H Q := by
  intro s
  induction s with
  | pure a => exact fun H h => h
  | load m a k ih => exact fun H ⟨v, h1, h2⟩ => ⟨v, h1, ih _ _ h2⟩
  | store m a v k ih => exact fun H ⟨h1, h2, h3, h4⟩ => ⟨h1, h2, h3, ih _ h4⟩
  | new o k ih => exact fun H h b hb => ih _ _ (h b hb)
  | shape r k ih => exact fun H ⟨o, h1, h2⟩ => ⟨o, h1, ih _ _ h2⟩
  | freeze => exact fun H h => h
  | frozen a k ih => exact fun H ⟨o, h1, h2⟩ => ⟨o, h1, ih _ _ h2⟩
  | getObj r k ih => exact fun H ⟨o, h1, h2, h3⟩ => ⟨o, h1, h2, ih _ _ h3⟩
  | setObj r o k ih => exact fun H ⟨o', h1, h2, h3⟩ => ⟨o', h1, h2, ih _ h3⟩
  | choose q k ih =>
    intro H h
    simp only [bind, exH] at h ⊢
    split
    · rename_i hf; rw [if_pos hf] at h; exact ih _ _ h
    · rename_i hf; rw [if_neg hf] at h; exact fun t => ih _ _ (h t)
  | sys => exact fun H h => h
  | program k ih => exact fun H h => ih _ _ h
  | mark m k ih => exact fun H h => ih _ h
  | halt => exact fun H h => h

/-- **What holds over the partial heap holds in each world that it tells the truth about.** -/
theorem Sem.exH_run {α : Type} {P : Program} : ∀ (s : Sem α) (H : PHeap) (Q : α → PHeap → Prop) (w : World), s.exH P H Q → H.sub w →
    ∃ a w' H', s.run P w = .ok a w' ∧ PStep H H' w w' ∧ Q a H' := by
  intro s
  induction s with
  | pure a => exact fun H Q w h hs => ⟨a, w, H, rfl, .refl hs, h⟩
  | load m a k ih =>
    intro H Q w ⟨v, h1, h2⟩ hs
    obtain ⟨x, w', H', hr, hst, hq⟩ := ih v H Q w h2 hs
    exact ⟨x, w', H', by simp only [run, hs.cell h1]; exact hr, hst, hq⟩
  | store m a v k ih =>
    intro H Q w ⟨h1, h2, h3, h4⟩ hs
    obtain ⟨u, hu⟩ := Option.isSome_iff_exists.1 h2
    have hne : H a.block ≠ none := by intro e; simp [PHeap.cell?, e] at hu
    have hst0 := (hs.setCell a v).resolve_right hne
    obtain ⟨x, w', H', hr, hst, hq⟩ := ih _ Q _ h4 hst0.sub
    refine ⟨x, w', H', ?_, hst0.trans hst, hq⟩
    cases v <;> first | (simp [Value.single] at h1; done) | (simp only [run, hs.cell hu, hs.frozen h3]; exact hr)
  | new o k ih =>
    intro H Q w h hs
    obtain ⟨x, w', H', hr, hst, hq⟩ := ih _ _ Q _ (h w.heap.size (hs.none_of_ge (Nat.le_refl _))) (hs.new o).sub
    exact ⟨x, w', H', hr, (hs.new o).trans hst, hq⟩
  | shape r k ih =>
    intro H Q w ⟨o, h1, h2⟩ hs
    obtain ⟨x, w', H', hr, hst, hq⟩ := ih _ H Q w h2 hs
    refine ⟨x, w', H', ?_, hst, hq⟩
    have : w.shape? r = o.shapeOf := by unfold World.shape?; rw [hs _ _ h1]; cases o <;> rfl
    simp only [run, this]; exact hr
  | freeze => exact fun H Q w h _ => h.elim
  | frozen a k ih =>
    intro H Q w ⟨o, h1, h2⟩ hs
    obtain ⟨x, w', H', hr, hst, hq⟩ := ih _ H Q w h2 hs
    refine ⟨x, w', H', ?_, hst, hq⟩
    have : w.frozen? a = o.frozenAt a.off := by unfold World.frozen?; rw [hs _ _ h1]; cases o <;> rfl
    simp only [run, this]; exact hr
  | getObj r k ih =>
    intro H Q w ⟨o, h1, h2, h3⟩ hs
    obtain ⟨x, w', H', hr, hst, hq⟩ := ih _ H Q w h3 hs
    refine ⟨x, w', H', ?_, hst, hq⟩
    simp only [run, hs _ _ h1]
    cases o <;> first | (simp [Obj.isRow] at h2; done) | exact hr
  | setObj r o' k ih =>
    intro H Q w ⟨o, h1, h2, h3⟩ hs
    have hst0 := hs.setObj o' h1
    obtain ⟨x, w', H', hr, hst, hq⟩ := ih _ Q _ h3 hst0.sub
    refine ⟨x, w', H', ?_, hst0.trans hst, hq⟩
    simp only [run, hs _ _ h1]
    cases o <;> first | (simp [Obj.isRow] at h2; done) | exact hr
  | choose q k ih =>
    intro H Q w h hs
    simp only [exH] at h
    by_cases hf : q.forced = true
    · rw [if_pos hf] at h
      obtain ⟨x, w', H', hr, hst, hq⟩ := ih _ H Q w h hs
      exact ⟨x, w', H', by simp only [run, hf, if_true]; exact hr, hst, hq⟩
    · rw [if_neg hf] at h
      have hst0 := hs.drew (w.drawn + 1)
      obtain ⟨x, w', H', hr, hst, hq⟩ := ih _ H Q _ (h (w.tape w.drawn q)) hst0.sub
      exact ⟨x, w', H', by simp only [run, hf]; exact hr, hst0.trans hst, hq⟩
  | sys => exact fun H Q w h _ => h.elim
  | program k ih =>
    intro H Q w h hs
    obtain ⟨x, w', H', hr, hst, hq⟩ := ih _ H Q w h hs
    exact ⟨x, w', H', hr, hst, hq⟩
  | mark m k ih =>
    intro H Q w h hs
    obtain ⟨x, w', H', hr, hst, hq⟩ := ih H Q w h hs
    exact ⟨x, w', H', hr, hst, hq⟩
  | halt => exact fun H Q w h _ => h.elim
end Go
