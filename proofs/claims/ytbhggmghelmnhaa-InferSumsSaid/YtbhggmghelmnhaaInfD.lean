import Derived.Test.YtbhggmghelmnhaaInfC
import Derived.Sort.Row
import Derived.Sort.Grow
namespace Go.Inf
open Go Go.Proofs

/-- A shelf's contract that lays one block anew, as a CallP. -/
theorem CallP.of_block {P : Program} {f : FuncId} {args : Array Value} {H : PHeap} {b : Nat} {elem : TypeId} {fz : Nat × Nat} {c : Array Value} {v : Value} {g : Array Value → Array Value} (hb : H b = some (.cells c elem fz))
    (h : ∀ w, H.sub w → Calls P f args w fun e w' => e = .returned v ∧ ∃ q, w' = Sort.mapBlock (Sort.ahead w q) b g) :
    CallP P f args H fun v' H' => v' = v ∧ H' = H.put b (.cells (g c) elem fz) := by
  intro w hw
  refine (h w hw).mono ?_
  rintro e w' ⟨rfl, q, rfl⟩
  have hbw := hw _ _ hb
  have hlt : b < w.heap.size := (Array.getElem?_eq_some_iff.1 hbw).1
  have hget : ∀ i, (Sort.mapBlock (Sort.ahead w q) b g).heap[i]? = if i = b then some (.cells (g c) elem fz) else w.heap[i]? := by
    intro i
    show (w.heap.modify b _)[i]? = _
    rw [Array.getElem?_modify]
    by_cases hi : b = i
    · subst hi
      simp [hbw, Sort.onCells]
    · rw [if_neg hi, if_neg (fun e => hi e.symm)]
  refine ⟨v, _, rfl, ⟨?_, rfl, rfl, rfl, by simp [Sort.mapBlock, Sort.ahead], ?_⟩, rfl, rfl⟩
  · intro i o hi
    rw [hget]
    by_cases hib : i = b
    · subst hib; rw [PHeap.put_same] at hi; rw [if_pos rfl]; exact hi
    · rw [PHeap.put_other _ _ hib] at hi; rw [if_neg hib]; exact hw _ _ hi
  · intro i hi hn
    have hib : i ≠ b := by intro e; rw [e, hb] at hn; cases hn
    rw [hget, if_neg hib, PHeap.put_other _ _ hib]
    exact ⟨rfl, hn⟩
/-- The same, where the heap has grown meanwhile. -/
theorem CallP.of_grow {P : Program} {f : FuncId} {args : Array Value} {H : PHeap} {b : Nat} {elem : TypeId} {fz : Nat × Nat} {c : Array Value} {v : Value} {g : Array Value → Array Value} (hb : H b = some (.cells c elem fz))
    (h : ∀ w, H.sub w → Calls P f args w fun e w' => e = .returned v ∧ ∃ q os, w' = Sort.grow (Sort.mapBlock (Sort.ahead w q) b g) os) :
    CallP P f args H fun v' H' => v' = v ∧ H' = H.put b (.cells (g c) elem fz) := by
  intro w hw
  refine (h w hw).mono ?_
  rintro e w' ⟨rfl, q, os, rfl⟩
  have hbw := hw _ _ hb
  have hlt : b < w.heap.size := (Array.getElem?_eq_some_iff.1 hbw).1
  have hget : ∀ i, i < w.heap.size → (Sort.grow (Sort.mapBlock (Sort.ahead w q) b g) os).heap[i]? = if i = b then some (.cells (g c) elem fz) else w.heap[i]? := by
    intro i hi
    show ((w.heap.modify b _) ++ _)[i]? = _
    rw [Array.getElem?_append_left (by simpa using hi), Array.getElem?_modify]
    by_cases hi : b = i
    · subst hi
      simp [hbw, Sort.onCells]
    · rw [if_neg hi, if_neg (fun e => hi e.symm)]
  refine ⟨v, _, rfl, ⟨?_, rfl, rfl, rfl, by simp [Sort.grow, Sort.mapBlock, Sort.ahead], ?_⟩, rfl, rfl⟩
  · intro i o hi
    by_cases hib : i = b
    · subst hib; rw [hget _ hlt]; rw [PHeap.put_same] at hi; rw [if_pos rfl]; exact hi
    · rw [PHeap.put_other _ _ hib] at hi
      rw [hget _ (hw.lt hi), if_neg hib]; exact hw _ _ hi
  · intro i hi hn
    have hib : i ≠ b := by intro e; rw [e, hb] at hn; cases hn
    rw [hget _ hi, if_neg hib, PHeap.put_other _ _ hib]
    exact ⟨rfl, hn⟩
end Go.Inf
