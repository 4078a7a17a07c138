/- The law InferSums of the given program returns true for every input, and each of its arguments reads behind the call as it read before. No condition. -/
import Derived.Test.YtbhggmghelmnhaaRows
import Derived.Test.YtbhggmghelmnhaaInfQ
import Derived.WalkKit
import Derived.ProofKit
import Derived.OpenShut
import Derived.ChangeOld
import Derived.Below
import Derived.Deep.Slices
namespace Go.Proofs.Ytbhggmghelmnhaa
open Go.ChangeShapes Go.WideShapes Go.ChangeAt Go.RowKit Go.Deep

theorem own : ownKnob Try.prog.godebug = none := by kernel_rfl
theorem laidOut : laidOutB Try.prog = true := by kernel_rfl
theorem cells23 : Try.prog.cellsOf 23 = 1 := by kernel_rfl
theorem cells3 : Try.prog.cellsOf 3 = 1 := by kernel_rfl

/-- All of a world's memory. -/
def heapOf (w : World) : PHeap := fun i => w.heap[i]?
theorem heapOf_sub (w : World) : (heapOf w).sub w := fun _ _ h => h
theorem heapOf_cell (w : World) (a : Addr) : (heapOf w).cell? a = w.cell? a := by
  unfold PHeap.cell? World.cell? heapOf
  rfl
theorem row_of {w : World} {a : Addr} {zs : List Int} {n : Nat} (hn : n ≤ zs.length) (h : ∀ i, i < zs.length → w.cell? (a.add i) = some (.int .i64 (zs.getD i 0))) : (heapOf w).rowAt (some a) ((zs.take n).map Inf.vi) := by
  intro j v hj
  rw [heapOf_cell]
  have hlt : j < n := by
    have := (List.getElem?_eq_some_iff.1 hj).1
    rw [List.length_map, List.length_take] at this
    omega
  have hz : j < zs.length := by omega
  rw [h j hz]
  rw [List.getElem?_map, List.getElem?_take_of_lt hlt, List.getElem?_eq_getElem hz] at hj
  rw [List.getD, List.getElem?_eq_getElem hz]
  exact hj

set_option maxRecDepth 100000 in
theorem lifted (os : Os) (started : os.Started) (H : Type) (enc : TypeId × Value → H) :
    ReturnsInHanded {} Try.checked os 3 .any (Rows.inferSumsSpec.pre6 enc Try.prog Try.f3 Rows.inferSumsRow.domain false) (Rows.inferSumsSpec.post enc Try.prog Try.f3 false true false false) := by
  refine returnsInHanded_of_change (C := Try.checked) own started (by kernel_rfl) Try.func3
    (ChangeSpec.witness6 (enc := enc) (C := Try.checked) false ⟨#[], #[.slice none 0 0, .slice none 0 0], []⟩ 8 (by kernel_rfl) (by kernel_rfl) (by kernel_rfl) (by kernel_rfl)) ?_
  intro W base args ds gs before hval0 hW hcnd _
  have hval : ∀ (j : Nat) t v, Try.f3.params[j]? = some t → args[j]? = some v → Value.okWide Try.prog W .any base t v := hval0
  have hW' := hW
  obtain ⟨p, q, hA0, hV, rfl, hfz, hnd⟩ := hW
  have hA : DataW.TrodAll enc Try.prog W 0 (fun _ => true) true Try.f3.params.toList args.toList ds p := hA0
  rw [Try.params3] at hA hval
  obtain ⟨v0, vs0, d0, ds0, p0, q0, hargs, rfl, rfl, h0, r0⟩ := trodAll_cons hA
  obtain ⟨v1, vs1, d1, ds1, p1, q1, rfl, rfl, rfl, h1, r1⟩ := trodAll_cons r0
  obtain ⟨rfl, rfl, rfl⟩ := trodAll_nil r1
  obtain rfl : args = #[v0, v1] := by cases args; simp_all
  obtain ⟨rfl, rfl⟩ := trodVars_none hV
  obtain ⟨a0, len0, cap0, rfl⟩ := okWide_slice Try.underlying22 (hval 0 22 v0 rfl rfl)
  obtain ⟨a1, len1, cap1, rfl⟩ := okWide_slice Try.underlying23 (hval 1 23 v1 rfl rfl)
  have k0 := h0
  have k1 := h1
  have lt0 : ∀ x ∈ p0, x.block < W.heap.size := by obtain ⟨m, hm⟩ := k0; exact DataW.trod_lt m _ _ _ hm
  have lt1 : ∀ x ∈ p1, x.block < W.heap.size := by obtain ⟨m, hm⟩ := k1; exact DataW.trod_lt m _ _ _ hm
  have ints : ∀ {fuel : Nat} {a : Option Addr} {len cap : Nat} {x : DataW H × List MemPlace}, DataW.trod enc Try.prog W 0 (fun _ => true) true fuel 23 [.slice a len cap] = some x → ∃ xs : List Int, xs.length = len ∧ (heapOf W).rowAt a (xs.map Inf.vi) ∧ len ≤ maxLen := fun {fuel a len cap x} hf => by
    rcases open_ints Try.underlying23 Try.underlying3 cells3 hf with ⟨hcs, _⟩ | ⟨x, l, c, zs, hcs, _, hl, hm, hz, _, hcell, hwz⟩
    · simp at hcs
      obtain ⟨rfl, rfl, rfl⟩ := hcs
      exact ⟨[], rfl, rfl, Nat.zero_le _⟩
    · simp at hcs
      obtain ⟨rfl, rfl, rfl⟩ := hcs
      have hz' : zs.length = cap := by simpa using hz
      exact ⟨zs.take len, by rw [List.length_take]; omega, row_of (by omega) hcell, by omega⟩
  obtain ⟨xss, hxl, hss, hxm⟩ : ∃ xss : List (List Int), xss.length = len0 ∧ Inf.SS (heapOf W) a0 xss ∧ len0 ≤ maxLen := by
    obtain ⟨fuel, hf⟩ := h0
    rcases open_slice1 Try.underlying22 cells23 hf with ⟨hcs, _⟩ | ⟨a, len, cap, m, n, V, D, Pl, hcs, _, hl, hm, hmm, _, hx⟩
    · simp [Value.cells] at hcs
      obtain ⟨rfl, rfl, rfl⟩ := hcs
      exact ⟨[], rfl, ⟨[], rfl, rfl, fun k v xs hv => by simp at hv⟩, Nat.zero_le _⟩
    · simp [Value.cells] at hcs
      obtain ⟨rfl, rfl, rfl⟩ := hcs
      have hm' : m = cap0 := by simpa using hmm
      subst hm'
      obtain ⟨X, hX⟩ := choose_lt (α := List Int) (n := len0) (p := fun i xs => ∃ p c, V i = .slice p xs.length c ∧ (heapOf W).rowAt p (xs.map Inf.vi)) (fun i hi => by
        obtain ⟨_, ht⟩ := hx i (by omega)
        rcases open_ints Try.underlying23 Try.underlying3 cells3 ht with ⟨hcs, _⟩ | ⟨x, l, c, zs, hcs, _⟩
        · simp at hcs
          rw [hcs] at ht
          obtain ⟨xs, e, hr, _⟩ := ints ht
          exact ⟨xs, none, 0, by rw [hcs, e], hr⟩
        · simp at hcs
          rw [hcs] at ht
          obtain ⟨xs, e, hr, _⟩ := ints ht
          exact ⟨xs, some x, c, by rw [hcs, e], hr⟩)
      refine ⟨(List.range len0).map X, by simp, ⟨(List.range len0).map V, ?_, by simp, ?_⟩, by omega⟩
      · intro j v hj
        rw [heapOf_cell]
        rw [List.getElem?_map] at hj
        by_cases hjl : j < len0
        · rw [List.getElem?_range hjl] at hj
          simp only [Option.map_some, Option.some.injEq] at hj
          rw [← hj]
          exact (hx j (by omega)).1
        · rw [List.getElem?_eq_none (by simpa using hjl)] at hj; cases hj
      · intro k v xs hv hxs
        rw [List.getElem?_map] at hv hxs
        by_cases hk : k < len0
        · rw [List.getElem?_range hk] at hv hxs
          simp only [Option.map_some, Option.some.injEq] at hv hxs
          rw [← hv, ← hxs]
          exact hX k hk
        · rw [List.getElem?_eq_none (by simpa using hk)] at hv; cases hv
  obtain ⟨more, hml, hmr, _⟩ : ∃ xs : List Int, xs.length = len1 ∧ (heapOf W).rowAt a1 (xs.map Inf.vi) ∧ len1 ≤ maxLen := by
    obtain ⟨fuel, hf⟩ := h1
    exact ints hf
  clear hA0 hval0
  have hlaw := Inf.law_call (c := cap0) (d := cap1) hss hmr (by rw [hxl]; exact hxm)
  rw [hxl, hml] at hlaw
  refine (hlaw W (heapOf_sub W)).mono fun e W' he => ?_
  obtain ⟨v, H', rfl, hs, rfl, hle⟩ := he
  have bel : Below W.heap.size W W' := ⟨hs.os, hs.tape, hs.output, hs.size, fun k hk => by
    have : (heapOf W) k = some W.heap[k] := Array.getElem?_eq_getElem hk
    rw [hs.sub _ _ (hle _ _ this)]
    exact (Array.getElem?_eq_getElem hk).symm⟩
  exact ⟨_, rfl, _, _, _, [], _, [], hW', trodAll_mk1 (shut_bool Try.underlying4 _), (trodAll_cons_mk (Below.trod laidOut (by kernel_rfl) (of_decide_eq_true (by kernel_rfl)) k0 bel lt0) (trodAll_cons_mk (Below.trod laidOut (by kernel_rfl) (of_decide_eq_true (by kernel_rfl)) k1 bel lt1) trodAll_mk0)), rfl, bel.frame _, fun h => by cases h⟩

theorem over : Rows.inferSumsRow.holds Try.pinned (OpenSpec.ofChange Rows.inferSumsSpec) :=
  OpenClaim.holds_of_wide 3 Try.f3 rfl rfl rfl rfl rfl rfl rfl ⟨rfl, rfl, rfl, rfl, rfl⟩ rfl rfl rfl rfl rfl (by kernel_rfl) Try.func3 (by kernel_rfl)
    (of_decide_eq_true (by kernel_rfl)) (by unfold Func.isWrapper; first | (rw [if_pos (by decide +kernel)]; kernel_rfl) | (rw [if_neg (by decide +kernel)]; exact ⟨rfl, rfl⟩))
    (fun os started H enc _ => lifted os started H enc)

theorem inferSums_holds : Rows.InferSumsSaid := over
end Go.Proofs.Ytbhggmghelmnhaa
#print axioms Go.Proofs.Ytbhggmghelmnhaa.inferSums_holds
