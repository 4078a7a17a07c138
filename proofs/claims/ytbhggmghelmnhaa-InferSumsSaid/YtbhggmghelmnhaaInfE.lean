import Derived.Test.YtbhggmghelmnhaaInfD
import Derived.Test.YtbhggmghelmnhaaInfS
import Derived.Lib.RowBridge
namespace Go.Inf
open Go Go.Proofs

theorem holds_of {H : PHeap} {w : World} (hw : H.sub w) {b : Nat} {elem : TypeId} {xs : List Int} {rest : List Value} (hb : H b = some (.cells (xs.map vi ++ rest).toArray elem (0, 0))) : Sort.Holds (Value.int .i64) w b 0 xs.toArray := by
  intro j hj
  have hbw := hw _ _ hb
  have hj' : j < xs.length := by simpa using hj
  have hx : xs.toArray[j]! = xs[j] := by simp [hj']
  rw [hx]
  constructor
  · unfold World.cell?
    simp only [hbw, Nat.zero_add]
    simp [List.getElem?_append_left, hj']
  · unfold World.frozen?
    simp [hbw]
theorem putCells_of {xs ys : List Int} {rest : List Value} (hl : ys.length = xs.length) : Sort.putCells (Value.int .i64) 0 ys.toArray (xs.map vi ++ rest).toArray = (ys.map vi ++ rest).toArray := by
  apply Array.ext_getElem?
  intro i
  unfold Sort.putCells
  simp only [Array.getElem?_mapIdx, List.getElem?_toArray, Nat.zero_le, true_and, Nat.zero_add, List.size_toArray, Nat.sub_zero]
  by_cases hi : i < xs.length
  · rw [List.getElem?_append_left (by simpa using hi), List.getElem?_append_left (by simp; omega)]
    simp [hi, hl]
  · rw [List.getElem?_append_right (by simp; omega), List.getElem?_append_right (by simp; omega)]
    simp only [List.length_map, hl]
    cases rest[i - xs.length]? with
    | none => rfl
    | some v => simp [show ¬ i < xs.length from hi]

theorem sort_call {H : PHeap} {b c : Nat} {elem : TypeId} {xs : List Int} {rest : List Value} (hb : H b = some (.cells (xs.map vi ++ rest).toArray elem (0, 0))) (hsz : xs.length < 4611686018427387904) :
    CallP Try.prog 23 #[.slice (some ⟨b, 0, none⟩) xs.length c] H fun v H' => v = .tuple #[] ∧ H' = H.put b (.cells ((xs.mergeSort fun x y => decide (x ≤ y)).map vi ++ rest).toArray elem (0, 0)) := by
  have h := CallP.of_grow (P := Try.prog) (f := 23) (args := #[.slice (some ⟨b, 0, none⟩) xs.length c]) (v := .tuple #[]) (g := Sort.putCells (Value.int .i64) 0 (xs.mergeSort fun x y => decide (x ≤ y)).toArray) hb fun w hw =>
    Any.slices_Sort_int Try.lays189 b 0 c xs w (holds_of hw hb) (hw.lt hb) hsz
  rw [putCells_of (by simp)] at h
  exact h

theorem compact_call {H : PHeap} {b c : Nat} {elem : TypeId} {xs : List Int} {rest : List Value} (hb : H b = some (.cells (xs.map vi ++ rest).toArray elem (0, 0))) (hsz : xs.length ≤ 9223372036854775807) (hc : xs.length ≤ c) :
    CallP Try.prog 24 #[.slice (some ⟨b, 0, none⟩) xs.length c] H fun v H' => v = .slice (some ⟨b, 0, none⟩) (Lib.compact xs).length c ∧
      H' = H.put b (.cells ((Lib.compact xs ++ List.replicate (xs.length - (Lib.compact xs).length) 0).map vi ++ rest).toArray elem (0, 0)) := by
  have h := CallP.of_block (P := Try.prog) (f := 24) (args := #[.slice (some ⟨b, 0, none⟩) xs.length c]) (v := .slice (some ⟨b, 0, none⟩) (Lib.compact xs).length c)
    (g := Sort.putCells (Value.int .i64) 0 (Lib.compact xs ++ List.replicate (xs.length - (Lib.compact xs).length) 0).toArray) hb fun w hw =>
    by
      have h1 := Any.slices_Compact_int Try.lays20 b 0 c xs w (holds_of hw hb) hsz hc
      unfold Sort.putRow at h1
      exact h1
  rw [putCells_of (by simp; have := Lib.compact_length_le xs; omega)] at h
  exact h

theorem search_call {H : PHeap} {b c n : Nat} {elem : TypeId} {xs : List Int} {rest : List Value} {x : Int} (hb : H b = some (.cells (xs.map vi ++ rest).toArray elem (0, 0))) (hn : xs.length = n) (hsz : xs.length < 4611686018427387904) (hs : xs.Pairwise (· ≤ ·)) :
    CallP Try.prog 25 #[.slice (some ⟨b, 0, none⟩) n c, vi x] H fun v H' => v = .tuple #[vi (xs.countP (· < x) : Nat), .bool (xs.contains x)] ∧ H' = H := by
  subst hn
  intro w hw
  have hc : ∀ j, j < xs.length → w.cell? ⟨b, 0 + j, none⟩ = some (.int .i64 (xs.getD j 0)) := fun j hj => by
    have := (holds_of hw hb j (by simpa using hj)).1
    rw [this]
    simp [hj]
  have h := Any.slices_BinarySearch_int Try.lays25 b 0 xs.length c xs x w (Nat.le_refl _) hsz hc (by rw [List.take_length]; exact hs)
  rw [List.take_length] at h
  refine Calls.mono h ?_
  rintro e w' ⟨rfl, q, rfl⟩
  exact ⟨_, H, rfl, ⟨hw, rfl, rfl, rfl, Nat.le_refl _, fun i hi hn => ⟨rfl, hn⟩⟩, rfl, rfl⟩
end Go.Inf
