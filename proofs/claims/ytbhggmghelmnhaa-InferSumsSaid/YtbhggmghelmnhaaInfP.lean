import Derived.Test.YtbhggmghelmnhaaInfO
namespace Go.Inf
theorem sm_rev (m : Nat) (f : Nat → Int) : sm m (fun l => f (m - 1 - l)) = sm m f := by
  have hshift : ∀ (m : Nat) (f : Nat → Int), sm (m + 1) f = f 0 + sm m (fun l => f (l + 1)) := by
    intro m
    induction m with
    | zero => intro f; simp [sm]
    | succ m ih => intro f; rw [sm, ih]; simp only [sm]; omega
  induction m generalizing f with
  | zero => rfl
  | succ m ih =>
    rw [hshift]
    simp only [sm]
    have h1 : sm m (fun l => f (m + 1 - 1 - (l + 1))) = sm m f := by
      rw [← ih f]
      exact sm_congr fun l _ => by rw [show m + 1 - 1 - (l + 1) = m - 1 - l from by omega]
    rw [h1, show m + 1 - 1 - 0 = m from by omega]
    omega
theorem tells_more {xss : List (List Int)} {x : Int} (s : List Int) (h : Tells xss x) : Tells (xss ++ [s]) x := by
  obtain ⟨q, hq, c, hc⟩ := h
  refine ⟨q, hq, fun l => if l < xss.length then c l else 0, fun y => ?_⟩
  rw [← hc y, List.length_append, List.length_singleton]
  simp only [sm]
  rw [if_neg (Nat.lt_irrefl _), Int.zero_mul, Int.add_zero]
  exact sm_congr fun l hl => by
    rw [if_pos hl]
    congr 2
    rw [List.getD, List.getElem?_append_left hl]; rfl
theorem tells_rev' {xss : List (List Int)} {x : Int} (h : Tells xss x) : Tells xss.reverse x := by
  obtain ⟨q, hq, c, hc⟩ := h
  refine ⟨q, hq, fun l => c (xss.length - 1 - l), fun y => ?_⟩
  rw [← hc y, List.length_reverse, ← sm_rev xss.length (fun l => c l * if y ∈ xss.getD l [] then 1 else 0)]
  exact sm_congr fun l hl => by
    congr 2
    rw [List.getD, List.getElem?_reverse hl]; rfl
theorem tells_rev {xss : List (List Int)} {x : Int} : Tells xss.reverse x ↔ Tells xss x := ⟨fun h => by have := tells_rev' h; rwa [List.reverse_reverse] at this, tells_rev'⟩

theorem exposed_congr {xss yss : List (List Int)} (hx : xss.length ≤ 8) (hrx : ∀ s ∈ xss, rightF s = true) (hy : yss.length ≤ 8) (hry : ∀ s ∈ yss, rightF s = true) (h : ∀ x, Tells xss x ↔ Tells yss x) : exposedF xss = exposedF yss := by
  rcases exposed_spec hx hrx with ⟨x, e1, t1, m1⟩ | ⟨e1, n1⟩ <;> rcases exposed_spec hy hry with ⟨y, e2, t2, m2⟩ | ⟨e2, n2⟩
  · have := m1 y ((h y).2 t2)
    have := m2 x ((h x).1 t1)
    rw [e1, e2, show x = y from by omega]
  · exact absurd ((h x).1 t1) (n2 x)
  · exact absurd ((h y).2 t2) (n1 y)
  · rw [e1, e2]
theorem exposed_more {xss : List (List Int)} {s : List Int} (hx : xss.length ≤ 7) (hrx : ∀ s ∈ xss, rightF s = true) (hs : rightF s = true) {n : Int} (h : exposedF xss = (n, true)) : ∃ m, exposedF (xss ++ [s]) = (m, true) ∧ m ≤ n := by
  have hr : ∀ t ∈ xss ++ [s], rightF t = true := fun t ht => by
    rcases List.mem_append.1 ht with h | h
    · exact hrx t h
    · rw [List.mem_singleton.1 h]; exact hs
  rcases exposed_spec (by omega) hrx with ⟨x, e1, t1, m1⟩ | ⟨e1, n1⟩
  · rw [e1] at h
    cases h
    have ht := tells_more s t1
    rcases exposed_spec (xss := xss ++ [s]) (by simp; omega) hr with ⟨y, e2, t2, m2⟩ | ⟨e2, n2⟩
    · exact ⟨y, e2, m2 _ ht⟩
    · exact absurd ht (n2 _)
  · rw [e1] at h; cases h
theorem exposed_back {xss : List (List Int)} {s : List Int} (hx : xss.length ≤ 7) (hrx : ∀ s ∈ xss, rightF s = true) (hs : rightF s = true) : exposedF (s :: xss.reverse) = exposedF (xss ++ [s]) := by
  have hr : ∀ t ∈ xss ++ [s], rightF t = true := fun t ht => by
    rcases List.mem_append.1 ht with h | h
    · exact hrx t h
    · rw [List.mem_singleton.1 h]; exact hs
  have he : s :: xss.reverse = (xss ++ [s]).reverse := by simp
  rw [he]
  exact exposed_congr (by simp; omega) (fun t ht => hr t (List.mem_reverse.1 ht)) (by simp; omega) hr (fun x => tells_rev)

def twinF (s : List Int) : List Int := s.flatMap fun x => [2 * x, 2 * x + 1]
theorem mem_twin {s : List Int} {y : Int} : y ∈ twinF s ↔ y / 2 ∈ s := by
  unfold twinF
  rw [List.mem_flatMap]
  constructor
  · rintro ⟨x, hx, hy⟩
    simp at hy
    have : y / 2 = x := by omega
    rw [this]; exact hx
  · intro h
    exact ⟨_, h, by simp; omega⟩
theorem twins_none {xss : List (List Int)} (hx : xss.length ≤ 8) (hr : ∀ s ∈ xss, rightF (twinF s) = true) : exposedF (xss.map twinF) = (0, false) := by
  rcases exposed_spec (xss := xss.map twinF) (by simpa using hx) (fun s hs => by obtain ⟨t, ht, rfl⟩ := List.mem_map.1 hs; exact hr t ht) with ⟨x, e1, t1, m1⟩ | ⟨e1, n1⟩
  · exfalso
    obtain ⟨q, hq, c, hc⟩ := t1
    obtain ⟨y, hy, hne⟩ : ∃ y : Int, y / 2 = x / 2 ∧ y ≠ x := by
      by_cases h : x % 2 = 0
      · exact ⟨x + 1, by omega, by omega⟩
      · exact ⟨x - 1, by omega, by omega⟩
    have h1 := hc x
    have h2 := hc y
    rw [if_pos rfl] at h1
    rw [if_neg hne] at h2
    rw [sm_congr (g := fun l => c l * if x ∈ (xss.map twinF).getD l [] then 1 else 0) (fun l hl => by
      have hl' : l < xss.length := by simpa using hl
      congr 2
      rw [List.getD, List.getElem?_map, List.getElem?_eq_getElem hl']
      simp only [Option.map_some, Option.getD_some]
      rw [mem_twin, mem_twin, hy]), h1] at h2
    exact hq h2
  · exact e1
/-- twins of a set are a set -/
theorem right_twin {s : List Int} (h : rightF s = true) : rightF (twinF s) = true := by
  have hgo : ∀ (s : List Int) (l : Int), rightGo l s = true → ∀ l' : Int, l' < 2 * (l + 1) → rightGo l' (twinF s) = true := by
    intro s
    induction s with
    | nil => intro _ _ _ _; rfl
    | cons x s ih =>
      intro l h l' hl
      simp only [rightGo] at h
      split at h
      · cases h
      · have : twinF (x :: s) = 2 * x :: (2 * x + 1) :: twinF s := rfl
        rw [this]
        simp only [rightGo]
        rw [if_neg (by omega), if_neg (by omega)]
        exact ih x h _ (by omega)
  exact hgo s 0 h 0 (by omega)
end Go.Inf
