import Derived.Test.YtbhggmghelmnhaaInfN
import Derived.Lib.SlicesCompact
namespace Go.Inf
/-! ### lone -/
theorem lone_found : ∀ (xs : List Int) (i : Nat) (o : Int), 0 ≤ o → ((∀ j, xs.getD j 0 = 0) → loneGo o i xs = o) ∧ ((¬ ∀ j, xs.getD j 0 = 0) → loneGo o i xs = -1) := by
  intro xs
  induction xs with
  | nil => intro i o ho; exact ⟨fun _ => rfl, fun h => absurd (fun j => by simp) h⟩
  | cons n r ih =>
    intro i o ho
    simp only [loneGo]
    by_cases hn : n = 0
    · have h1 : ¬ (n ≠ 0 ∧ o ≥ 0) := fun h => h.1 hn
      have : (∀ j, (n :: r).getD j 0 = 0) ↔ ∀ j, r.getD j 0 = 0 := by
        constructor
        · intro h j; have := h (j + 1); simpa using this
        · intro h j; cases j with
          | zero => simpa using hn
          | succ j => have := h j; simpa using this
      rw [if_neg h1, if_neg (by simpa using hn), this]
      exact ih _ _ ho
    · rw [if_pos ⟨hn, ho⟩]
      exact ⟨fun h => absurd (by simpa using h 0) hn, fun _ => rfl⟩
theorem lone_go : ∀ (xs : List Int) (i : Nat), (∀ j, LoneAt xs j → loneGo (-1) i xs = (i : Int) + j) ∧ (loneGo (-1) i xs ≥ 0 → ∃ j, LoneAt xs j ∧ loneGo (-1) i xs = (i : Int) + j) := by
  intro xs
  induction xs with
  | nil => intro i; exact ⟨fun j h => absurd (by simp) h.1, fun h => by simp [loneGo] at h⟩
  | cons n r ih =>
    intro i
    simp only [loneGo]
    rw [if_neg (by omega)]
    by_cases hn : n = 0
    · rw [if_neg (by simpa using hn)]
      obtain ⟨h1, h2⟩ := ih (i + 1)
      have hk : ∀ j, LoneAt (n :: r) (j + 1) ↔ LoneAt r j := fun j => by
        constructor
        · rintro ⟨a, b⟩
          exact ⟨by simpa using a, fun k hk => by have := b (k + 1) (by omega); simpa using this⟩
        · rintro ⟨a, b⟩
          refine ⟨by simpa using a, fun k hk => ?_⟩
          cases k with
          | zero => simpa using hn
          | succ k => have := b k (by omega); simpa using this
      constructor
      · intro j hj
        cases j with
        | zero => exact absurd (by simpa using hn) hj.1
        | succ j => rw [h1 j ((hk j).1 hj)]; omega
      · intro hg
        obtain ⟨j, hj, he⟩ := h2 hg
        exact ⟨j + 1, (hk j).2 hj, by rw [he]; omega⟩
    · rw [if_pos hn]
      obtain ⟨f1, f2⟩ := lone_found r (i + 1) i (by omega)
      constructor
      · intro j hj
        cases j with
        | zero => rw [f1 (fun k => by have := hj.2 (k + 1) (by omega); simpa using this)]; omega
        | succ j => exact absurd (by simpa using hj.2 0 (by omega)) hn
      · intro hg
        by_cases h : ∀ j, r.getD j 0 = 0
        · refine ⟨0, ⟨by simpa using hn, fun k hk => ?_⟩, by rw [f1 h]; omega⟩
          cases k with
          | zero => omega
          | succ k => have := h k; simpa using this
        · rw [f2 h] at hg; omega
theorem lone_at {xs : List Int} {j : Nat} (h : LoneAt xs j) : loneF xs = j := by have := (lone_go xs 0).1 j h; simpa [loneF] using this
theorem at_lone {xs : List Int} (h : loneF xs ≥ 0) : LoneAt xs (loneF xs).toNat := by
  obtain ⟨j, hj, he⟩ := (lone_go xs 0).2 h
  have : loneF xs = j := by simpa [loneF] using he
  rw [this]
  exact hj

/-! ### the names -/
theorem compUp {zs : List Int} (hs : zs.Pairwise (· ≤ ·)) : ∀ m, m ≤ zs.length → (Lib.compactUpTo zs.toArray m).Pairwise (· < ·) ∧ ∀ y, y ∈ Lib.compactUpTo zs.toArray m ↔ ∃ j, j < m ∧ zs.getD j 0 = y := by
  have hle : ∀ i j, i ≤ j → j < zs.length → zs.getD i 0 ≤ zs.getD j 0 := fun i j hij hj => by
    have e1 : zs.getD i 0 = zs[i] := by simp [List.getD, show i < zs.length by omega]
    have e2 : zs.getD j 0 = zs[j] := by simp [List.getD, hj]
    rw [e1, e2]
    by_cases e : i = j
    · subst e; exact Int.le_refl _
    · exact List.pairwise_iff_getElem.1 hs i j (by omega) hj (by omega)
  have hget : ∀ j, j < zs.length → zs.toArray[j]! = zs.getD j 0 := fun j hj => by simp [List.getD, hj]
  intro m
  induction m with
  | zero => intro _; exact ⟨by simp [Lib.compactUpTo], fun y => by simp [Lib.compactUpTo]⟩
  | succ m ih =>
    intro hm
    obtain ⟨h1, h2⟩ := ih (by omega)
    rw [Lib.compactUpTo_succ]
    by_cases hk : Lib.keeps zs.toArray m = true
    · rw [if_pos hk]
      constructor
      · rw [List.pairwise_append]
        refine ⟨h1, by simp, fun a ha b hb => ?_⟩
        obtain ⟨j, hj, rfl⟩ := (h2 a).1 ha
        simp only [List.mem_singleton] at hb
        subst hb
        rw [hget m (by omega)]
        have hne : m = 0 ∨ zs.toArray[m]! ≠ zs.toArray[m - 1]! := of_decide_eq_true hk
        rcases hne with h0 | h0
        · omega
        · rw [hget m (by omega), hget (m - 1) (by omega)] at h0
          have h3 := hle j (m - 1) (by omega) (by omega)
          have h4 := hle (m - 1) m (by omega) (by omega)
          omega
      · intro y
        rw [List.mem_append, h2, List.mem_singleton, hget m (by omega)]
        constructor
        · rintro (⟨j, hj, he⟩ | he)
          · exact ⟨j, by omega, he⟩
          · exact ⟨m, by omega, he.symm⟩
        · rintro ⟨j, hj, he⟩
          by_cases e : j = m
          · subst e; exact .inr he.symm
          · exact .inl ⟨j, by omega, he⟩
    · rw [if_neg hk, List.append_nil]
      refine ⟨h1, fun y => ?_⟩
      rw [h2]
      have hne : ¬ (m = 0 ∨ zs.toArray[m]! ≠ zs.toArray[m - 1]!) := fun h => hk (decide_eq_true h)
      have hm0 : m ≠ 0 := fun e => hne (.inl e)
      have he : zs.getD m 0 = zs.getD (m - 1) 0 := by
        false_or_by_contra
        rename_i e
        exact hne (.inr (by rw [hget m (by omega), hget (m - 1) (by omega)]; exact e))
      constructor
      · rintro ⟨j, hj, e⟩; exact ⟨j, by omega, e⟩
      · rintro ⟨j, hj, e⟩
        by_cases ej : j = m
        · subst ej; exact ⟨j - 1, by omega, by rw [← he]; exact e⟩
        · exact ⟨j, by omega, e⟩
def namesF (xss : List (List Int)) : List Int := Lib.compact (xss.flatten.mergeSort fun x y => decide (x ≤ y))
theorem sorted_sort (xs : List Int) : (xs.mergeSort fun x y => decide (x ≤ y)).Pairwise (· ≤ ·) := by
  have := List.pairwise_mergeSort (le := fun x y : Int => decide (x ≤ y)) (fun a b c h1 h2 => by simp at *; omega) (fun a b => by simp; omega) xs
  exact this.imp fun h => by simpa using h
theorem names_spec (xss : List (List Int)) : (namesF xss).Pairwise (· < ·) ∧ ∀ y, y ∈ namesF xss ↔ ∃ s ∈ xss, y ∈ s := by
  have hs := sorted_sort xss.flatten
  obtain ⟨h1, h2⟩ := compUp hs _ (Nat.le_refl _)
  refine ⟨h1, fun y => ?_⟩
  show y ∈ Lib.compactUpTo _ _ ↔ _
  rw [h2]
  have hmem : y ∈ (xss.flatten.mergeSort fun x y => decide (x ≤ y)) ↔ ∃ s ∈ xss, y ∈ s := by
    rw [List.mem_mergeSort, List.mem_flatten]
  rw [← hmem]
  constructor
  · rintro ⟨j, hj, rfl⟩
    rw [List.getD, List.getElem?_eq_getElem hj]
    exact List.getElem_mem hj
  · intro h
    obtain ⟨j, hj, rfl⟩ := List.getElem_of_mem h
    exact ⟨j, hj, by rw [List.getD, List.getElem?_eq_getElem hj]; rfl⟩

/-! ### the matrix -/
def setRow (names row : List Int) (x : Int) : List Int := row.set (names.countP (· < x)) 1
def matRow (names s : List Int) : List Int := s.foldl (setRow names) (List.replicate names.length 0)
def matF (xss : List (List Int)) : List (List Int) := xss.map (matRow (namesF xss))

theorem setRow_len (names row : List Int) (x : Int) : (setRow names row x).length = row.length := by simp [setRow]
theorem matRow_len (names s : List Int) : (matRow names s).length = names.length := by
  unfold matRow
  suffices h : ∀ row : List Int, (s.foldl (setRow names) row).length = row.length by rw [h]; simp
  induction s with
  | nil => intro row; rfl
  | cons x s ih => intro row; rw [List.foldl_cons, ih, setRow_len]
theorem count_at {names : List Int} (h : names.Pairwise (· < ·)) {j : Nat} (hj : j < names.length) : names.countP (· < names[j]) = j := by
  induction names generalizing j with
  | nil => cases hj
  | cons a r ih =>
    have h1 := List.pairwise_cons.1 h
    cases j with
    | zero =>
      simp only [List.getElem_cons_zero]
      rw [List.countP_eq_zero]
      intro x hx
      rcases List.mem_cons.1 hx with rfl | hx
      · simp
      · have := h1.1 x hx; simp; omega
    | succ j =>
      simp only [List.getElem_cons_succ]
      have hj' : j < r.length := by simpa using hj
      rw [List.countP_cons_of_pos (by simpa using h1.1 _ (List.getElem_mem hj'))]
      rw [ih h1.2 hj']
theorem matRow_get {names : List Int} (h : names.Pairwise (· < ·)) : ∀ (s row : List Int), (∀ x ∈ s, x ∈ names) → row.length = names.length → ∀ j (hj : j < names.length), (s.foldl (setRow names) row).getD j 0 = if names[j] ∈ s then 1 else row.getD j 0 := by
  intro s
  induction s with
  | nil => intro row _ _ j hj; simp
  | cons x s ih =>
    intro row hx hr j hj
    rw [List.foldl_cons, ih _ (fun y hy => hx y (by simp [hy])) (by rw [setRow_len]; exact hr) j hj]
    obtain ⟨i, hi, rfl⟩ := List.getElem_of_mem (hx x (by simp))
    by_cases h1 : names[j] ∈ s
    · rw [if_pos h1, if_pos (by simp [h1])]
    · rw [if_neg h1]
      have hset : (setRow names row names[i]).getD j 0 = if i = j then 1 else row.getD j 0 := by
        unfold setRow
        rw [count_at h hi]
        unfold List.getD
        rw [List.getElem?_set]
        by_cases e : i = j
        · subst e; simp [hr, hi]
        · simp [e]
      rw [hset]
      by_cases e : i = j
      · subst e; simp
      · have hne : names[j] ≠ names[i] := by
          intro e2
          rcases Nat.lt_or_gt_of_ne e with hlt | hlt
          · have := List.pairwise_iff_getElem.1 h i j hi hj hlt; omega
          · have := List.pairwise_iff_getElem.1 h j i hj hi hlt; omega
        rw [if_neg e, if_neg (by simp [h1, hne])]
theorem mat_getD {xss : List (List Int)} {l : Nat} (hl : l < xss.length) : (matF xss).getD l [] = matRow (namesF xss) (xss.getD l []) := by
  unfold matF
  rw [List.getD, List.getD, List.getElem?_map, List.getElem?_eq_getElem hl]
  rfl
theorem mat_ent {xss : List (List Int)} {l : Nat} (hl : l < xss.length) : ∀ j (hj : j < (namesF xss).length), ent (matF xss) l j = if (namesF xss)[j] ∈ xss.getD l [] then 1 else 0 := by
  intro j hj
  unfold ent
  rw [mat_getD hl]
  have hmem : xss.getD l [] ∈ xss := by rw [List.getD, List.getElem?_eq_getElem hl]; exact List.getElem_mem hl
  have := matRow_get (names_spec xss).1 (xss.getD l []) (List.replicate (namesF xss).length 0) (fun x hx => ((names_spec xss).2 x).2 ⟨_, hmem, hx⟩) (by simp) j hj
  unfold matRow
  rw [this]
  have hz : (List.replicate (namesF xss).length (0 : Int)).getD j 0 = 0 := by simp [List.getD, hj]
  rw [hz]
theorem mat_out {xss : List (List Int)} {l j : Nat} (h : ¬ (l < xss.length ∧ j < (namesF xss).length)) : ent (matF xss) l j = 0 := by
  unfold ent
  by_cases hl : l < xss.length
  · rw [mat_getD hl]
    have : ¬ j < (matRow (namesF xss) (xss.getD l [])).length := by rw [matRow_len]; exact fun hj => h ⟨hl, hj⟩
    rw [List.getD, List.getElem?_eq_none (by omega)]; rfl
  · have : (matF xss).getD l [] = [] := by unfold matF; simp [List.getD, hl]
    rw [this]; rfl

/-! ### Exposed -/
def exposeGo (names : List Int) : List (List Int) → Int × Bool
  | [] => (0, false)
  | r :: rs => if loneF r ≥ 0 then (names.getD (loneF r).toNat 0, true) else exposeGo names rs
def exposedF (xss : List (List Int)) : Int × Bool := if 8 < xss.length ∨ ∃ s ∈ xss, rightF s = false then (0, false) else exposeGo (namesF xss) (reduceF (matF xss) (namesF xss).length)

/-- By these sets a number is alone in some sum. -/
def Tells (xss : List (List Int)) (x : Int) : Prop := ∃ q : Int, q ≠ 0 ∧ ∃ c : Nat → Int, ∀ y : Int, sm xss.length (fun l => c l * if y ∈ xss.getD l [] then 1 else 0) = if y = x then q else 0

theorem tells_mem {xss : List (List Int)} {x : Int} (h : Tells xss x) : x ∈ namesF xss := by
  obtain ⟨q, hq, c, hc⟩ := h
  rw [(names_spec xss).2]
  false_or_by_contra
  rename_i hn
  have := hc x
  rw [if_pos rfl, sm_zero (fun l hl => by
    rw [if_neg, Int.mul_zero]
    intro hx
    have hmem : xss.getD l [] ∈ xss := by rw [List.getD, List.getElem?_eq_getElem hl]; exact List.getElem_mem hl
    exact hn ⟨_, hmem, hx⟩)] at this
  exact hq this.symm
theorem tells_col {xss : List (List Int)} {j : Nat} (hj : j < (namesF xss).length) : Tells xss (namesF xss)[j] ↔ ∃ q : Int, q ≠ 0 ∧ ∃ c : Nat → Int, ∀ j', sm xss.length (fun l => c l * ent (matF xss) l j') = if j' = j then q else 0 := by
  have hinj : ∀ i (hi : i < (namesF xss).length), (namesF xss)[i] = (namesF xss)[j] → i = j := fun i hi e => by
    rcases Nat.lt_trichotomy i j with h | h | h
    · have := List.pairwise_iff_getElem.1 (names_spec xss).1 i j hi hj h; omega
    · exact h
    · have := List.pairwise_iff_getElem.1 (names_spec xss).1 j i hj hi h; omega
  constructor
  · rintro ⟨q, hq, c, hc⟩
    refine ⟨q, hq, c, fun j' => ?_⟩
    by_cases hj' : j' < (namesF xss).length
    · have h1 := hc (namesF xss)[j']
      rw [sm_congr (g := fun l => c l * if (namesF xss)[j'] ∈ xss.getD l [] then 1 else 0) (fun l hl => by rw [mat_ent hl j' hj']), h1]
      by_cases e : j' = j
      · subst e; simp
      · rw [if_neg e, if_neg (fun e2 => e (hinj _ hj' e2))]
    · rw [sm_zero (fun l _ => by rw [mat_out (fun h => hj' h.2), Int.mul_zero]), if_neg (by omega)]
  · rintro ⟨q, hq, c, hc⟩
    refine ⟨q, hq, c, fun y => ?_⟩
    by_cases hy : y ∈ namesF xss
    · obtain ⟨j', hj', rfl⟩ := List.getElem_of_mem hy
      have h1 := hc j'
      rw [sm_congr (g := fun l => c l * if (namesF xss)[j'] ∈ xss.getD l [] then 1 else 0) (fun l hl => by rw [mat_ent hl j' hj'])] at h1
      rw [h1]
      by_cases e : j' = j
      · subst e; simp
      · rw [if_neg e, if_neg (fun e2 => e (hinj _ hj' e2))]
    · rw [sm_zero (fun l hl => by
        rw [if_neg, Int.mul_zero]
        intro hx
        have hmem : xss.getD l [] ∈ xss := by rw [List.getD, List.getElem?_eq_getElem hl]; exact List.getElem_mem hl
        exact hy (((names_spec xss).2 y).2 ⟨_, hmem, hx⟩)), if_neg]
      intro e
      exact hy (e ▸ List.getElem_mem hj)

theorem mat_bin {xss : List (List Int)} : ∀ k j, ent (matF xss) k j = 0 ∨ ent (matF xss) k j = 1 := fun k j => by
  by_cases h : k < xss.length ∧ j < (namesF xss).length
  · rw [mat_ent h.1 j h.2]; split <;> simp
  · exact .inl (mat_out h)
theorem mat_init {xss : List (List Int)} : InvE xss.length (namesF xss).length (fun l j => ent (matF xss) l j) 0 0 (matF xss) :=
  InvE.init (by simp [matF]) (fun k hk => by rw [mat_getD hk, matRow_len]) mat_bin

theorem expose_spec {names : List Int} : ∀ {rs : List (List Int)}, (∃ k, k < rs.length ∧ (∃ j, LoneAt (rs.getD k []) j ∧ exposeGo names rs = (names.getD j 0, true)) ∧ ∀ k', k' < k → ∀ j, ¬ LoneAt (rs.getD k' []) j) ∨ exposeGo names rs = (0, false) ∧ ∀ k, k < rs.length → ∀ j, ¬ LoneAt (rs.getD k []) j := by
  intro rs
  induction rs with
  | nil => exact .inr ⟨rfl, fun k hk => by cases hk⟩
  | cons r rs ih =>
    unfold exposeGo
    by_cases h : loneF r ≥ 0
    · rw [if_pos h]
      exact .inl ⟨0, by simp, ⟨_, by simpa using at_lone h, rfl⟩, fun k' hk' => by omega⟩
    · rw [if_neg h]
      have h0 : ∀ j, ¬ LoneAt r j := fun j hj => h (by rw [lone_at hj]; omega)
      rcases ih with ⟨k, hk, ⟨j, hj, he⟩, hmin⟩ | ⟨he, hn⟩
      · refine .inl ⟨k + 1, by simpa using hk, ⟨j, by simpa using hj, he⟩, fun k' hk' j' => ?_⟩
        cases k' with
        | zero => simpa using h0 j'
        | succ k' => have := hmin k' (by omega) j'; simpa using this
      · refine .inr ⟨he, fun k hk j => ?_⟩
        cases k with
        | zero => simpa using h0 j
        | succ k => have := hn k (by simpa using hk) j; simpa using this

/-- What Exposed tells: the least number that the sets tell. -/
theorem exposed_spec {xss : List (List Int)} (h8 : xss.length ≤ 8) (hr : ∀ s ∈ xss, rightF s = true) :
    (∃ x, exposedF xss = (x, true) ∧ Tells xss x ∧ ∀ y, Tells xss y → x ≤ y) ∨ (exposedF xss = (0, false) ∧ ∀ y, ¬ Tells xss y) := by
  have hif : ¬ (8 < xss.length ∨ ∃ s ∈ xss, rightF s = false) := by
    rintro (h | ⟨s, hs, h⟩)
    · omega
    · rw [hr s hs] at h; cases h
  unfold exposedF
  rw [if_neg hif]
  obtain ⟨pos, S, T, pc, hE, hR, hB⟩ := reduceGo_inv (keepsE h8) (namesF xss).length 0 0 (matF xss) mat_init
  rw [Nat.zero_add] at hE
  have hred : reduceF (matF xss) (namesF xss).length = reduceGo (namesF xss).length 0 0 (matF xss) := rfl
  rw [← hred] at hE hB
  obtain ⟨M, hM⟩ : ∃ M, reduceF (matF xss) (namesF xss).length = M := ⟨_, rfl⟩
  rw [hM] at hE hB ⊢
  have hrowz : ∀ k, k < xss.length → ∀ j, (namesF xss).length ≤ j → ent M k j = 0 := fun k hk j hj => by
    unfold ent
    have : ¬ j < (M.getD k []).length := by rw [hE.row k hk]; omega
    rw [List.getD, List.getElem?_eq_none (by omega)]; rfl
  have hend : ∀ k, pos ≤ k → k < xss.length → ∀ j, wd xss.length S T k j = 0 := fun k hk hkm j => by
    by_cases hj : j < (namesF xss).length
    · exact hE.low k hk hkm j hj
    · exact (hE.ent_zero hkm).1 (hrowz k hkm j (by omega))
  have htell : ∀ j (hj : j < (namesF xss).length), Tells xss (namesF xss)[j] ↔ ∃ k, k < pos ∧ pc k = j ∧ LoneAt (M.getD k []) j := fun j hj => by
    rw [tells_col hj, ← hE.tells hend]
    constructor
    · rintro ⟨q, hq, hc⟩; exact ⟨q, hq, (hR _).2 hc⟩
    · rintro ⟨q, hq, hc⟩; exact ⟨q, hq, (hR _).1 hc⟩
  have hlone : ∀ k, k < xss.length → ∀ j, LoneAt (M.getD k []) j → k < pos ∧ pc k = j := fun k hk j hj => by
    by_cases hkp : k < pos
    · refine ⟨hkp, ?_⟩
      false_or_by_contra
      rename_i hne
      exact hE.piv k hkp ((hE.ent_zero hk).1 (hj.2 _ hne))
    · exact absurd ((hE.ent_zero hk).2 (hend k (by omega) hk j)) hj.1
  have hpc : ∀ i k, i ≤ k → k < pos → pc i ≤ pc k := fun i k hik hk => by
    by_cases e : i = k
    · subst e; exact Nat.le_refl _
    · exact Nat.le_of_lt (hE.mono i k (by omega) hk)
  have hnle : ∀ i j (hi : i < (namesF xss).length) (hj : j < (namesF xss).length), i ≤ j → (namesF xss)[i] ≤ (namesF xss)[j] := fun i j hi hj hij => by
    by_cases e : i = j
    · subst e; exact Int.le_refl _
    · exact Int.le_of_lt (List.pairwise_iff_getElem.1 (names_spec xss).1 i j hi hj (by omega))
  rcases expose_spec (names := namesF xss) (rs := M) with ⟨k, hk, ⟨j, hj, he⟩, hmin⟩ | ⟨he, hn⟩
  · rw [hE.len] at hk
    obtain ⟨hkp, hkj⟩ := hlone k hk j hj
    have hjn : j < (namesF xss).length := by rw [← hkj]; exact hE.pcl k hkp
    have hget : (namesF xss).getD j 0 = (namesF xss)[j] := by rw [List.getD, List.getElem?_eq_getElem hjn]; rfl
    refine .inl ⟨_, he, ?_, fun y hy => ?_⟩
    · rw [hget]; exact (htell j hjn).2 ⟨k, hkp, hkj, hj⟩
    · rw [hget]
      obtain ⟨j', hj', rfl⟩ := List.getElem_of_mem (tells_mem hy)
      obtain ⟨k', hkp', hkj', hlo⟩ := (htell j' hj').1 hy
      refine hnle _ _ hjn hj' ?_
      rw [← hkj, ← hkj']
      refine hpc _ _ ?_ hkp'
      false_or_by_contra
      exact hmin k' (by omega) j' hlo
  · refine .inr ⟨he, fun y hy => ?_⟩
    obtain ⟨j', hj', rfl⟩ := List.getElem_of_mem (tells_mem hy)
    obtain ⟨k', hkp', hkj', hlo⟩ := (htell j' hj').1 hy
    exact hn k' (by rw [hE.len]; have := hE.posm; omega) j' hlo
end Go.Inf
