import Derived.Test.YtbhggmghelmnhaaInfC
import Derived.Test.YtbhggmghelmnhaaInfM
namespace Go.Inf
def ent (M : List (List Int)) (k j : Nat) : Int := (M.getD k []).getD j 0
def wd (m : Nat) (S T : Nat → Nat → Int) (k j : Nat) : Int := sm m fun l => T k l * S l j

/-! ### shrink -/
theorem euc_dvd (a b : Int) : euc a b ∣ a ∧ euc a b ∣ b := by
  induction a, b using euc.induct with
  | case1 a => rw [euc_zero]; exact ⟨Int.dvd_refl _, Int.dvd_zero _⟩
  | case2 a b h ih =>
    rw [euc_step h]
    refine ⟨?_, ih.1⟩
    have h1 : a = a.tmod b + b * a.tdiv b := by rw [Int.tmod_def]; omega
    rw [h1] 
    have h2 := Int.dvd_add ih.2 (Int.dvd_mul_of_dvd_left ih.1 (c := a.tdiv b))
    rw [← h1]
    rw [← h1] at h2
    exact h2
theorem dvd_euc {d : Int} (a b : Int) (ha : d ∣ a) (hb : d ∣ b) : d ∣ euc a b := by
  induction a, b using euc.induct with
  | case1 a => rw [euc_zero]; exact ha
  | case2 a b h ih =>
    rw [euc_step h]
    refine ih hb ?_
    rw [Int.tmod_def]
    exact Int.dvd_sub ha (Int.dvd_mul_of_dvd_left hb)
theorem fold_dvd (xs : List Int) (a : Int) : xs.foldl euc a ∣ a ∧ ∀ x ∈ xs, xs.foldl euc a ∣ x := by
  induction xs generalizing a with
  | nil => exact ⟨Int.dvd_refl _, fun _ h => by cases h⟩
  | cons y xs ih =>
    simp only [List.foldl_cons]
    have h1 := ih (euc a y)
    have h2 := euc_dvd a y
    refine ⟨Int.dvd_trans h1.1 h2.1, fun x hx => ?_⟩
    rcases List.mem_cons.1 hx with rfl | h
    · exact Int.dvd_trans h1.1 h2.2
    · exact h1.2 x h
theorem dvd_fold {d : Int} (xs : List Int) (a : Int) (ha : d ∣ a) (hx : ∀ x ∈ xs, d ∣ x) : d ∣ xs.foldl euc a := by
  induction xs generalizing a with
  | nil => exact ha
  | cons y xs ih => exact ih _ (dvd_euc a y ha (hx y (by simp))) (fun x h => hx x (by simp [h]))
theorem shrink_len (xs : List Int) : (shrinkF xs).length = xs.length := by unfold shrinkF; split <;> simp
theorem shrink_mul (xs : List Int) : ∃ g : Int, g ≠ 0 ∧ ∀ j, g * (shrinkF xs).getD j 0 = xs.getD j 0 := by
  by_cases h : allF xs = 0
  · exact ⟨1, by decide, fun j => by simp [shrinkF, h]⟩
  · refine ⟨allF xs, h, fun j => ?_⟩
    have hs : shrinkF xs = xs.map fun x => x.tdiv (allF xs) := by simp [shrinkF, h]
    rw [hs]
    by_cases hj : j < xs.length
    · have h1 : (xs.map fun x => x.tdiv (allF xs)).getD j 0 = xs[j].tdiv (allF xs) := by simp [List.getD, hj]
      have h2 : xs.getD j 0 = xs[j] := by simp [List.getD, hj]
      rw [h1, h2, Int.mul_comm]
      exact Int.tdiv_mul_cancel ((fold_dvd xs 0).2 _ (List.getElem_mem hj))
    · simp [List.getD, hj]
theorem shrink_prim (xs : List Int) : (∀ x ∈ shrinkF xs, x = 0) ∨ Prim (shrinkF xs) := by
  by_cases h : allF xs = 0
  · refine .inl fun x hx => ?_
    have hs : shrinkF xs = xs := by simp [shrinkF, h]
    rw [hs] at hx
    have := (fold_dvd xs 0).2 x hx
    have h0 : xs.foldl euc 0 = 0 := h
    rw [h0] at this
    exact Int.zero_dvd.1 this
  · refine .inr fun d hd => ?_
    have hs : shrinkF xs = xs.map fun x => x.tdiv (allF xs) := by simp [shrinkF, h]
    have h1 : d * allF xs ∣ allF xs := dvd_fold xs 0 (Int.dvd_zero _) fun x hx => by
      have h2 := hd (x.tdiv (allF xs)) (by rw [hs]; exact List.mem_map_of_mem hx)
      have h3 := Int.tdiv_mul_cancel ((fold_dvd xs 0).2 x hx)
      have h4 := Int.mul_dvd_mul h2 (Int.dvd_refl (allF xs))
      have h5 : x.tdiv (allF xs) * allF xs = x := h3
      rw [h5] at h4
      exact h4
    obtain ⟨e, he⟩ := h1
    refine ⟨e, ?_⟩
    have h2 : allF xs * 1 = allF xs * (d * e) := by rw [Int.mul_one]; rw [← Int.mul_assoc, Int.mul_comm (allF xs) d]; exact he
    exact Int.eq_of_mul_eq_mul_left h h2

/-! ### entries -/
theorem comb_getD {a b : Int} {row piv : List Int} (h : row.length = piv.length) (j : Nat) : (combF a b row piv).getD j 0 = row.getD j 0 * a - piv.getD j 0 * b := by
  by_cases hj : j < row.length
  · have := combF_get? (a := a) (b := b) hj (h ▸ hj)
    simp only [List.getD, this, List.getElem?_eq_getElem hj, List.getElem?_eq_getElem (h ▸ hj : j < piv.length), Option.getD_some]
  · have h1 : ¬ j < (combF a b row piv).length := by rw [combF_len h]; exact hj
    have h2 : ¬ j < piv.length := h ▸ hj
    have e1 : (combF a b row piv).getD j 0 = 0 := by simp [List.getD, h1]
    have e2 : row.getD j 0 = 0 := by simp [List.getD, hj]
    have e3 : piv.getD j 0 = 0 := by simp [List.getD, h2]
    rw [e1, e2, e3]; omega
theorem cleanF_getD {M : List (List Int)} {pos col k : Nat} (hk : k < M.length) : (cleanF M pos col).getD k [] = if k = pos then M.getD k [] else cleanRow (M.getD pos []) col (M.getD k []) := by
  have h := cleanF_get (pos := pos) (col := col) hk
  have h1 : (cleanF M pos col).getD k [] = (cleanF M pos col)[k]'(by rw [cleanF_len]; exact hk) := by rw [List.getD, List.getElem?_eq_getElem (by rw [cleanF_len]; exact hk)]; rfl
  have h2 : M.getD k [] = M[k] := by rw [List.getD, List.getElem?_eq_getElem hk]; rfl
  rw [h1, h, h2]
theorem swapF_getD {M : List (List Int)} {p i k : Nat} (hp : p < M.length) (hi : i < M.length) : (swapF M p i).getD k [] = M.getD (sw p i k) [] := by
  unfold swapF sw List.getD
  rw [List.getElem?_set, List.getElem?_set]
  by_cases e1 : k = i
  · subst e1
    by_cases e2 : k = p
    · subst e2; simp [hp]
    · simp [e2, hi]
  · by_cases e2 : k = p
    · subst e2; simp [Ne.symm e1, hp]
    · simp [Ne.symm e1, Ne.symm e2, e1, e2]
theorem find_some {col : Nat} : ∀ {rs : List (List Int)} {i0 i : Nat}, findL col rs i0 = some i → i0 ≤ i ∧ i < i0 + rs.length ∧ (rs.getD (i - i0) []).getD col 0 ≠ 0 := by
  intro rs
  induction rs with
  | nil => intro i0 i h; cases h
  | cons r rs ih =>
    intro i0 i h
    unfold findL at h
    by_cases hz : r.getD col 0 ≠ 0
    · rw [if_pos hz] at h
      cases h
      refine ⟨Nat.le_refl _, by simp, ?_⟩
      simpa using hz
    · rw [if_neg hz] at h
      obtain ⟨h1, h2, h3⟩ := ih h
      refine ⟨by omega, by simp only [List.length_cons]; omega, ?_⟩
      have : i - i0 = (i - (i0 + 1)) + 1 := by omega
      rw [this]
      simpa using h3
theorem find_none {col : Nat} : ∀ {rs : List (List Int)} {i0 : Nat}, findL col rs i0 = none → ∀ k, k < rs.length → (rs.getD k []).getD col 0 = 0 := by
  intro rs
  induction rs with
  | nil => intro i0 _ k hk; cases hk
  | cons r rs ih =>
    intro i0 h k hk
    unfold findL at h
    by_cases hz : r.getD col 0 ≠ 0
    · rw [if_pos hz] at h; cases h
    · rw [if_neg hz] at h
      cases k with
      | zero => simpa using hz
      | succ k =>
        have := ih h k (by simpa using hk)
        simpa using this

/-! ### What the steps keep -/
structure Elim (m n : Nat) (S T : Nat → Nat → Int) (M : List (List Int)) (pos col : Nat) (pc : Nat → Nat) : Prop where
  len : M.length = m
  row : ∀ k, k < m → (M.getD k []).length = n
  bin : ∀ l j, l < m → S l j = 0 ∨ S l j = 1
  posm : pos ≤ m
  mono : ∀ i k, i < k → k < pos → pc i < pc k
  pcl : ∀ i, i < pos → pc i < col
  prop : ∀ k, k < m → ∃ a b : Int, a ≠ 0 ∧ b ≠ 0 ∧ ∀ j, a * ent M k j = b * wd m S T k j
  piv : ∀ i, i < pos → wd m S T i (pc i) ≠ 0
  off : ∀ i, i < pos → ∀ k, k < m → k ≠ i → wd m S T k (pc i) = 0
  low : ∀ k, pos ≤ k → k < m → ∀ j, j < col → wd m S T k j = 0
  supp : ∀ k, k < m → ∀ l, l < m → l ≠ k → pos ≤ l → T k l = 0
  diag : ∀ k, pos ≤ k → k < m → T k k ≠ 0
  inj : ∀ c : Nat → Int, (∀ l, l < m → pos ≤ l → c l = 0) → (∀ i, i < pos → sm m (fun l => c l * S l (pc i)) = 0) → ∀ l, l < m → c l = 0

section
variable {m n pos col : Nat} {S T : Nat → Nat → Int} {M : List (List Int)} {pc : Nat → Nat}
theorem mul_ne {a b : Int} (ha : a ≠ 0) (hb : b ≠ 0) : a * b ≠ 0 := Int.mul_ne_zero ha hb
theorem zero_of_mul {a b : Int} (ha : a ≠ 0) (h : a * b = 0) : b = 0 := (Int.mul_eq_zero.1 h).resolve_left ha
theorem Elim.ent_zero (h : Elim m n S T M pos col pc) {k j : Nat} (hk : k < m) : ent M k j = 0 ↔ wd m S T k j = 0 := by
  obtain ⟨a, b, ha, hb, hp⟩ := h.prop k hk
  have := hp j
  constructor
  · intro e; rw [e, Int.mul_zero] at this; exact zero_of_mul hb this.symm
  · intro e; rw [e, Int.mul_zero] at this; exact zero_of_mul ha this
theorem Elim.skip (h : Elim m n S T M pos col pc) (hz : ∀ k, pos ≤ k → k < m → ent M k col = 0) : Elim m n S T M pos (col + 1) pc := by
  refine ⟨h.len, h.row, h.bin, h.posm, h.mono, fun i hi => Nat.lt_succ_of_lt (h.pcl i hi), h.prop, h.piv, h.off, ?_, h.supp, h.diag, h.inj⟩
  intro k hk hkm j hj
  by_cases e : j = col
  · subst e; exact (h.ent_zero hkm).1 (hz k hk hkm)
  · exact h.low k hk hkm j (by omega)

theorem wd_sw {p i : Nat} (hp : p < m) (hi : i < m) (k j : Nat) : wd m (fun l => S (sw p i l)) (fun k l => T (sw p i k) (sw p i l)) k j = wd m S T (sw p i k) j :=
  sm_sw hp hi fun l => T (sw p i k) l * S l j
theorem Elim.swap (h : Elim m n S T M pos col pc) {i : Nat} (hpi : pos ≤ i) (him : i < m) :
    Elim m n (fun l => S (sw pos i l)) (fun k l => T (sw pos i k) (sw pos i l)) (swapF M pos i) pos col pc := by
  have hpm : pos < m := by omega
  have hge : ∀ {k}, pos ≤ k → pos ≤ sw pos i k := fun {k} hk => by unfold sw; grind
  have hlt : ∀ {k}, k < pos → sw pos i k = k := fun {k} hk => by unfold sw; grind
  have hm : ∀ {k}, k < m → sw pos i k < m := fun hk => sw_lt hpm him hk
  have hne : ∀ {k l}, k ≠ l → sw pos i k ≠ sw pos i l := fun {k l} hkl e => hkl (by have := congrArg (sw pos i) e; rwa [sw_sw, sw_sw] at this)
  have hg : ∀ k, (swapF M pos i).getD k [] = M.getD (sw pos i k) [] := fun k => swapF_getD (by rw [h.len]; exact hpm) (by rw [h.len]; exact him)
  refine ⟨by rw [swapF_len, h.len], fun k hk => by rw [hg]; exact h.row _ (hm hk), fun l j hl => h.bin _ j (hm hl), h.posm, h.mono, h.pcl, ?_, ?_, ?_, ?_, ?_, ?_, ?_⟩
  · intro k hk
    obtain ⟨a, b, ha, hb, hp⟩ := h.prop _ (hm hk)
    refine ⟨a, b, ha, hb, fun j => ?_⟩
    rw [wd_sw hpm him]
    unfold ent
    rw [hg]
    exact hp j
  · intro i' hi'
    rw [wd_sw hpm him, hlt hi']
    exact h.piv i' hi'
  · intro i' hi' k hk hki
    rw [wd_sw hpm him]
    refine h.off i' hi' _ (hm hk) ?_
    rw [← hlt hi']
    exact hne hki
  · intro k hk hkm j hj
    rw [wd_sw hpm him]
    exact h.low _ (hge hk) (hm hkm) j hj
  · intro k hk l hl hlk hpl
    exact h.supp _ (hm hk) _ (hm hl) (hne hlk) (hge hpl)
  · intro k hk hkm
    exact h.diag _ (hge hk) (hm hkm)
  · intro c hc hz l hl
    have h1 := h.inj (fun l => c (sw pos i l)) (fun l hl hpl => hc _ (hm hl) (hge hpl)) (fun i' hi' => by
      have h2 := hz i' hi'
      rw [← sm_sw hpm him] at h2
      rw [← h2]
      exact sm_congr fun l _ => by simp only [sw_sw]) (sw pos i l) (hm hl)
    simpa only [sw_sw] using h1

/-- A combination that has nothing at the pivots. -/
theorem wd_comb (a b : Int) (f g : Nat → Int) (j : Nat) : sm m (fun l => (a * f l - b * g l) * S l j) = a * sm m (fun l => f l * S l j) - b * sm m (fun l => g l * S l j) := sm_comb m a b f g _

def pcU (pc : Nat → Nat) (pos col : Nat) : Nat → Nat := fun i => if i = pos then col else pc i
def TU (m : Nat) (S T : Nat → Nat → Int) (pos col : Nat) : Nat → Nat → Int := fun k l => if k = pos then T k l else wd m S T pos col * T k l - wd m S T k col * T pos l
theorem wd_TU (k j : Nat) : wd m S (TU m S T pos col) k j = if k = pos then wd m S T k j else wd m S T pos col * wd m S T k j - wd m S T k col * wd m S T pos j := by
  by_cases e : k = pos
  · simp only [if_pos e]; exact sm_congr fun l _ => by simp only [TU, if_pos e]
  · simp only [if_neg e]
    have : wd m S (TU m S T pos col) k j = sm m (fun l => (wd m S T pos col * T k l - wd m S T k col * T pos l) * S l j) := sm_congr fun l _ => by simp only [TU, if_neg e]
    rw [this, wd_comb]
    rfl
theorem Elim.clean (h : Elim m n S T M pos col pc) (hpm : pos < m) (hne : ent M pos col ≠ 0) :
    Elim m n S (TU m S T pos col) (cleanF M pos col) (pos + 1) (col + 1) (pcU pc pos col) := by
  have ha : wd m S T pos col ≠ 0 := fun e => hne ((h.ent_zero hpm).2 e)
  have hg : ∀ {k}, k < m → (cleanF M pos col).getD k [] = if k = pos then M.getD k [] else cleanRow (M.getD pos []) col (M.getD k []) := fun hk => cleanF_getD (by rw [h.len]; exact hk)
  have hpcU : ∀ {i}, i < pos → pcU pc pos col i = pc i := fun {i} hi => by unfold pcU; rw [if_neg (by omega)]
  have hpcp : pcU pc pos col pos = col := by unfold pcU; rw [if_pos rfl]
  have hcl : ∀ k, k < m → k ≠ pos → wd m S (TU m S T pos col) k col = 0 := fun k hk e => by
    rw [wd_TU, if_neg e, Int.mul_comm]; omega
  have hofp : ∀ i, i < pos → wd m S T pos (pc i) = 0 := fun i hi => h.off i hi pos hpm (by omega)
  refine ⟨by rw [cleanF_len, h.len], ?_, h.bin, hpm, ?_, ?_, ?_, ?_, ?_, ?_, ?_, ?_, ?_⟩
  · intro k hk
    rw [hg hk]
    split
    · exact h.row k hk
    · unfold cleanRow
      split
      · exact h.row k hk
      · rw [shrink_len, combF_len (by rw [h.row k hk, h.row pos hpm])]; exact h.row k hk
  · intro i k hik hk
    by_cases e : k = pos
    · subst e; rw [hpcp, hpcU hik]; exact h.pcl i hik
    · rw [hpcU (by omega : k < pos), hpcU (by omega : i < pos)]; exact h.mono i k hik (by omega)
  · intro i hi
    by_cases e : i = pos
    · subst e; rw [hpcp]; omega
    · rw [hpcU (by omega : i < pos)]; have := h.pcl i (by omega); omega
  · intro k hk
    obtain ⟨a1, b1, ha1, hb1, hp1⟩ := h.prop k hk
    obtain ⟨a2, b2, ha2, hb2, hp2⟩ := h.prop pos hpm
    by_cases e : k = pos
    · refine ⟨a1, b1, ha1, hb1, fun j => ?_⟩
      rw [wd_TU, if_pos e]
      unfold ent
      rw [hg hk, if_pos e]
      exact hp1 j
    · by_cases hz : (M.getD k []).getD col 0 = 0
      · refine ⟨a1 * wd m S T pos col, b1, mul_ne ha1 ha, hb1, fun j => ?_⟩
        have hw : wd m S T k col = 0 := (h.ent_zero hk).1 hz
        rw [wd_TU, if_neg e, hw]
        unfold ent
        rw [hg hk, if_neg e, cleanRow, if_pos hz]
        have := hp1 j
        unfold ent at this
        grind
      · obtain ⟨g, hg0, hgm⟩ := shrink_mul (combF ((M.getD pos []).getD col 0) ((M.getD k []).getD col 0) (M.getD k []) (M.getD pos []))
        refine ⟨a1 * a2 * g, b1 * b2, mul_ne (mul_ne ha1 ha2) hg0, mul_ne hb1 hb2, fun j => ?_⟩
        rw [wd_TU, if_neg e]
        unfold ent
        rw [hg hk, if_neg e, cleanRow, if_neg hz]
        have h1 := hgm j
        rw [comb_getD (by rw [h.row k hk, h.row pos hpm])] at h1
        have e1 := hp1 j; have e2 := hp1 col; have e3 := hp2 j; have e4 := hp2 col
        unfold ent at e1 e2 e3 e4
        rw [Int.mul_assoc, h1]
        grind
  · intro i hi
    by_cases e : i = pos
    · subst e; rw [hpcp, wd_TU, if_pos rfl]; exact ha
    · have hi' : i < pos := by omega
      rw [hpcU hi', wd_TU, if_neg e, hofp i hi', Int.mul_zero, Int.sub_zero]
      exact mul_ne ha (h.piv i hi')
  · intro i hi k hk hki
    by_cases e : i = pos
    · subst e; rw [hpcp]; exact hcl k hk hki
    · have hi' : i < pos := by omega
      rw [hpcU hi', wd_TU]
      split
      · exact h.off i hi' k hk hki
      · rw [hofp i hi', h.off i hi' k hk hki]; omega
  · intro k hk hkm j hj
    by_cases e : j = col
    · subst e; exact hcl k hkm (by omega)
    · rw [wd_TU, if_neg (by omega), h.low k (by omega) hkm j (by omega), h.low pos (Nat.le_refl _) hpm j (by omega)]; omega
  · intro k hk l hl hlk hpl
    unfold TU
    split
    · rename_i e; subst e; exact h.supp _ hk l hl hlk (by omega)
    · rw [h.supp k hk l hl hlk (by omega), h.supp pos hpm l hl (by omega) (by omega)]; omega
  · intro k hk hkm
    unfold TU
    rw [if_neg (by omega), h.supp pos hpm k hkm (by omega) (by omega), Int.mul_zero, Int.sub_zero]
    exact mul_ne ha (h.diag k (by omega) hkm)
  · intro c hc hz
    have ht : T pos pos ≠ 0 := h.diag pos (Nat.le_refl _) hpm
    have h1 := h.inj (fun l => T pos pos * c l - c pos * T pos l) (fun l hl hpl => by
      by_cases e : l = pos
      · subst e; rw [Int.mul_comm]; omega
      · show T pos pos * c l - c pos * T pos l = 0
        rw [hc l hl (by omega), h.supp pos hpm l hl e hpl]; omega) (fun i hi => by
      rw [wd_comb]
      have h2 := hz i (by omega)
      rw [hpcU hi] at h2
      rw [h2, show sm m (fun l => T pos l * S l (pc i)) = wd m S T pos (pc i) from rfl, hofp i hi]
      omega)
    have h3 : T pos pos * sm m (fun l => c l * S l col) - c pos * wd m S T pos col = 0 := by
      have : sm m (fun l => (T pos pos * c l - c pos * T pos l) * S l col) = 0 := sm_zero fun l hl => by rw [h1 l hl]; omega
      rw [wd_comb] at this
      exact this
    have h4 := hz pos (by omega)
    rw [hpcp] at h4
    rw [h4] at h3
    have h5 : c pos = 0 := by
      have : wd m S T pos col * c pos = 0 := by rw [Int.mul_comm]; omega
      exact zero_of_mul ha this
    intro l hl
    have h6 := h1 l hl
    rw [h5] at h6
    exact zero_of_mul ht (by omega)

/-- A row that has been cleaned is small. -/
theorem Elim.alike (h : Elim m n S T M pos col pc) {k : Nat} (hk : k < m) {c : Nat → Int} (hc : ∃ l, l < m ∧ c l ≠ 0) (hs : ∀ l, l < m → pos ≤ l → l ≠ k → c l = 0) (hz : ∀ i, i < pos → i ≠ k → sm m (fun l => c l * S l (pc i)) = 0) :
    ∃ d e : Int, d ≠ 0 ∧ e ≠ 0 ∧ ∀ l, l < m → d * c l = e * T k l := by
  have hkey : ∀ t x : Int, t ≠ 0 → (∀ l, l < m → t * c l - x * T k l = 0) → ∃ d e : Int, d ≠ 0 ∧ e ≠ 0 ∧ ∀ l, l < m → d * c l = e * T k l := fun t x ht h1 => by
    refine ⟨t, x, ht, ?_, fun l hl => by have := h1 l hl; omega⟩
    intro e
    obtain ⟨l, hl, hne⟩ := hc
    have := h1 l hl
    rw [e] at this
    exact hne (zero_of_mul ht (by omega))
  by_cases hkp : pos ≤ k
  · refine hkey (T k k) (c k) (h.diag k hkp hk) (h.inj _ (fun l hl hpl => ?_) (fun i hi => ?_))
    · by_cases e : l = k
      · subst e; rw [Int.mul_comm]; omega
      · show T k k * c l - c k * T k l = 0
        rw [hs l hl hpl e, h.supp k hk l hl e hpl]; omega
    · rw [wd_comb, hz i hi (by omega), show sm m (fun l => T k l * S l (pc i)) = wd m S T k (pc i) from rfl, h.off i hi k hk (by omega)]; omega
  · have hkp' : k < pos := by omega
    refine hkey (wd m S T k (pc k)) (sm m (fun l => c l * S l (pc k))) (h.piv k hkp') (h.inj _ (fun l hl hpl => ?_) (fun i hi => ?_))
    · show wd m S T k (pc k) * c l - _ * T k l = 0
      rw [hs l hl hpl (by omega), h.supp k hk l hl (by omega) hpl]; omega
    · rw [wd_comb]
      by_cases e : i = k
      · subst e
        rw [show sm m (fun l => T i l * S l (pc i)) = wd m S T i (pc i) from rfl, Int.mul_comm]; omega
      · rw [hz i hi e, show sm m (fun l => T k l * S l (pc i)) = wd m S T k (pc i) from rfl, h.off i hi k hk (fun e2 => e e2.symm)]; omega
theorem Elim.small (h : Elim m n S T M pos col pc) (h8 : m ≤ 8) {k : Nat} (hk : k < m) (hp : Prim (M.getD k [])) : ∀ x ∈ M.getD k [], x.natAbs ≤ 2 ^ 25 := by
  have hex : ∃ is cs : List Nat, is.Nodup ∧ (∀ i ∈ is, i < m) ∧ cs.length < is.length ∧ (∀ l, l < m → pos ≤ l → l ≠ k → l ∉ is) ∧ (∀ i, i < pos → i ≠ k → pc i ∈ cs) := by
    by_cases hkp : pos ≤ k
    · refine ⟨k :: List.range pos, (List.range pos).map pc, ?_, ?_, by simp, ?_, ?_⟩
      · rw [List.nodup_cons]; exact ⟨by simp; omega, List.nodup_range⟩
      · intro i hi; simp at hi; omega
      · intro l hl hpl hlk; simp; omega
      · intro i hi _; simp; exact ⟨i, hi, rfl⟩
    · refine ⟨List.range pos, (List.range (pos - 1)).map fun i => pc (if i < k then i else i + 1), List.nodup_range, ?_, by simp; omega, ?_, ?_⟩
      · intro i hi; simp at hi; have := h.posm; omega
      · intro l hl hpl hlk; simp; omega
      · intro i hi hik
        simp only [List.mem_map, List.mem_range]
        by_cases e : i < k
        · exact ⟨i, by omega, by rw [if_pos e]⟩
        · exact ⟨i - 1, by omega, by rw [if_neg (by omega)]; congr 1; omega⟩
  obtain ⟨is, cs, hnd, him, hlen, hs, hcs⟩ := hex
  have hlm : is.length ≤ m := by
    have : is.length ≤ (List.range m).length := (List.nodup_iff_count.1 hnd |> fun _ => hnd.length_le_of_subset (fun i hi => List.mem_range.2 (him i hi)))
    simpa using this
  obtain ⟨c, hc0, hc1, hc2, hc3⟩ := combo h.bin hnd him hlen (by omega)
  obtain ⟨d, e, hd, he, hde⟩ := h.alike hk hc0 (fun l hl hpl hlk => hc1 l (hs l hl hpl hlk)) (fun i hi hik => hc2 _ (hcs i hi hik))
  obtain ⟨a, b, ha, hb, hab⟩ := h.prop k hk
  have hu : ∀ j, d * sm m (fun l => c l * S l j) = e * wd m S T k j := fun j => by
    unfold wd
    rw [← sm_mul, ← sm_mul]
    exact sm_congr fun l hl => by rw [← Int.mul_assoc, ← Int.mul_assoc, hde l hl]
  have hle := prim_le (mul_ne hd hb) (mul_ne he ha) hp (u := fun j => sm m (fun l => c l * S l j)) (fun j _ => by
    have h1 := hu j
    have h2 := hab j
    unfold ent at h2
    grind)
  intro x hx
  obtain ⟨j, hj, rfl⟩ := List.getElem_of_mem hx
  have h1 := hle j hj
  have h2 : (M.getD k []).getD j 0 = (M.getD k [])[j] := by rw [List.getD, List.getElem?_eq_getElem hj]; rfl
  rw [h2] at h1
  exact Nat.le_trans h1 (hc3 j)

/-- The rows' combinations stay. -/
def SameSpan (m : Nat) (R S : Nat → Nat → Int) : Prop := ∀ e : Nat → Int, (∃ c : Nat → Int, ∀ j, sm m (fun l => c l * S l j) = e j) ↔ ∃ c : Nat → Int, ∀ j, sm m (fun l => c l * R l j) = e j
theorem SameSpan.sw {R : Nat → Nat → Int} (h : SameSpan m R S) {p i : Nat} (hp : p < m) (hi : i < m) : SameSpan m R (fun l => S (sw p i l)) := by
  intro e
  rw [← h e]
  constructor
  · rintro ⟨c, hc⟩
    refine ⟨fun l => c (Inf.sw p i l), fun j => ?_⟩
    rw [← hc j, ← sm_sw hp hi]
    exact sm_congr fun l _ => by simp only [sw_sw]
  · rintro ⟨c, hc⟩
    refine ⟨fun l => c (Inf.sw p i l), fun j => ?_⟩
    rw [← hc j, ← sm_sw hp hi]
    exact sm_congr fun l _ => by simp only [sw_sw]
def InvE (m n : Nat) (R : Nat → Nat → Int) (pos col : Nat) (M : List (List Int)) : Prop :=
  ∃ S T pc, Elim m n S T M pos col pc ∧ SameSpan m R S ∧ ∀ k, k < m → ∀ x ∈ M.getD k [], x.natAbs ≤ 2 ^ 25

theorem mem_getD {M : List (List Int)} {r : List Int} (hr : r ∈ M) : ∃ k, k < M.length ∧ M.getD k [] = r := by
  obtain ⟨k, hk, rfl⟩ := List.getElem_of_mem hr
  exact ⟨k, hk, by rw [List.getD, List.getElem?_eq_getElem hk]; rfl⟩
theorem keepsE {R : Nat → Nat → Int} (h8 : m ≤ 8) : Keeps (InvE m n R) := by
  constructor
  · rintro pos col M ⟨S, T, pc, h, hR, hB⟩ hf
    refine ⟨S, T, pc, h.skip fun k hk hkm => ?_, hR, hB⟩
    have := find_none hf (k - pos) (by rw [List.length_drop, h.len]; omega)
    have e : (M.drop pos).getD (k - pos) [] = M.getD k [] := by
      unfold List.getD
      rw [List.getElem?_drop, show pos + (k - pos) = k from by omega]
    rw [e] at this
    exact this
  · rintro pos col M i ⟨S, T, pc, h, hR, hB⟩ hf
    obtain ⟨h1, h2, h3⟩ := find_some hf
    rw [List.length_drop, h.len] at h2
    have him : i < m := by omega
    have hpm : pos < m := by omega
    have e : (M.drop pos).getD (i - pos) [] = M.getD i [] := by
      unfold List.getD
      rw [List.getElem?_drop, show pos + (i - pos) = i from by omega]
    rw [e] at h3
    have hs := h.swap h1 him
    have hRs := hR.sw hpm him
    have hg : ∀ k, (swapF M pos i).getD k [] = M.getD (sw pos i k) [] := fun k => swapF_getD (by rw [h.len]; exact hpm) (by rw [h.len]; exact him)
    have hBs : ∀ k, k < m → ∀ x ∈ (swapF M pos i).getD k [], x.natAbs ≤ 2 ^ 25 := fun k hk => by rw [hg]; exact hB _ (sw_lt hpm him hk)
    have hne : ent (swapF M pos i) pos col ≠ 0 := by
      unfold ent
      rw [hg, show sw pos i pos = i from by unfold sw; rw [if_pos rfl]]
      exact h3
    refine ⟨fun r hr => ?_, ?_⟩
    · obtain ⟨k, hk, rfl⟩ := mem_getD hr
      exact hBs k (by rw [← hs.len]; exact hk)
    · have hc := hs.clean hpm hne
      refine ⟨_, _, _, hc, hRs, fun k hk => ?_⟩
      have hgc := cleanF_getD (pos := pos) (col := col) (M := swapF M pos i) (k := k) (by rw [hs.len]; exact hk)
      by_cases hkp : k = pos
      · rw [hgc, if_pos hkp]; exact hBs k hk
      · by_cases hz : ((swapF M pos i).getD k []).getD col 0 = 0
        · rw [hgc, if_neg hkp, cleanRow, if_pos hz]; exact hBs k hk
        · have he : (cleanF (swapF M pos i) pos col).getD k [] = shrinkF (combF (((swapF M pos i).getD pos []).getD col 0) (((swapF M pos i).getD k []).getD col 0) ((swapF M pos i).getD k []) ((swapF M pos i).getD pos [])) := by rw [hgc, if_neg hkp, cleanRow, if_neg hz]
          rcases shrink_prim (combF (((swapF M pos i).getD pos []).getD col 0) (((swapF M pos i).getD k []).getD col 0) ((swapF M pos i).getD k []) ((swapF M pos i).getD pos [])) with h0 | h0
          · rw [he]; intro x hx; rw [h0 x hx]; decide
          · exact hc.small h8 hk (he ▸ h0)
theorem reduceGo_inv {Inv : Nat → Nat → List (List Int) → Prop} (hk : Keeps Inv) : ∀ (f pos col : Nat) (M : List (List Int)), Inv pos col M → ∃ pos', Inv pos' (col + f) (reduceGo f pos col M) := by
  intro f
  induction f with
  | zero => intro pos col M h; exact ⟨pos, h⟩
  | succ f ih =>
    intro pos col M h
    unfold reduceGo
    cases hf : findL col (M.drop pos) pos with
    | none =>
      obtain ⟨p, hp⟩ := ih pos (col + 1) M (hk.skip _ _ _ h hf)
      exact ⟨p, by rw [show col + (f + 1) = col + 1 + f from by omega]; exact hp⟩
    | some i =>
      obtain ⟨p, hp⟩ := ih (pos + 1) (col + 1) _ (hk.step _ _ _ _ h hf).2
      exact ⟨p, by rw [show col + (f + 1) = col + 1 + f from by omega]; exact hp⟩
theorem InvE.init {R : List (List Int)} (hm : R.length = m) (hn : ∀ k, k < m → (R.getD k []).length = n) (hb : ∀ k j, ent R k j = 0 ∨ ent R k j = 1) : InvE m n (fun l j => ent R l j) 0 0 R := by
  have hw : ∀ k, k < m → ∀ j, wd m (fun l j => ent R l j) (fun k l => if l = k then 1 else 0) k j = ent R k j := fun k hk j => by
    unfold wd
    rw [sm_single hk (fun l _ hne => by simp [hne])]
    simp
  refine ⟨fun l j => ent R l j, fun k l => if l = k then 1 else 0, fun _ => 0, ⟨hm, hn, fun l j _ => hb l j, Nat.zero_le _, fun i k _ hk => absurd hk (Nat.not_lt_zero _), fun i hi => absurd hi (Nat.not_lt_zero _), ?_, fun i hi => absurd hi (Nat.not_lt_zero _), fun i hi => absurd hi (Nat.not_lt_zero _), fun k _ _ j hj => absurd hj (Nat.not_lt_zero _), ?_, ?_, fun c hc _ l hl => hc l hl (Nat.zero_le _)⟩, fun _ => Iff.rfl, ?_⟩
  · intro k hk
    exact ⟨1, 1, by decide, by decide, fun j => by rw [hw k hk]⟩
  · intro k _ l _ hlk _; simp [hlk]
  · intro k _ _; simp
  · intro k hk x hx
    obtain ⟨j, hj, rfl⟩ := List.getElem_of_mem hx
    have h1 := hb k j
    have h2 : ent R k j = (R.getD k [])[j] := by unfold ent; rw [List.getD.eq_def (R.getD k []), List.getElem?_eq_getElem hj]; rfl
    rw [h2] at h1
    rcases h1 with h | h <;> rw [h] <;> decide

/-! ### What is told in the end -/
/-- A row that has something in one place alone. -/
def LoneAt (r : List Int) (j : Nat) : Prop := r.getD j 0 ≠ 0 ∧ ∀ i, i ≠ j → r.getD i 0 = 0
theorem Elim.tells (h : Elim m n S T M pos col pc) (hend : ∀ k, pos ≤ k → k < m → ∀ j, wd m S T k j = 0) {j : Nat} :
    (∃ q : Int, q ≠ 0 ∧ ∃ c : Nat → Int, ∀ j', sm m (fun l => c l * S l j') = if j' = j then q else 0) ↔ ∃ k, k < pos ∧ pc k = j ∧ LoneAt (M.getD k []) j := by
  have hent : ∀ k, k < m → ∀ j, (M.getD k []).getD j 0 = 0 ↔ wd m S T k j = 0 := fun k hk j => h.ent_zero hk
  constructor
  · rintro ⟨q, hq, c, hc⟩
    -- the rows that came to nothing are let go
    have hred : ∀ f, ∃ (q : Int) (c : Nat → Int), q ≠ 0 ∧ (∀ j', sm m (fun l => c l * S l j') = if j' = j then q else 0) ∧ ∀ l, l < m → m ≤ l + f → pos ≤ l → c l = 0 := by
      intro f
      induction f with
      | zero => exact ⟨q, c, hq, hc, fun l hl hf => by omega⟩
      | succ f ih =>
        obtain ⟨q, c, hq, hc, hl0⟩ := ih
        by_cases hk : pos + f + 1 ≤ m
        · have hkm : m - (f + 1) < m := by omega
          obtain ⟨k, hke⟩ : ∃ k, m - (f + 1) = k := ⟨_, rfl⟩
          rw [hke] at hkm
          have ht := h.diag k (by omega) hkm
          refine ⟨T k k * q, fun l => T k k * c l - c k * T k l, mul_ne ht hq, fun j' => ?_, fun l hl hf hpl => ?_⟩
          · rw [wd_comb, hc, show sm m (fun l => T k l * S l j') = wd m S T k j' from rfl, hend k (by omega) hkm]
            split <;> omega
          · show T k k * c l - c k * T k l = 0
            by_cases e : l = k
            · subst e; rw [Int.mul_comm]; omega
            · rw [h.supp k hkm l hl e hpl, hl0 l hl (by omega) hpl]; omega
        · exact ⟨q, c, hq, hc, fun l hl hf hpl => hl0 l hl (by omega) hpl⟩
    obtain ⟨q, c, hq, hc, hl0⟩ := hred m
    have hc0 : ∀ l, l < m → pos ≤ l → c l = 0 := fun l hl hpl => hl0 l hl (by omega) hpl
    by_cases hex : ∃ k, k < pos ∧ pc k = j
    · obtain ⟨k, hk, rfl⟩ := hex
      have hkm : k < m := Nat.lt_of_lt_of_le hk h.posm
      refine ⟨k, hk, rfl, ?_⟩
      have hinjp : ∀ i, i < pos → i ≠ k → pc i ≠ pc k := fun i hi hne => by
        rcases Nat.lt_or_gt_of_ne hne with hlt | hlt
        · have := h.mono i k hlt hk; omega
        · have := h.mono k i hlt hi; omega
      have h1 := h.inj (fun l => wd m S T k (pc k) * c l - q * T k l) (fun l hl hpl => by
        show wd m S T k (pc k) * c l - q * T k l = 0
        rw [hc0 l hl hpl, h.supp k hkm l hl (by omega) hpl]; omega) (fun i hi => by
        rw [wd_comb, hc, show sm m (fun l => T k l * S l (pc i)) = wd m S T k (pc i) from rfl]
        by_cases e : i = k
        · subst e; rw [if_pos rfl, Int.mul_comm]; omega
        · rw [if_neg (hinjp i hi e), h.off i hi k hkm (fun e2 => e e2.symm)]; omega)
      refine ⟨fun e => h.piv k hk ((hent k hkm _).1 e), fun i hi => (hent k hkm i).2 ?_⟩
      have h2 : sm m (fun l => (wd m S T k (pc k) * c l - q * T k l) * S l i) = 0 := sm_zero fun l hl => by rw [h1 l hl]; omega
      rw [wd_comb, hc, if_neg hi, show sm m (fun l => T k l * S l i) = wd m S T k i from rfl] at h2
      exact zero_of_mul hq (by omega)
    · exfalso
      have h1 := h.inj c hc0 (fun i hi => by rw [hc, if_neg (fun e => hex ⟨i, hi, e⟩)])
      have h2 := hc j
      rw [if_pos rfl, sm_zero (fun l hl => by rw [h1 l hl]; omega)] at h2
      exact hq h2.symm
  · rintro ⟨k, hk, rfl, h1, h2⟩
    have hkm : k < m := Nat.lt_of_lt_of_le hk h.posm
    refine ⟨wd m S T k (pc k), h.piv k hk, T k, fun j' => ?_⟩
    show wd m S T k j' = _
    split
    · rename_i e; subst e; rfl
    · rename_i e; exact (hent k hkm j').1 (h2 j' e)
end
end Go.Inf
