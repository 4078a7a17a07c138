import Init
namespace Go.Inf
/-- Σ_{l<m} f l -/
def sm : Nat → (Nat → Int) → Int
  | 0, _ => 0
  | m + 1, f => sm m f + f m

theorem sm_congr {m : Nat} {f g : Nat → Int} (h : ∀ l, l < m → f l = g l) : sm m f = sm m g := by
  induction m with
  | zero => rfl
  | succ m ih => simp only [sm]; rw [ih (fun l hl => h l (by omega)), h m (by omega)]
theorem sm_zero {m : Nat} {f : Nat → Int} (h : ∀ l, l < m → f l = 0) : sm m f = 0 := by
  induction m with
  | zero => rfl
  | succ m ih => simp only [sm]; rw [ih (fun l hl => h l (by omega)), h m (by omega)]; rfl
theorem sm_add (m : Nat) (f g : Nat → Int) : sm m (fun l => f l + g l) = sm m f + sm m g := by
  induction m with
  | zero => rfl
  | succ m ih => simp only [sm]; rw [ih]; omega
theorem sm_mul (m : Nat) (a : Int) (f : Nat → Int) : sm m (fun l => a * f l) = a * sm m f := by
  induction m with
  | zero => simp [sm]
  | succ m ih => simp only [sm]; rw [ih, Int.mul_add]
theorem sm_comb (m : Nat) (a b : Int) (f g s : Nat → Int) : sm m (fun l => (a * f l - b * g l) * s l) = a * sm m (fun l => f l * s l) - b * sm m (fun l => g l * s l) := by
  induction m with
  | zero => simp [sm]
  | succ m ih => simp only [sm]; rw [ih]; grind
theorem sm_single {m k : Nat} {f : Nat → Int} (hk : k < m) (h : ∀ l, l < m → l ≠ k → f l = 0) : sm m f = f k := by
  induction m with
  | zero => omega
  | succ m ih =>
    simp only [sm]
    by_cases e : k = m
    · subst e; rw [sm_zero (fun l hl => h l (by omega) (by omega))]; omega
    · rw [ih (by omega) (fun l hl hne => h l (by omega) hne), h m (by omega) (by omega)]; omega
theorem sm_le {m : Nat} {f g : Nat → Int} (h : ∀ l, l < m → f l ≤ g l) : sm m f ≤ sm m g := by
  induction m with
  | zero => exact Int.le_refl _
  | succ m ih => simp only [sm]; have := ih (fun l hl => h l (by omega)); have := h m (by omega); omega
/-- two places change -/
def sw (p i l : Nat) : Nat := if l = p then i else if l = i then p else l
theorem sw_sw (p i l : Nat) : sw p i (sw p i l) = l := by unfold sw; grind
theorem sw_lt {p i l m : Nat} (hp : p < m) (hi : i < m) (hl : l < m) : sw p i l < m := by unfold sw; grind
theorem sm_sw {m p i : Nat} (hp : p < m) (hi : i < m) (f : Nat → Int) : sm m (fun l => f (sw p i l)) = sm m f := by
  by_cases e : p = i
  · subst e
    exact sm_congr fun l _ => by unfold sw; grind
  · have h1 : sm m (fun l => f (sw p i l)) = sm m (fun l => f l + ((if l = p then f i - f p else 0) + (if l = i then f p - f i else 0))) := sm_congr fun l _ => by unfold sw; grind
    have h2 : sm m (fun l => if l = p then f i - f p else 0) = f i - f p := by rw [sm_single hp (fun l _ hne => if_neg hne), if_pos rfl]
    have h3 : sm m (fun l => if l = i then f p - f i else 0) = f p - f i := by rw [sm_single hi (fun l _ hne => if_neg hne), if_pos rfl]
    rw [h1, sm_add, sm_add, h2, h3]
    omega

/-! ### Two of many are alike -/
theorem pigeon : ∀ (M N : Nat) (f : Nat → Nat), M < N → (∀ a, a < N → f a < M) → ∃ a b, a < b ∧ b < N ∧ f a = f b := by
  intro M
  induction M with
  | zero => intro N f h hf; exact absurd (hf 0 h) (Nat.not_lt_zero _)
  | succ M ih =>
    intro N f h hf
    obtain ⟨N', rfl⟩ : ∃ N', N = N' + 1 := ⟨N - 1, by omega⟩
    by_cases hex : ∃ a, a < N' ∧ f a = f N'
    · obtain ⟨a, ha, he⟩ := hex
      exact ⟨a, N', ha, by omega, he⟩
    · have hne : ∀ a, a < N' → f a ≠ f N' := fun a ha he => hex ⟨a, ha, he⟩
      have hN := hf N' (by omega)
      obtain ⟨a, b, hab, hb, he⟩ := ih N' (fun a => if f a = M then f N' else f a) (by omega) (fun a ha => by
        have h1 := hf a (by omega)
        have h2 := hne a ha
        show (if f a = M then f N' else f a) < M
        split <;> omega)
      refine ⟨a, b, hab, by omega, ?_⟩
      have h1 := hne a (by omega)
      have h2 := hne b hb
      have he' : (if f a = M then f N' else f a) = (if f b = M then f N' else f b) := he
      split at he' <;> split at he' <;> omega

/-- the numbers that a number's digits give to places -/
def Bn : Nat := 2 ^ 22
def cf : List Nat → Nat → Nat → Nat
  | [], _, _ => 0
  | i :: is, a, l => if l = i then a % Bn else cf is (a / Bn) l

theorem cf_out {is : List Nat} {l : Nat} (h : l ∉ is) (a : Nat) : cf is a l = 0 := by
  induction is generalizing a with
  | nil => rfl
  | cons i is ih =>
    simp only [List.mem_cons, not_or] at h
    simp only [cf]
    rw [if_neg h.1]
    exact ih h.2 _
theorem cf_inj {is : List Nat} (hnd : is.Nodup) : ∀ {a b : Nat}, a < Bn ^ is.length → b < Bn ^ is.length → (∀ l ∈ is, cf is a l = cf is b l) → a = b := by
  induction is with
  | nil => intro a b ha hb _; simp at ha hb; omega
  | cons i is ih =>
    intro a b ha hb h
    have hn := List.nodup_cons.1 hnd
    have h0 : a % Bn = b % Bn := by have := h i (by simp); simpa [cf] using this
    have hB : 0 < Bn := by decide
    have h1 : a / Bn = b / Bn := by
      refine ih hn.2 ?_ ?_ ?_
      · rw [List.length_cons, Nat.pow_succ] at ha; exact (Nat.div_lt_iff_lt_mul hB).2 ha
      · rw [List.length_cons, Nat.pow_succ] at hb; exact (Nat.div_lt_iff_lt_mul hB).2 hb
      · intro l hl
        have hne : l ≠ i := fun e => hn.1 (e ▸ hl)
        have := h l (by simp [hl])
        simpa [cf, hne] using this
    rw [← Nat.div_add_mod a Bn, ← Nat.div_add_mod b Bn, h0, h1]

section
variable {m : Nat} {S : Nat → Nat → Int}
def vl (m : Nat) (S : Nat → Nat → Int) (is : List Nat) (a j : Nat) : Int := sm m fun l => (cf is a l : Int) * S l j
theorem vl_bounds (hb : ∀ l j, l < m → S l j = 0 ∨ S l j = 1) {is : List Nat} (him : ∀ i ∈ is, i < m) (a j : Nat) : 0 ≤ vl m S is a j ∧ vl m S is a j ≤ is.length * ((Bn : Int) - 1) := by
  constructor
  · have : sm m (fun _ => 0) ≤ vl m S is a j := sm_le fun l hl => by
      rcases hb l j hl with h | h <;> rw [h] <;> omega
    rw [sm_zero (fun _ _ => rfl)] at this
    exact this
  · induction is generalizing a with
    | nil => unfold vl; rw [sm_zero (fun l _ => by simp [cf])]; simp
    | cons i is ih =>
      have hi := him i (by simp)
      have h1 := ih (fun x hx => him x (by simp [hx])) (a / Bn)
      have h2 : vl m S (i :: is) a j ≤ sm m (fun l => (if l = i then ((a % Bn : Nat) : Int) else 0) + (cf is (a / Bn) l : Int) * S l j) := by
        refine sm_le fun l hl => ?_
        simp only [cf]
        have h3 : (0 : Int) ≤ (a % Bn : Nat) := by omega
        have h4 : (0 : Int) ≤ (cf is (a / Bn) l : Nat) := by omega
        by_cases e : l = i
        · simp only [e, if_true]
          rcases hb i j hi with h | h <;> rw [h] <;> grind
        · simp only [e, if_false]; omega
      rw [sm_add, sm_single hi (fun l _ hne => by simp [hne])] at h2
      simp only [if_true] at h2
      have h5 : a % Bn < Bn := Nat.mod_lt _ (by decide)
      have h6 : sm m (fun l => (cf is (a / Bn) l : Int) * S l j) = vl m S is (a / Bn) j := rfl
      rw [h6] at h2
      have h7 : (((i :: is).length : Nat) : Int) * ((Bn : Int) - 1) = (is.length : Int) * ((Bn : Int) - 1) + ((Bn : Int) - 1) := by
        simp only [List.length_cons]; grind
      rw [h7]
      omega

def Vn : Nat := 8 * Bn
def enc (m : Nat) (S : Nat → Nat → Int) (is : List Nat) : List Nat → Nat → Nat
  | [], _ => 0
  | j :: cs, a => (vl m S is a j).toNat + Vn * enc m S is cs a
theorem enc_lt (hb : ∀ l j, l < m → S l j = 0 ∨ S l j = 1) {is : List Nat} (him : ∀ i ∈ is, i < m) (h8 : is.length ≤ 8) (cs : List Nat) (a : Nat) : enc m S is cs a < Vn ^ cs.length := by
  induction cs with
  | nil => simp [enc]
  | cons j cs ih =>
    simp only [enc, List.length_cons, Nat.pow_succ]
    have h1 := vl_bounds hb him a j
    have h2 : (vl m S is a j).toNat < Vn := by
      have h3 : (is.length : Int) * ((Bn : Int) - 1) ≤ 8 * ((Bn : Int) - 1) := Int.mul_le_mul_of_nonneg_right (by omega) (by decide)
      have h4 : (8 : Int) * ((Bn : Int) - 1) < (Vn : Int) := by decide
      omega
    have h5 : Vn * enc m S is cs a + Vn ≤ Vn ^ cs.length * Vn := by
      rw [← Nat.mul_succ, Nat.mul_comm (Vn ^ _)]
      exact Nat.mul_le_mul_left _ ih
    omega
theorem enc_inj (hb : ∀ l j, l < m → S l j = 0 ∨ S l j = 1) {is : List Nat} (him : ∀ i ∈ is, i < m) (h8 : is.length ≤ 8) {a b : Nat} : ∀ {cs : List Nat}, enc m S is cs a = enc m S is cs b → ∀ j ∈ cs, vl m S is a j = vl m S is b j := by
  intro cs
  induction cs with
  | nil => intro _ j hj; cases hj
  | cons j cs ih =>
    intro he
    have hv : ∀ x, (vl m S is x j).toNat < Vn ∧ 0 ≤ vl m S is x j := fun x => by
      have h1 := vl_bounds hb him x j
      have h3 : (is.length : Int) * ((Bn : Int) - 1) ≤ 8 * ((Bn : Int) - 1) := Int.mul_le_mul_of_nonneg_right (by omega) (by decide)
      have h4 : (8 : Int) * ((Bn : Int) - 1) < (Vn : Int) := by decide
      omega
    simp only [enc] at he
    have ha := hv a
    have hbb := hv b
    have e1 : (vl m S is a j).toNat = (vl m S is b j).toNat := by
      have := congrArg (· % Vn) he
      simp only [Nat.add_mul_mod_self_left] at this
      rwa [Nat.mod_eq_of_lt ha.1, Nat.mod_eq_of_lt hbb.1] at this
    have e2 : enc m S is cs a = enc m S is cs b := by
      rw [e1] at he
      exact Nat.eq_of_mul_eq_mul_left (by decide : 0 < Vn) (Nat.add_left_cancel he)
    intro j' hj'
    rcases List.mem_cons.1 hj' with rfl | h
    · omega
    · exact ih e2 j' h

theorem count {k L : Nat} (hk : k < L) (hL : L ≤ 8) : Vn ^ k < Bn ^ L := by
  have h1 : Vn ^ k = 8 ^ k * Bn ^ k := Nat.mul_pow _ _ _
  have h2 : 8 ^ k < Bn := Nat.lt_of_le_of_lt (Nat.pow_le_pow_right (by omega) (by omega : k ≤ 7)) (by decide)
  have h3 : Bn ^ (k + 1) ≤ Bn ^ L := Nat.pow_le_pow_right (by decide) hk
  have h4 : 0 < Bn ^ k := Nat.pow_pos (by decide)
  rw [h1]
  refine Nat.lt_of_lt_of_le ?_ h3
  rw [Nat.pow_succ, Nat.mul_comm (Bn ^ k)]
  exact Nat.mul_lt_mul_of_pos_right h2 h4

/-- A small combination that has nothing at some places. -/
theorem combo (hb : ∀ l j, l < m → S l j = 0 ∨ S l j = 1) {is cs : List Nat} (hnd : is.Nodup) (him : ∀ i ∈ is, i < m) (hl : cs.length < is.length) (h8 : is.length ≤ 8) :
    ∃ c : Nat → Int, (∃ l, l < m ∧ c l ≠ 0) ∧ (∀ l, l ∉ is → c l = 0) ∧ (∀ j ∈ cs, sm m (fun l => c l * S l j) = 0) ∧ ∀ j, (sm m (fun l => c l * S l j)).natAbs ≤ 2 ^ 25 := by
  obtain ⟨a, b, hab, hbN, he⟩ := pigeon (Vn ^ cs.length) (Bn ^ is.length) (enc m S is cs) (count hl h8) (fun a _ => enc_lt hb him h8 cs a)
  have hsub : ∀ j, sm m (fun l => ((cf is a l : Int) - (cf is b l : Int)) * S l j) = vl m S is a j - vl m S is b j := fun j => by
    have := sm_comb m 1 1 (fun l => (cf is a l : Int)) (fun l => (cf is b l : Int)) (fun l => S l j)
    simp only [Int.one_mul] at this
    exact this
  refine ⟨fun l => (cf is a l : Int) - (cf is b l : Int), ?_, ?_, ?_, ?_⟩
  · false_or_by_contra
    rename_i hn
    have hz : ∀ l ∈ is, cf is a l = cf is b l := fun l hl => by
      false_or_by_contra
      rename_i hne
      exact hn ⟨l, him l hl, by simp only; omega⟩
    have := cf_inj hnd (Nat.lt_trans hab hbN) hbN hz
    omega
  · intro l hl
    simp only [cf_out hl]
    rfl
  · intro j hj
    rw [hsub, enc_inj hb him h8 he j hj]
    omega
  · intro j
    rw [hsub]
    have h1 := vl_bounds hb him a j
    have h2 := vl_bounds hb him b j
    have h3 : (is.length : Int) * ((Bn : Int) - 1) ≤ 8 * ((Bn : Int) - 1) := Int.mul_le_mul_of_nonneg_right (by omega) (by decide)
    have h4 : (8 : Int) * ((Bn : Int) - 1) ≤ 2 ^ 25 := by decide
    omega
end

/-! ### Rows that nothing divides -/
def Prim (r : List Int) : Prop := ∀ d : Int, (∀ x ∈ r, d ∣ x) → d ∣ 1
theorem dvd_of_coprime {a b c : Int} (h : a ∣ b * c) (hg : Int.gcd a b = 1) : a ∣ c := by
  have h1 : a.natAbs ∣ b.natAbs * c.natAbs := by rw [← Int.natAbs_mul]; exact Int.natAbs_dvd_natAbs.2 h
  have h2 : Nat.Coprime a.natAbs b.natAbs := hg
  exact Int.natAbs_dvd_natAbs.1 (h2.dvd_of_dvd_mul_left h1)
theorem prim_le {p q : Int} (hp : p ≠ 0) (hq : q ≠ 0) {r : List Int} (hr : Prim r) {u : Nat → Int} (h : ∀ j, j < r.length → p * u j = q * r.getD j 0) : ∀ j, j < r.length → (r.getD j 0).natAbs ≤ (u j).natAbs := by
  have hg : Int.gcd p q ≠ 0 := fun e => hp (Int.gcd_eq_zero_iff.1 e).1
  obtain ⟨p', hp'⟩ := Int.gcd_dvd_left p q
  obtain ⟨q', hq'⟩ := Int.gcd_dvd_right p q
  have hgz : ((Int.gcd p q : Nat) : Int) ≠ 0 := by omega
  obtain ⟨gg, hgg⟩ : ∃ gg : Int, ((Int.gcd p q : Nat) : Int) = gg := ⟨_, rfl⟩
  have hcop : Int.gcd p' q' = 1 := by
    have h1 : Int.gcd p q = Int.gcd p q * Int.gcd p' q' := by
      have h2 : Int.gcd (((Int.gcd p q : Nat) : Int) * p') (((Int.gcd p q : Nat) : Int) * q') = Int.gcd p q * Int.gcd p' q' := by rw [Int.gcd_mul_left, Int.natAbs_natCast]
      rw [← hp', ← hq'] at h2
      exact h2
    have h3 : Int.gcd p q * 1 = Int.gcd p q * Int.gcd p' q' := by rw [Nat.mul_one]; exact h1
    exact (Nat.eq_of_mul_eq_mul_left (by omega) h3).symm
  have hq0 : q' ≠ 0 := fun e => hq (by rw [hq', e, Int.mul_zero])
  have h' : ∀ j, j < r.length → p' * u j = q' * r.getD j 0 := fun j hj => by
    have h1 := h j hj
    rw [hgg] at hp' hq' hgz
    have h2 : gg * (p' * u j) = gg * (q' * r.getD j 0) := by rw [← Int.mul_assoc, ← Int.mul_assoc, ← hp', ← hq']; exact h1
    exact Int.eq_of_mul_eq_mul_left hgz h2
  have hd : p' ∣ 1 := hr p' fun x hx => by
    obtain ⟨j, hj, rfl⟩ := List.getElem_of_mem hx
    have h1 : r.getD j 0 = r[j] := by simp [List.getD, hj]
    refine dvd_of_coprime (b := q') ⟨u j, ?_⟩ hcop
    rw [← h1]
    exact (h' j hj).symm
  have hn : p'.natAbs = 1 := by
    have := Int.natAbs_dvd_natAbs.2 hd
    exact Nat.dvd_one.1 this
  intro j hj
  have h1 := congrArg Int.natAbs (h' j hj)
  rw [Int.natAbs_mul, Int.natAbs_mul, hn, Nat.one_mul] at h1
  rw [h1]
  exact Nat.le_mul_of_pos_left _ (by omega)
end Go.Inf
