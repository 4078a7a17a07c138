/- Words for proofs about formulas: heaps that grow, rows, rows of one's own. -/
import Derived.Test.YtbhggmghelmnhaaClNiceCode
namespace Go
section
variable {P : Program} {H H' H1 : PHeap}

theorem bCase_intro {b : Bool} {A B : Prop} (h1 : b = true → A) (h2 : b = false → B) : bCase b A B := by cases b; exact h2 rfl; exact h1 rfl
theorem onlyIf_intro {b : Bool} {A : Prop} (h1 : b = true) (h2 : A) : onlyIf b A := onlyIf_iff.2 ⟨h1, h2⟩

/-- What is known may be forgotten. -/
theorem CallP.forget {f : FuncId} {args : Array Value} {K K' : Value → PHeap → Prop} (h : CallP P f args H K) (hk : ∀ v H', K v H' → ∃ H0 : PHeap, H0.le H' ∧ K' v H0) : CallP P f args H K' :=
  fun w hw => (h w hw).mono fun _ _ ⟨v, H', e, hs, hk'⟩ => by
    obtain ⟨H0, h0, h1⟩ := hk v H' hk'
    refine ⟨v, H0, e, ⟨fun i o hi => hs.sub i o (h0 i o hi), hs.os, hs.tape, hs.output, hs.size, fun b hb hn => ?_⟩, h1⟩
    obtain ⟨k1, k2⟩ := hs.keep b hb hn
    refine ⟨k1, ?_⟩
    cases hq : H0 b with
    | none => rfl
    | some o => rw [h0 b o hq] at k2; cases k2
theorem CallP.of_le {f : FuncId} {args : Array Value} {K : Value → PHeap → Prop} (h : CallP P f args H K) (hk : ∀ v H', K v H' → H.le H') : CallP P f args H fun v H' => (∃ H2, K v H2) ∧ H' = H :=
  h.forget fun v H' hq => ⟨H, hk v H' hq, ⟨H', hq⟩, rfl⟩

theorem PHeap.le.put {b : Nat} {o : Obj} (h : H.le H') (hb : H b = none) : H.le (H'.put b o) := by
  intro i o' hi
  have hne : i ≠ b := by intro e; rw [e, hb] at hi; cases hi
  rw [PHeap.put_other _ _ hne]
  exact h i o' hi
theorem PHeap.le.none (h : H.le H') {b : Nat} (hb : H' b = none) : H b = none := by
  cases hq : H b with
  | none => rfl
  | some o => rw [h b o hq] at hb; cases hb

theorem cell_le (h : H.le H') {p : Addr} {v : Value} (hc : H.cell? p = some v) : H'.cell? p = some v := by
  unfold PHeap.cell? at hc ⊢
  cases hq : H p.block with
  | none => rw [hq] at hc; cases hc
  | some o => rw [hq] at hc; rw [h _ _ hq]; exact hc
theorem has_le (h : H.le H') {p : Addr} {cs : List Value} (hc : H.has p cs) : H'.has p cs := fun j v hj => cell_le h (hc j v hj)
theorem rowAt_le (h : H.le H') {a : Option Addr} {cs : List Value} (hc : H.rowAt a cs) : H'.rowAt a cs := by
  cases a with
  | none => exact hc
  | some p => exact has_le h hc

theorem Addr.add_add (p : Addr) (i j : Nat) : (p.add i).add j = p.add (i + j) := by
  unfold Addr.add
  by_cases hi : i = 0
  · subst hi; simp
  · rw [if_neg hi]
    by_cases hj : j = 0
    · subst hj; rw [if_pos rfl, if_neg (by simpa using hi)]; rfl
    · rw [if_neg hj, if_neg (by omega)]
      simp [Nat.add_assoc]
@[simp] theorem Addr.add_zero (p : Addr) : p.add 0 = p := by simp [Addr.add]
theorem add_block (p : Addr) (i : Nat) : (p.add i).block = p.block := by unfold Addr.add; split <;> rfl

/-- A row's tail. -/
theorem has_drop {p : Addr} {cs : List Value} (h : H.has p cs) (n : Nat) : H.has (p.add n) (cs.drop n) := by
  intro j v hj
  rw [Addr.add_add]
  exact h (n + j) v (by simpa using hj)

theorem has_inj {p : Addr} {xs ys : List Value} (hx : H.has p xs) (hy : H.has p ys) (hl : xs.length = ys.length) : xs = ys := by
  apply List.ext_getElem? fun i => ?_
  cases h1 : xs[i]? with
  | none => cases h2 : ys[i]? with
    | none => rfl
    | some v =>
      have e1 := List.getElem?_eq_none_iff.1 h1
      have e2 := (List.getElem?_eq_some_iff.1 h2).1
      omega
  | some v => cases h2 : ys[i]? with
    | none =>
      have e1 := List.getElem?_eq_none_iff.1 h2
      have e2 := (List.getElem?_eq_some_iff.1 h1).1
      omega
    | some u =>
      have := (hx i v h1).symm.trans (hy i u h2)
      exact this
theorem rowAt_inj {a : Option Addr} {xs ys : List Value} (hx : H.rowAt a xs) (hy : H.rowAt a ys) (hl : xs.length = ys.length) : xs = ys := by
  cases a with
  | none => exact (show xs = [] from hx).trans (show ys = [] from hy).symm
  | some p => exact has_inj hx hy hl

/-! ### A row of one's own -/
/-- The slice (a, l, c) is a row beside H, in H1; cells is what it holds; sz is an element's size. -/
structure OwnS (H H1 : PHeap) (elem : TypeId) (sz : Nat) (a : Option Addr) (l c : Nat) (cells : List Value) : Prop where
  le : H.le H1
  len : cells.length = l * sz
  own : (a = none ∧ l = 0 ∧ c = 0) ∨ ∃ b rest, a = some ⟨b, 0, none⟩ ∧ H b = none ∧ H1 b = some (.cells (cells ++ rest).toArray elem (0, 0)) ∧ (cells ++ rest).length = c * sz ∧ l ≤ c

theorem OwnS.nil {elem sz : Nat} (h : H.le H1) : OwnS H H1 elem sz none 0 0 [] := ⟨h, by simp, .inl ⟨rfl, rfl, rfl⟩⟩
theorem OwnS.row {elem sz : Nat} {a : Option Addr} {l c : Nat} {cells : List Value} (h : OwnS H H1 elem sz a l c cells) : H1.rowAt a cells := by
  rcases h.own with ⟨rfl, hl, _⟩ | ⟨b, rest, rfl, _, h1, _, _⟩
  · have := h.len; rw [hl] at this
    exact List.eq_nil_of_length_eq_zero (by simpa using this)
  · intro j v hj
    have hlt : j < cells.length := (List.getElem?_eq_some_iff.1 hj).1
    unfold PHeap.cell?
    rw [add_block]
    simp only [h1]
    by_cases h0 : j = 0
    · subst h0; simp [Addr.add]; simpa [List.getElem?_append_left hlt] using hj
    · simp [Addr.add, h0]; simpa [List.getElem?_append_left hlt] using hj
/-- A change elsewhere leaves it. -/
theorem OwnS.frame {elem sz : Nat} {a : Option Addr} {l c : Nat} {cells : List Value} {H2 : PHeap} (h : OwnS H H1 elem sz a l c cells) (hle : H.le H2) (hb : ∀ b, a = some ⟨b, 0, none⟩ → H2 b = H1 b) : OwnS H H2 elem sz a l c cells := by
  refine ⟨hle, h.len, ?_⟩
  rcases h.own with h1 | ⟨b, rest, h1, h2, h3, h4⟩
  · exact .inl h1
  · exact .inr ⟨b, rest, h1, h2, by rw [hb b h1]; exact h3, h4⟩

theorem OwnS.app {elem sz bytes : Nat} {z : Array Value} {a : Option Addr} {l c n : Nat} {cells xs : List Value} (h : OwnS H H1 elem sz a l c cells) (hx : xs.length = n * sz) (hz : z.size = sz)
    (hb : 2 * (l + n) * bytes ≤ 2 ^ 48) (hl : l + n ≤ 2 ^ 62) :
    appOk H1 sz bytes a l c n xs ∧ ∀ a' c' H2, appRes H1 elem sz z a l c n xs a' c' H2 → OwnS H H2 elem sz a' (l + n) c' (cells ++ xs) := by
  have hlen := h.len
  have hrow := h.row
  constructor
  · refine ⟨fun hcap => ?_, fun hcap => ⟨Nat.le_trans (Nat.mul_le_mul_right _ (nextslicecap_le hcap)) hb, hl, cells, hlen, hrow⟩⟩
    rcases h.own with ⟨rfl, hl0, hc0⟩ | ⟨b, rest, rfl, h2, h3, h4, h5⟩
    · exact ⟨H1, rfl⟩
    · refine ⟨H1.put b (.cells (writeAt (cells ++ rest).toArray (l * sz) xs) elem (0, 0)), ?_⟩
      show PHeap.storeTo _ _ _ _
      have hoff : ((⟨b, 0, none⟩ : Addr).add (l * sz)).off = l * sz := by unfold Addr.add; split <;> simp_all
      refine ⟨_, elem, 0, 0, ?_, ?_, ?_, .inl (Nat.zero_le _), by rw [add_block, hoff]⟩
      · rw [add_block]; exact h3
      · unfold Addr.add; split <;> rfl
      · have : ((⟨b, 0, none⟩ : Addr).add (l * sz)).off = l * sz := by unfold Addr.add; split <;> simp_all
        rw [this]
        simp only [List.size_toArray, h4, hx]
        rw [← Nat.add_mul]
        exact Nat.mul_le_mul_right _ hcap
  · intro a' c' H2 hr
    rcases hr with ⟨hcap, rfl, rfl, hput⟩ | ⟨hcap, hc', b', ss, hb', rfl, hss, hrs, rfl⟩
    · rcases h.own with ⟨rfl, hl0, hc0⟩ | ⟨b, rest, rfl, h2, h3, h4, h5⟩
      · have : H2 = H1 := hput
        subst this
        have hn : n = 0 := by omega
        subst hn hl0 hc0
        have : xs = [] := List.eq_nil_of_length_eq_zero (by simpa using hx)
        subst this
        have : cells = [] := List.eq_nil_of_length_eq_zero (by simpa using hlen)
        subst this
        exact ⟨h.le, by simp, .inl ⟨rfl, rfl, rfl⟩⟩
      · have hput' : PHeap.storeTo H1 ((⟨b, 0, none⟩ : Addr).add (l * sz)) xs H2 := hput
        obtain ⟨c0, el, lo, hi, g1, g2, g3, g4, rfl⟩ := hput'
        rw [add_block] at g1 ⊢
        have hoff : ((⟨b, 0, none⟩ : Addr).add (l * sz)).off = l * sz := by unfold Addr.add; split <;> simp_all
        rw [hoff] at g3 ⊢
        simp only at g1
        rw [h3] at g1
        cases g1
        have hle2 : (l + n) * sz ≤ c' * sz := Nat.mul_le_mul_right _ hcap
        rw [Nat.add_mul] at hle2
        refine ⟨h.le.put h2, by simp [hlen, hx, Nat.add_mul], .inr ⟨b, rest.drop xs.length, rfl, h2, ?_, ?_, hcap⟩⟩
        · rw [PHeap.put_same]
          congr 2
          apply Array.toList_inj.1
          rw [writeAt_list _ _ _ (by simpa using g3)]
          simp only [List.take_append_of_le_length (Nat.le_of_eq hlen.symm)]
          rw [List.take_of_length_le (Nat.le_of_eq hlen), List.drop_append]
          simp [hlen, List.drop_of_length_le, Nat.add_sub_cancel_left]
        · simp only [List.length_append, List.length_drop] at h4 ⊢
          omega
    · have hcs : ss = cells := rowAt_inj hrs hrow (hss.trans hlen.symm)
      subst hcs
      have hmul : (l + n) * sz ≤ c' * sz := Nat.mul_le_mul_right _ hc'
      have hsz : (Builtin.zeroCells z (c' - (l + n))).size = (c' - (l + n)) * sz := by simp [Builtin.zeroCells, hz]
      refine ⟨h.le.put (h.le.none hb'), by simp [hlen, hx, Nat.add_mul], .inr ⟨b', (Builtin.zeroCells z (c' - (l + n))).toList, rfl, h.le.none hb', ?_, ?_, hc'⟩⟩
      · rw [PHeap.put_same]
        congr 2
        apply Array.toList_inj.1
        simp
      · simp only [List.length_append, Array.length_toList, hsz, hlen, hx, Nat.sub_mul]
        rw [Nat.add_mul] at hmul ⊢
        omega

/-! ### A block -/
theorem PHeap.put_put (H : PHeap) (b : Nat) (o o' : Obj) : (H.put b o).put b o' = H.put b o' := by
  funext i; unfold PHeap.put; by_cases h : i = b <;> simp [h]
theorem PHeap.put_self {b : Nat} {o : Obj} (h : H b = some o) : H.put b o = H := by
  funext i; unfold PHeap.put; by_cases hi : i = b
  · subst hi; simp [h]
  · simp [hi]
theorem has_block {b : Nat} {cs : List Value} {elem : TypeId} {fz : Nat × Nat} (h : H b = some (.cells cs.toArray elem fz)) : H.has ⟨b, 0, none⟩ cs := by
  intro j v hj
  unfold PHeap.cell?
  rw [add_block]
  simp only [h]
  by_cases h0 : j = 0
  · subst h0; simp [Addr.add]; simpa using hj
  · simp [Addr.add, h0]; simpa using hj
theorem cell_block {b : Nat} {cs : List Value} {elem : TypeId} {fz : Nat × Nat} {i : Nat} {v : Value} (h : H b = some (.cells cs.toArray elem fz)) (hi : cs[i]? = some v) : H.cell? ((Addr.mk b 0 none).add i) = some v := has_block h i v hi
theorem storeTo_block {b : Nat} {cs : List Value} {elem : TypeId} {i : Nat} {v : Value} (h : H b = some (.cells cs.toArray elem (0, 0))) (hi : i < cs.length) :
    PHeap.storeTo H ((Addr.mk b 0 none).add i) [v] (H.put b (.cells (cs.set i v).toArray elem (0, 0))) := by
  have hoff : ((⟨b, 0, none⟩ : Addr).add i).off = i := by unfold Addr.add; split <;> simp_all
  refine ⟨cs.toArray, elem, 0, 0, by rw [add_block]; exact h, by unfold Addr.add; split <;> rfl, by rw [hoff]; simp; omega, .inl (Nat.zero_le _), ?_⟩
  rw [add_block, hoff]
  simp [writeAt]
theorem rowAt_get {a : Option Addr} {cs : List Value} (h : H.rowAt a cs) {i : Nat} {v : Value} (hi : cs[i]? = some v) : ∃ p, a = some p ∧ H.cell? (p.add i) = some v := by
  cases a with
  | none =>
    have : cs = [] := h
    subst this
    cases hi
  | some p => exact ⟨p, rfl, h i v hi⟩
end
end Go
