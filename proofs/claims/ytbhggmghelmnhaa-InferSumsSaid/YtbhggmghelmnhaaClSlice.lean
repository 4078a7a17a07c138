/- Slices of one's own beside a base that holds all else; one value appended. -/
import Derived.Test.YtbhggmghelmnhaaClHeap
namespace Go
section
variable {P : Program} {H H' H1 H2 : PHeap}

theorem PHeap.le.put_new {b : Nat} {o : Obj} (hb : H b = Option.none) : H.le (H.put b o) := (PHeap.le.refl H).put hb

/-- All but the block of an address. -/
def PHeap.wo (H : PHeap) (a : Option Addr) : PHeap := fun i => if a = some ⟨i, 0, none⟩ then none else H i
theorem wo_le (H : PHeap) (a : Option Addr) : (H.wo a).le H := fun i o hi => by
  unfold PHeap.wo at hi
  split at hi
  · cases hi
  · exact hi
theorem wo_none (H : PHeap) (b : Nat) : (H.wo (some ⟨b, 0, none⟩)) b = none := by simp [PHeap.wo]
theorem wo_other {a : Option Addr} {i : Nat} (h : a ≠ some ⟨i, 0, none⟩) : (H.wo a) i = H i := by simp [PHeap.wo, h]

/-- The base may be all but the row itself. -/
theorem OwnS.strong {elem sz : Nat} {a : Option Addr} {l c : Nat} {cells : List Value} (h : OwnS H H1 elem sz a l c cells) : OwnS (H1.wo a) H1 elem sz a l c cells := by
  refine ⟨wo_le _ _, h.len, ?_⟩
  rcases h.own with h1 | ⟨b, rest, h1, h2, h3, h4⟩
  · exact .inl h1
  · exact .inr ⟨b, rest, h1, by rw [h1]; exact wo_none _ _, h3, h4⟩
theorem OwnS.base {elem sz : Nat} {a : Option Addr} {l c : Nat} {cells : List Value} (h : OwnS H H1 elem sz a l c cells) : H.le (H1.wo a) := by
  intro i o hi
  unfold PHeap.wo
  rcases h.own with ⟨h1, _⟩ | ⟨b, rest, h1, h2, h3, h4⟩
  · rw [h1, if_neg (by simp)]; exact h.le _ _ hi
  · rw [if_neg]
    · exact h.le _ _ hi
    · intro e; rw [h1] at e; cases e; rw [h2] at hi; cases hi
/-- A smaller base. -/
theorem OwnS.less {elem sz : Nat} {a : Option Addr} {l c : Nat} {cells : List Value} (h : OwnS H H1 elem sz a l c cells) (hle : H'.le H) : OwnS H' H1 elem sz a l c cells := by
  refine ⟨hle.trans h.le, h.len, ?_⟩
  rcases h.own with h1 | ⟨b, rest, h1, h2, h3, h4⟩
  · exact .inl h1
  · exact .inr ⟨b, rest, h1, hle.none h2, h3, h4⟩
/-- More is known. -/
theorem OwnS.up {elem sz : Nat} {a : Option Addr} {l c : Nat} {cells : List Value} (h : OwnS H H1 elem sz a l c cells) (hle : H1.le H2) : OwnS H H2 elem sz a l c cells := by
  refine ⟨h.le.trans hle, h.len, ?_⟩
  rcases h.own with h1 | ⟨b, rest, h1, h2, h3, h4⟩
  · exact .inl h1
  · exact .inr ⟨b, rest, h1, h2, hle _ _ h3, h4⟩
/-- A row just made. -/
theorem OwnS.made {elem : TypeId} {b : Nat} {cells : List Value} {l : Nat} (hb : H b = none) (hl : cells.length = l) : OwnS H (H.put b (.cells cells.toArray elem (0, 0))) elem 1 (some ⟨b, 0, none⟩) l l cells :=
  ⟨PHeap.le.put_new hb, by omega, .inr ⟨b, [], rfl, hb, by rw [PHeap.put_same, List.append_nil], by simp; omega, Nat.le_refl _⟩⟩

/-- Values appended, that lie in a row just made. -/
theorem OwnS.apps {elem bytes : Nat} {z : Array Value} {a : Option Addr} {l c : Nat} {cells xs : List Value} {e2 : TypeId} {k : Nat} (h : OwnS H H1 elem 1 a l c cells) (hk : xs.length = k) (hz : z.size = 1)
    (hs : singles xs = true) (hb : 2 * (l + k) * bytes ≤ 2 ^ 48) (hl : l + k ≤ 2 ^ 62) {Q : Option Addr → Nat → PHeap → Prop} (hQ : ∀ a' c' H2, OwnS (H1.wo a) H2 elem 1 a' (l + k) c' (cells ++ xs) → Q a' c' H2) :
    ∀ n : Nat, H1 n = none → ∃ vs : List Value, vs.length = k ∧ PHeap.rowAt (H1.put n (.cells xs.toArray e2 (0, 0))) (some (Addr.mk n 0 none)) vs ∧ singles vs = true ∧
      appOk (H1.put n (.cells xs.toArray e2 (0, 0))) 1 bytes a l c k vs ∧
      ∀ a' c' H2, appRes (H1.put n (.cells xs.toArray e2 (0, 0))) elem 1 z a l c k vs a' c' H2 → Q a' c' H2 := by
  intro n hn
  have h' := h.strong.up (PHeap.le.put_new (o := .cells xs.toArray e2 (0, 0)) hn)
  obtain ⟨h1, h2⟩ := h'.app (bytes := bytes) (z := z) (n := k) (xs := xs) (by omega) hz hb hl
  refine ⟨xs, hk, ?_, hs, h1, fun a' c' H2 hr => hQ a' c' H2 (h2 a' c' H2 hr)⟩
  exact has_block (PHeap.put_same _ _ _)
theorem OwnS.app1 {elem bytes : Nat} {z : Array Value} {a : Option Addr} {l c : Nat} {cells : List Value} {x : Value} {e2 : TypeId} (h : OwnS H H1 elem 1 a l c cells) (hz : z.size = 1)
    (hs : singles [x] = true) (hb : 2 * (l + 1) * bytes ≤ 2 ^ 48) (hl : l + 1 ≤ 2 ^ 62) {Q : Option Addr → Nat → PHeap → Prop} (hQ : ∀ a' c' H2, OwnS (H1.wo a) H2 elem 1 a' (l + 1) c' (cells ++ [x]) → Q a' c' H2) :
    ∀ n : Nat, H1 n = none → ∃ vs : List Value, vs.length = 1 ∧ PHeap.rowAt (H1.put n (.cells #[x] e2 (0, 0))) (some (Addr.mk n 0 none)) vs ∧ singles vs = true ∧
      appOk (H1.put n (.cells #[x] e2 (0, 0))) 1 bytes a l c 1 vs ∧
      ∀ a' c' H2, appRes (H1.put n (.cells #[x] e2 (0, 0))) elem 1 z a l c 1 vs a' c' H2 → Q a' c' H2 := h.apps (xs := [x]) (e2 := e2) rfl hz hs hb hl hQ
/-- A row appended, that lies elsewhere. -/
theorem OwnS.appRow {elem bytes : Nat} {z : Array Value} {a q : Option Addr} {l c k : Nat} {cells xs : List Value} (h : OwnS H H1 elem 1 a l c cells) (hq : H1.rowAt q xs) (hk : xs.length = k) (hz : z.size = 1)
    (hs : singles xs = true) (hb : 2 * (l + k) * bytes ≤ 2 ^ 48) (hl : l + k ≤ 2 ^ 62) {Q : Option Addr → Nat → PHeap → Prop} (hQ : ∀ a' c' H2, OwnS (H1.wo a) H2 elem 1 a' (l + k) c' (cells ++ xs) → Q a' c' H2) :
    ∃ vs : List Value, vs.length = k * 1 ∧ PHeap.rowAt H1 q vs ∧ singles vs = true ∧ appOk H1 1 bytes a l c k vs ∧ ∀ a' c' H2, appRes H1 elem 1 z a l c k vs a' c' H2 → Q a' c' H2 := by
  obtain ⟨h1, h2⟩ := h.strong.app (bytes := bytes) (z := z) (n := k) (xs := xs) (by omega) hz hb hl
  exact ⟨xs, by omega, hq, hs, h1, fun a' c' H2 hr => hQ a' c' H2 (h2 a' c' H2 hr)⟩

theorem cell_rowAt {p : Addr} {cs : List Value} (h : H.rowAt (some p) cs) {i : Nat} {v : Value} (hi : cs[i]? = some v) : H.cell? (p.add i) = some v := h i v hi
theorem OwnS.ne {H H1 : PHeap} {elem sz : Nat} {a : Option Addr} {l c i : Nat} {cells : List Value} (h : OwnS H H1 elem sz a l c cells) (hi : H1 i = none) : a ≠ some ⟨i, 0, none⟩ := by
  rcases h.own with ⟨rfl, _⟩ | ⟨b, rest, rfl, _, h3, _⟩
  · simp
  · intro e; cases e; rw [hi] at h3; cases h3

theorem OwnS.cap {H H1 : PHeap} {elem : TypeId} {a : Option Addr} {l c : Nat} {cells : List Value} (h : OwnS H H1 elem 1 a l c cells) : l ≤ c := by
  rcases h.own with ⟨_, h1, h2⟩ | ⟨b, rest, _, _, _, _, h5⟩
  · omega
  · exact h5
theorem OwnS.ne2 {H H1 : PHeap} {elem sz : Nat} {a : Option Addr} {l c i : Nat} {cells : List Value} {o : Obj} (h : OwnS H H1 elem sz a l c cells) (hi : H i = some o) : a ≠ some ⟨i, 0, none⟩ := by
  rcases h.own with ⟨rfl, _⟩ | ⟨b, rest, rfl, h2, _, _⟩
  · simp
  · intro e; cases e; rw [hi] at h2; cases h2
theorem rowAt_at {H H' : PHeap} {p : Addr} {cs : List Value} (h : H.rowAt (some p) cs) (e : H' p.block = H p.block) : H'.rowAt (some p) cs := by
  intro j v hj
  have := h j v hj
  unfold PHeap.cell? at this ⊢
  rw [add_block] at this ⊢
  rw [e]; exact this
def PHeap.del (H : PHeap) (n : Nat) : PHeap := fun i => if i = n then none else H i
theorem del_other {H : PHeap} {n i : Nat} (h : i ≠ n) : H.del n i = H i := by simp [PHeap.del, h]
theorem del_le (H : PHeap) (n : Nat) : (H.del n).le H := fun i o hi => by
  unfold PHeap.del at hi
  split at hi
  · cases hi
  · exact hi
theorem le_del {H H' : PHeap} {n : Nat} (h : H.le H') (hn : H n = none) : H.le (H'.del n) := fun i o hi => by
  have hne : i ≠ n := fun e => by rw [e, hn] at hi; cases hi
  rw [del_other hne]; exact h _ _ hi

theorem le_wo {H H' : PHeap} {b : Nat} (h : H.le H') (hn : H b = none) : H.le (H'.wo (some ⟨b, 0, none⟩)) := fun i o hi => by
  rw [wo_other]
  · exact h _ _ hi
  · intro e; cases e; rw [hn] at hi; cases hi
theorem OwnS.re {H H1 H2 : PHeap} {elem sz : Nat} {a : Option Addr} {l c : Nat} {cells : List Value} (h : OwnS H H1 elem sz a l c cells) (he : ∀ b, a = some ⟨b, 0, none⟩ → H2 b = H1 b) : OwnS (H2.wo a) H2 elem sz a l c cells := by
  refine ⟨wo_le _ _, h.len, ?_⟩
  rcases h.own with h1 | ⟨b, rest, h1, h2, h3, h4⟩
  · exact .inl h1
  · exact .inr ⟨b, rest, h1, by rw [h1]; exact wo_none _ _, by rw [he b h1]; exact h3, h4⟩
theorem ne_of {H : PHeap} {i j : Nat} {o : Obj} (hi : H i = none) (hj : H j = some o) : i ≠ j := fun e => by rw [e, hj] at hi; cases hi

end
end Go
