import Derived.Test.YtbhggmghelmnhaaInfE
import Derived.Test.YtbhggmghelmnhaaInfP
import Derived.Test.YtbhggmghelmnhaaClSlice
import Derived.Shelf.Slices.In.SortNone
namespace Go.Inf
open Go Go.Proofs
theorem CallP.of_pure {P : Program} {f : FuncId} {args : Array Value} {H : PHeap} {v : Value} (h : ∀ w, Calls P f args w fun e w' => e = .returned v ∧ w' = w) : CallP P f args H fun v' H' => v' = v ∧ H' = H := by
  intro w hw
  refine (h w).mono ?_
  rintro e w' ⟨rfl, rfl⟩
  exact ⟨v, H, rfl, ⟨hw, rfl, rfl, rfl, Nat.le_refl _, fun i hi hn => ⟨rfl, hn⟩⟩, rfl, rfl⟩
theorem sort_nil {H : PHeap} {a : Option Addr} {c : Nat} : CallP Try.prog 23 #[.slice a 0 c] H fun v H' => v = .tuple #[] ∧ H' = H := CallP.of_pure fun w => Any.slices_Sort_int_none Try.lays189 a c w
theorem compact_nil {H : PHeap} {a : Option Addr} {c : Nat} : CallP Try.prog 24 #[.slice a 0 c] H fun v H' => v = .slice a 0 c ∧ H' = H := CallP.of_pure fun w => Any.slices_Compact_int_empty Try.lays20 a c w

theorem singles_vi (xs : List Int) : singles (xs.map vi) = true := by
  induction xs with
  | nil => rfl
  | cons x xs ih => simpa [singles, Value.single] using ih
theorem zeroRow_one (v : Value) (n : Nat) : zeroRow #[v] n = (List.replicate n v).toArray := by
  apply Array.toList_inj.1
  simp only [zeroRow, Array.toList_map, Array.toList_range]
  apply List.ext_getElem
  · simp
  · intro i h1 h2
    simp [Nat.mod_one]

/-- Rows of numbers. -/
def SS (H : PHeap) (a : Option Addr) (xss : List (List Int)) : Prop := ∃ hs : List Value, H.rowAt a hs ∧ hs.length = xss.length ∧ ∀ (k : Nat) (v : Value) (xs : List Int), hs[k]? = some v → xss[k]? = some xs → ∃ (p : Option Addr) (c : Nat), v = Value.slice p xs.length c ∧ H.rowAt p (xs.map vi)
theorem SS.le {H H' : PHeap} {a : Option Addr} {xss : List (List Int)} (h : SS H a xss) (hle : H.le H') : SS H' a xss := by
  obtain ⟨hs, h1, h2, h3⟩ := h
  refine ⟨hs, rowAt_le hle h1, h2, fun k v xs hv hx => ?_⟩
  obtain ⟨p, c, e, hr⟩ := h3 k v xs hv hx
  exact ⟨p, c, e, rowAt_le hle hr⟩
theorem SS.get {H : PHeap} {a : Option Addr} {xss : List (List Int)} (h : SS H a xss) {k : Nat} (hk : k < xss.length) : ∃ q p c, a = some q ∧ H.cell? (q.add k) = some (.slice p xss[k].length c) ∧ H.rowAt p (xss[k].map vi) := by
  obtain ⟨hs, h1, h2, h3⟩ := h
  obtain ⟨p, c, e, hr⟩ := h3 k _ _ (List.getElem?_eq_getElem (h2 ▸ hk)) (List.getElem?_eq_getElem hk)
  obtain ⟨q, hq, hc⟩ := rowAt_get h1 (List.getElem?_eq_getElem (h2 ▸ hk))
  exact ⟨q, p, c, hq, by rw [hc, e], hr⟩

theorem flat_len {xss : List (List Int)} {m : Nat} (h : ∀ xs ∈ xss, xs.length ≤ m) : xss.flatten.length ≤ m * xss.length := by
  induction xss with
  | nil => simp
  | cons x xss ih =>
    have h1 := h x (by simp)
    have h2 := ih fun y hy => h y (by simp [hy])
    simp only [List.flatten_cons, List.length_append, List.length_cons, Nat.mul_succ]
    omega
theorem take_flat {xss : List (List Int)} {k : Nat} (hk : k < xss.length) : (xss.take (k + 1)).flatten = (xss.take k).flatten ++ xss[k] := by
  rw [List.take_succ_eq_append_getElem hk, List.flatten_append]; simp only [List.flatten_cons, List.flatten_nil, List.append_nil]

/-- What the names' slice holds. -/
def NamesAt (H : PHeap) (a : Option Addr) (names : List Int) : Prop := names = [] ∨ ∃ b rest, a = some ⟨b, 0, none⟩ ∧ H b = some (.cells (names.map vi ++ rest).toArray 3 (0, 0))
theorem NamesAt.le {H H' : PHeap} {a : Option Addr} {names : List Int} (h : NamesAt H a names) (hle : H.le H') : NamesAt H' a names := by
  rcases h with h | ⟨b, rest, h1, h2⟩
  · exact .inl h
  · exact .inr ⟨b, rest, h1, hle _ _ h2⟩
theorem NamesAt.get {H : PHeap} {a : Option Addr} {names : List Int} (h : NamesAt H a names) {k : Nat} (hk : k < names.length) : ∃ q, a = some q ∧ H.cell? (q.add k) = some (vi names[k]) := by
  rcases h with h | ⟨b, rest, h1, h2⟩
  · rw [h] at hk; cases hk
  · exact ⟨_, h1, cell_block h2 (by rw [List.getElem?_append_left (by simpa using hk)]; simp [hk])⟩

theorem names_call {H H1 : PHeap} {a : Option Addr} {n c : Nat} {zs : List Int} (h : OwnS H H1 3 1 a n c (zs.map vi)) (hsz : n < 4611686018427387904) {K : Value → PHeap → Prop}
    (hK : ∀ H2 c', H.le H2 → NamesAt H2 a (Lib.compact (zs.mergeSort fun x y => decide (x ≤ y))) → K (.slice a (Lib.compact (zs.mergeSort fun x y => decide (x ≤ y))).length c') H2) :
    CallP Try.prog 23 #[.slice a n c] H1 fun v H2 => v = .tuple #[] ∧ CallP Try.prog 24 #[.slice a n c] H2 K := by
  have hlen : zs.length = n := by have := h.len; simpa using this
  rcases h.own with ⟨rfl, rfl, rfl⟩ | ⟨b, rest, rfl, h2, h3, h4, h5⟩
  · have hz : zs = [] := List.eq_nil_of_length_eq_zero hlen
    subst hz
    refine sort_nil.mono ?_
    rintro v H2 ⟨rfl, rfl⟩
    refine ⟨rfl, compact_nil.mono ?_⟩
    rintro v H3 ⟨rfl, rfl⟩
    have : Lib.compact (([] : List Int).mergeSort fun x y => decide (x ≤ y)) = [] := by simp [Lib.compact, Lib.compactUpTo]
    have hk := hK H3 0 h.le (.inl this)
    rw [this] at hk
    exact hk
  · subst hlen
    have hs := sort_call (c := c) h3 hsz
    refine hs.mono ?_
    rintro v H2 ⟨rfl, rfl⟩
    refine ⟨rfl, ?_⟩
    have hl : (zs.mergeSort fun x y => decide (x ≤ y)).length = zs.length := by simp
    have hc := compact_call (c := c) (PHeap.put_same H1 b (.cells ((zs.mergeSort fun x y => decide (x ≤ y)).map vi ++ rest).toArray 3 (0, 0))) (by omega) (by omega)
    rw [hl] at hc
    refine hc.mono ?_
    rintro v H3 ⟨rfl, rfl⟩
    refine hK _ _ ((h.le.put h2).put h2) (.inr ⟨b, (List.replicate (zs.length - (Lib.compact (zs.mergeSort fun x y => decide (x ≤ y))).length) (0 : Int)).map vi ++ rest, rfl, ?_⟩)
    rw [PHeap.put_same, List.map_append, List.append_assoc]

/-- infer.matrix -/
theorem matrix_call {H : PHeap} {a : Option Addr} {c : Nat} {xss : List (List Int)} (h : SS H a xss) (hn : xss.length ≤ 8) (hm : ∀ xs ∈ xss, xs.length ≤ 1000) :
    CallP Try.prog 15 #[.slice a xss.length c] H fun v H' => ∃ a1 c1 a2 c2 H2, v = .tuple #[.slice a1 xss.length c1, .slice a2 (namesF xss).length c2] ∧ H.le H2 ∧ NamesAt H2 a2 (namesF xss) ∧ H2.le H' ∧
      ((xss = [] ∧ a1 = none) ∨ ∃ hb rest bs, a1 = some ⟨hb, 0, none⟩ ∧ Mat H2 H' hb 43 2 rest bs (namesF xss).length (matF xss)) := by
  refine CallP.of_nv ?_
  rw [f15_is]
  have hw : ∀ {k m : Nat}, k < m → m ≤ 2 ^ 62 → IntKind.i64.wrap ((k : Int) + 1) = ((k + 1 : Nat) : Int) := fun hk hm => by rw [IntWalk.i64_in _ (by omega)]; rfl
  have hmu : ∀ {k m : Nat}, k < m → m - ((k + 1 : Nat) : Int).toNat < m - (k : Int).toNat := fun hk => by omega
  have hflat : ∀ k, (xss.take k).flatten.length ≤ 8000 := fun k => by
    have h1 := flat_len (xss := xss.take k) (m := 1000) fun xs hx => hm xs (List.mem_of_mem_take hx)
    have h2 : (xss.take k).length ≤ 8 := by rw [List.length_take]; omega
    omega
  refine ⟨fun vs H1 => match vs with
    | [.slice b n c, .int _ i] => ∃ k : Nat, i = k ∧ k ≤ xss.length ∧ n = (xss.take k).flatten.length ∧ OwnS H H1 3 1 b n c ((xss.take k).flatten.map vi)
    | _ => False, fun vs _ => match vs with
    | [_, .int _ i] => xss.length - i.toNat
    | _ => 0, ⟨0, rfl, Nat.zero_le _, rfl, OwnS.nil (PHeap.le.refl H)⟩, ?_⟩
  rintro b n c i H1 ⟨k, rfl, hk, rfl, hO⟩
  refine bCase_intro (fun h1 => ?_) (fun h1 => ?_)
  · have hlt : k < xss.length := by have := of_decide_eq_true h1; omega
    obtain ⟨q, p, cp, rfl, hc, hr⟩ := h.get hlt
    have hx := hm _ (List.getElem_mem hlt)
    have hf := hflat k
    refine ⟨q, rfl, by omega, by omega, p, _, cp, by simpa using cell_le hO.le hc, ?_⟩
    refine hO.appRow (rowAt_le hO.le hr) (by simp) rfl (singles_vi _) (by omega) (by omega) fun a' c' H2 hO2 => ?_
    rw [hw hlt (by omega)]
    refine ⟨⟨k + 1, rfl, hlt, by rw [take_flat hlt, List.length_append], ?_⟩, hmu hlt⟩
    rw [take_flat hlt, List.map_append]
    exact hO2.less hO.base
  · have hge : k = xss.length := by have := of_decide_eq_false h1; omega
    subst hge
    rw [List.take_length] at hO ⊢
    have hf := hflat xss.length
    rw [List.take_length] at hf
    refine names_call hO (by omega) fun H2 c2 hle hN => ?_
    obtain ⟨names, hnames⟩ : ∃ names, namesF xss = names := ⟨_, rfl⟩
    have hnm : Lib.compact (xss.flatten.mergeSort fun x y => decide (x ≤ y)) = names := hnames
    have hNn : names.length ≤ 8000 := by
      rw [← hnm]
      have := Lib.compact_length_le (xss.flatten.mergeSort fun x y => decide (x ≤ y))
      rw [List.length_mergeSort] at this
      omega
    rw [hnm] at hN ⊢
    refine ⟨b, _, c2, rfl, ?_⟩
    refine ⟨fun vs H3 => match vs with
      | [.slice a1 n c, .int _ i] => ∃ (k : Nat) (bs : List Nat) (HB : PHeap), i = k ∧ k ≤ xss.length ∧ n = k ∧ bs.length = k ∧ H2.le HB ∧ bs.Nodup ∧ (∀ b ∈ bs, H2 b = none) ∧
          (∀ (i b : Nat), bs[i]? = some b → HB b = some (.cells ((matRow names (xss.getD i [])).map vi).toArray 2 (0, 0))) ∧ OwnS HB H3 43 1 a1 n c (bs.map (hv names.length))
      | _ => False, fun vs _ => match vs with
      | [_, .int _ i] => xss.length - i.toNat
      | _ => 0, ⟨0, [], H2, rfl, Nat.zero_le _, rfl, rfl, PHeap.le.refl _, List.nodup_nil, (fun b hb => by cases hb), (fun i b hb => by simp at hb), OwnS.nil (PHeap.le.refl _)⟩, ?_⟩
    rintro a1 k c1 i H3 ⟨_, bs, HB, rfl, hk, rfl, hbl, hHB, hnd, hfree, hrows, hO3⟩
    refine bCase_intro (fun h4 => ?_) (fun h4 => ?_)
    · have hlt : k < xss.length := by have := of_decide_eq_true h4; omega
      obtain ⟨q, p, cp, rfl, hc, hr⟩ := h.get hlt
      have hH3 : H.le H3 := (hle.trans hHB).trans hO3.le
      obtain ⟨s, hs⟩ : ∃ s, xss[k] = s := ⟨_, rfl⟩
      have hsl : s.length ≤ 1000 := by rw [← hs]; exact hm _ (List.getElem_mem hlt)
      have hsmem : ∀ x ∈ s, x ∈ names := fun x hx => by rw [← hnames]; exact ((names_spec xss).2 x).2 ⟨s, by rw [← hs]; exact List.getElem_mem hlt, hx⟩
      rw [hs] at hc hr
      refine ⟨q, rfl, by omega, by omega, p, _, cp, by simpa using cell_le hH3 hc, by omega, Int.le_refl _, by omega, by omega, fun m hmn => ?_⟩
      refine ⟨fun vs H4 => match vs with
        | [.int _ i] => ∃ j : Nat, i = j ∧ j ≤ s.length ∧ H4 = H3.put m (.cells (((s.take j).foldl (setRow names) (List.replicate names.length 0)).map vi).toArray 2 (0, 0))
        | _ => False, fun vs _ => match vs with
        | [.int _ i] => s.length - i.toNat
        | _ => 0, ⟨0, rfl, Nat.zero_le _, ?_⟩, ?_⟩
      · have hz := zeroRow_one (.int .i64 0) ((names.length : Int).toNat * 1)
        rw [hz]
        simp
      rintro i H4 ⟨j, rfl, hj, rfl⟩
      have hle4 : H3.le (H3.put m (.cells (((s.take j).foldl (setRow names) (List.replicate names.length 0)).map vi).toArray 2 (0, 0))) := PHeap.le.put_new hmn
      have hrl : ∀ t : List Int, (t.foldl (setRow names) (List.replicate names.length 0)).length = names.length := fun t => matRow_len names t
      refine bCase_intro (fun h5 => ?_) (fun h5 => ?_)
      · have hjlt : j < s.length := by have := of_decide_eq_true h5; omega
        obtain ⟨p', rfl, hpc⟩ := rowAt_get (rowAt_le (hH3.trans hle4) hr) (i := j) (v := vi s[j]) (by simp [hjlt])
        have hxm := hsmem _ (List.getElem_mem hjlt)
        have hN4 := hN.le ((hHB.trans hO3.le).trans hle4)
        rcases hN4 with h0 | ⟨nb, rest, rfl, hnb⟩
        · rw [h0] at hxm; cases hxm
        have hsorted : names.Pairwise (· < ·) := by rw [← hnames]; exact (names_spec xss).1
        have hcount : names.countP (· < s[j]) < names.length := by
          obtain ⟨t, ht, he⟩ := List.getElem_of_mem hxm
          rw [← he, count_at hsorted ht]; exact ht
        have hsearch := search_call (c := c2) (x := s[j]) hnb rfl (by omega) (hsorted.imp fun h => Int.le_of_lt h)
        refine ⟨p', rfl, by omega, by omega, s[j], by simpa using hpc, hsearch.mono ?_⟩
        rintro v H5 ⟨rfl, rfl⟩
        have hst := storeTo_block (PHeap.put_same H3 m (.cells (((s.take j).foldl (setRow names) (List.replicate names.length 0)).map vi).toArray 2 (0, 0))) (i := names.countP (· < s[j])) (v := vi 1) (by simp [hrl]; exact hcount)
        refine ⟨_, _, rfl, _, rfl, by omega, by simpa using hcount, ?_⟩
        rw [Nat.mul_one, Int.toNat_natCast]
        refine ⟨_, hst, ?_⟩
        rw [hw hjlt (by omega)]
        refine ⟨⟨j + 1, rfl, hjlt, ?_⟩, hmu hjlt⟩
        rw [PHeap.put_put, List.take_succ_eq_append_getElem hjlt, List.foldl_append]
        simp only [List.foldl_cons, List.foldl_nil]
        unfold setRow
        rw [List.map_set]
      · have hjs : j = s.length := by have := of_decide_eq_false h5; omega
        subst hjs
        have hOm := hO3.up hle4
        rw [List.take_length] at hOm ⊢
        rw [List.take_length] at hle4
        refine OwnS.app1 (x := hv names.length m) hOm rfl rfl (by omega) (by omega) fun a' c' H6 hO6 => ?_
        rw [hw hlt (by omega)]
        refine ⟨⟨k + 1, bs ++ [m], _, rfl, hlt, rfl, by simp [hbl], hHB.trans hOm.base, ?_, ?_, ?_, by rw [List.map_append]; exact hO6⟩, hmu hlt⟩
        · rw [List.nodup_append]
          refine ⟨hnd, by simp, fun x hx y hy => ?_⟩
          simp only [List.mem_singleton] at hy
          subst hy
          rintro rfl
          obtain ⟨t, ht, he⟩ := List.getElem_of_mem hx
          have := hO3.le _ _ (hrows t x (by rw [List.getElem?_eq_getElem ht, he]))
          rw [hmn] at this; cases this
        · intro x hx
          rcases List.mem_append.1 hx with hx | hx
          · exact hfree x hx
          · rw [List.mem_singleton.1 hx]; exact (hHB.trans hO3.le).none hmn
        · intro t x ht
          by_cases htk : t < bs.length
          · rw [List.getElem?_append_left htk] at ht
            exact hOm.base _ _ (hrows t x ht)
          · rw [List.getElem?_append_right (by omega)] at ht
            have ht0 : t - bs.length = 0 := by
              by_cases h0 : t - bs.length = 0
              · exact h0
              · rw [List.getElem?_eq_none (by simp; omega)] at ht; cases ht
            rw [ht0] at ht
            simp only [List.getElem?_cons_zero, Option.some.injEq] at ht
            subst ht
            have htk' : t = k := by omega
            subst htk'
            rw [wo_other (hO3.ne hmn), PHeap.put_same]
            have : xss.getD t [] = s := by rw [List.getD, List.getElem?_eq_getElem hlt, hs]; rfl
            rw [this]
            rfl
    · have hge : k = xss.length := by have := of_decide_eq_false h4; omega
      subst hge
      refine ⟨a1, c1, b, c2, H2, by rw [hnames], hle, by rw [hnames]; exact hN, hHB.trans hO3.le, ?_⟩
      rcases hO3.own with ⟨rfl, h0, _⟩ | ⟨hb, rest, rfl, hbn, hbc, hbl2, hbl3⟩
      · exact .inl ⟨List.eq_nil_of_length_eq_zero h0, rfl⟩
      · refine .inr ⟨hb, rest, bs, rfl, hHB.trans hO3.le, hHB.none hbn, by simp [matF, hbl], by rw [hnames]; exact hbc, ?_, hfree, ?_⟩
        · rw [List.nodup_cons]
          refine ⟨fun hx => ?_, hnd⟩
          obtain ⟨t, ht, he⟩ := List.getElem_of_mem hx
          have := hrows t hb (by rw [List.getElem?_eq_getElem ht, he])
          rw [hbn] at this; cases this
        · intro i x r hx hr
          have hil : i < xss.length := by rw [← hbl]; exact (List.getElem?_eq_some_iff.1 hx).1
          have hre : r = matRow names (xss.getD i []) := by
            have h7 := mat_getD (xss := xss) hil
            rw [List.getD, hr, hnames] at h7
            exact h7
          rw [hre, hnames]
          exact ⟨hO3.le _ _ (hrows i x hx), matRow_len _ _⟩
end Go.Inf
