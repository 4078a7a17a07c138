import Derived.Test.YtbhggmghelmnhaaInfL
namespace Go.Inf
open Go Go.Proofs
theorem right_pos {s : List Int} (h : rightF s = true) : ∀ x ∈ s, 0 < x := by
  have hgo : ∀ (s : List Int) (l : Int), rightGo l s = true → ∀ x ∈ s, l < x := by
    intro s
    induction s with
    | nil => intro _ _ x hx; cases hx
    | cons y s ih =>
      intro l h x hx
      simp only [rightGo] at h
      split at h
      · cases h
      · rcases List.mem_cons.1 hx with rfl | hx
        · omega
        · have := ih y h x hx; omega
  exact hgo s 0 h
theorem twin_len (s : List Int) : (twinF s).length = 2 * s.length := by
  induction s with
  | nil => rfl
  | cons x s ih =>
    have : twinF (x :: s) = 2 * x :: (2 * x + 1) :: twinF s := rfl
    rw [this]; simp only [List.length_cons, ih]; omega
theorem twin_take {s : List Int} {j : Nat} (hj : j < s.length) : twinF (s.take (j + 1)) = twinF (s.take j) ++ [2 * s[j], 2 * s[j] + 1] := by
  unfold twinF
  rw [List.take_succ_eq_append_getElem hj, List.flatMap_append]; rfl

/-- the law -/
theorem law_call {H : PHeap} {a b : Option Addr} {c d : Nat} {xss : List (List Int)} {more : List Int} (h : SS H a xss) (hmr : H.rowAt b (more.map vi)) (hn : xss.length ≤ 9223372036854775807) :
    CallP Try.prog 3 #[.slice a xss.length c, .slice b more.length d] H fun v H' => v = .bool true ∧ H.le H' := by
  refine CallP.of_nv ?_
  rw [f3_is]
  refine alive_call.mono ?_
  rintro v H' ⟨rfl, rfl⟩
  refine ⟨_, rfl, bCase_intro (fun h => by cases h) (fun _ => ?_)⟩
  refine (few_call (m := 7) h hn).mono ?_
  rintro v H2 ⟨rfl, rfl⟩
  refine ⟨_, rfl, bCase_intro (fun _ => ⟨rfl, PHeap.le.refl _⟩) (fun h1 => ?_)⟩
  have h1' : ((∀ s ∈ xss, s.length ≤ 40) ∧ (xss.length : Int) ≤ 7) ∧ more.length ≤ 20 := by
    by_cases hf : (∀ s ∈ xss, s.length ≤ 40) ∧ (xss.length : Int) ≤ 7
    · refine ⟨hf, ?_⟩
      rw [decide_eq_true hf] at h1
      simp only [Bool.not_true, cond_false] at h1
      have := of_decide_eq_false h1
      omega
    · rw [decide_eq_false hf] at h1; cases h1
  obtain ⟨⟨hl40, hx7⟩, hm20⟩ := h1'
  have hx7 : xss.length ≤ 7 := by omega
  refine (right_call (c := d) hmr (by omega)).mono ?_
  rintro v H3 ⟨rfl, rfl⟩
  refine ⟨_, rfl, bCase_intro (fun _ => ⟨rfl, PHeap.le.refl _⟩) (fun h1 => ?_)⟩
  have hrm : rightF more = true := by simpa using h1
  refine ⟨fun vs H1 => match vs with
    | [_, .int _ i] => ∃ k : Nat, i = k ∧ k ≤ xss.length ∧ H1 = H3 ∧ ∀ s ∈ xss.take k, rightF s = true ∧ s.length ≤ 20
    | _ => False, fun vs _ => match vs with
    | [_, .int _ i] => xss.length - i.toNat
    | _ => 0, ⟨0, rfl, Nat.zero_le _, rfl, by simp⟩, ?_⟩
  rintro q i H1 ⟨k, rfl, hk, rfl, hI⟩
  refine bCase_intro (fun h2 => ?_) (fun h2 => ?_)
  · have hlt : k < xss.length := by have := of_decide_eq_true h2; omega
    obtain ⟨q, p, cp, rfl, hc, hr⟩ := h.get hlt
    have hl := hl40 _ (List.getElem_mem hlt)
    refine ⟨q, rfl, by omega, by omega, p, _, cp, by simpa using hc, (right_call hr (by omega)).mono ?_⟩
    rintro v H4 ⟨rfl, rfl⟩
    refine ⟨_, rfl, bCase_intro (fun _ => ⟨rfl, PHeap.le.refl _⟩) (fun h3 => ?_)⟩
    have h4 : rightF xss[k] = true ∧ xss[k].length ≤ 20 := by
      cases hr : rightF xss[k] with
      | false => rw [hr] at h3; cases h3
      | true =>
        rw [hr] at h3
        simp only [Bool.not_true, cond_false] at h3
        have := of_decide_eq_false h3
        exact ⟨rfl, by omega⟩
    rw [wrap1 hlt (by omega)]
    refine ⟨⟨k + 1, rfl, hlt, rfl, ?_⟩, mu1 hlt⟩
    rw [List.take_succ_eq_append_getElem hlt]
    intro s hs
    rcases List.mem_append.1 hs with hs | hs
    · exact hI s hs
    · rw [List.mem_singleton.1 hs]; exact h4
  have hge : k = xss.length := by have := of_decide_eq_false h2; omega
  rw [hge, List.take_length] at hI
  clear h2 hk hge k
  obtain ⟨hs, hrow, hHS⟩ := h.hs
  -- the sets
  refine (exposed_call (c := c) h (by omega) (fun xs hx => by have := (hI xs hx).2; omega)).mono ?_
  rintro v H5 ⟨rfl, rfl⟩
  refine ⟨_, _, rfl, ?_⟩
  -- and one more
  intro n31 h31
  have hmade := OwnS.made (H := H5) (elem := 23) (cells := []) (l := 0) h31 rfl
  refine hmade.appRow (rowAt_le (PHeap.le.put_new h31) hrow) hHS.1 rfl hHS.singles (by omega) (by omega) fun a33 n34 H35 hO1 => ?_
  rw [Nat.zero_add] at hO1 ⊢
  have hO1' := hO1.less hmade.base
  refine hO1'.app1 rfl rfl (by omega) (by omega) fun a38 n39 H40 hO2 => ?_
  have hO2' := hO2.less hO1'.base
  rw [List.nil_append] at hO2'
  have hlen1 : (xss ++ [more]).length = xss.length + 1 := by simp
  have hss2 : SS H40 a38 (xss ++ [more]) := HS.ss (HS.app (hHS.le hO2'.le) (HS.one (c := d) (rowAt_le hO2'.le hmr))) hO2'.row
  have he2 := exposed_call (c := n39) hss2 (by omega) (fun xs hx => by
    rcases List.mem_append.1 hx with hx | hx
    · have := (hI xs hx).2; omega
    · rw [List.mem_singleton.1 hx]; omega)
  rw [hlen1] at he2
  refine he2.mono ?_
  rintro v H42 ⟨rfl, rfl⟩
  refine ⟨_, _, rfl, ?_⟩
  -- turned round
  intro n45 h45
  have hbase : H5.le H42 := hO2'.le
  refine ⟨fun vs Hx => match vs with
    | [.slice a n c, .int _ i] => ∃ k : Nat, i = (xss.length : Int) - 1 - k ∧ k ≤ xss.length ∧ n = 1 + k ∧ OwnS H42 Hx 23 1 a n c (.slice b more.length d :: hs.reverse.take k)
    | _ => False, fun vs _ => match vs with
    | [_, .int _ i] => (i + 1).toNat
    | _ => 0, ⟨0, by rw [IntWalk.i64_in _ (by omega)]; omega, Nat.zero_le _, rfl, by simpa using OwnS.made (H := H42) (elem := 23) (cells := [.slice b more.length d]) h45 rfl⟩, ?_⟩
  rintro a48 _ n50 i H52 ⟨k, rfl, hk, rfl, hO3⟩
  have hH52 : H5.le H52 := hbase.trans hO3.le
  refine bCase_intro (fun h2 => ?_) (fun h2 => ?_)
  · have hlt : k < xss.length := by have := of_decide_eq_true h2; omega
    have hix : xss.length - 1 - k < xss.length := by omega
    have hixh : xss.length - 1 - k < hs.length := by rw [hHS.1]; omega
    obtain ⟨p54, c56, he, hr⟩ := hHS.2 _ _ _ (List.getElem?_eq_getElem hixh) (List.getElem?_eq_getElem hix)
    obtain ⟨q, rfl, hcell⟩ := rowAt_get hrow (List.getElem?_eq_getElem hixh)
    rw [he] at hcell
    have hnat : ((xss.length : Int) - 1 - (k : Int)).toNat * 1 = xss.length - 1 - k := by omega
    refine ⟨q, rfl, by omega, by omega, p54, _, c56, by rw [hnat]; exact cell_le hH52 hcell, ?_⟩
    refine hO3.app1 rfl rfl (by omega) (by omega) fun a59 n60 H61 hO4 => ?_
    have hO4' := hO4.less hO3.base
    have hw : IntKind.i64.wrap ((xss.length : Int) - 1 - (k : Int) - 1) = (xss.length : Int) - 1 - ((k + 1 : Nat) : Int) := by rw [IntWalk.i64_in _ (by omega)]; omega
    rw [hw]
    refine ⟨⟨k + 1, rfl, hlt, rfl, ?_⟩, ?_⟩
    · have hrev : hs.reverse.take (k + 1) = hs.reverse.take k ++ [.slice p54 xss[xss.length - 1 - k].length c56] := by
        have hkr : k < hs.reverse.length := by rw [List.length_reverse, hHS.1]; exact hlt
        rw [List.take_succ_eq_append_getElem hkr]
        congr 2
        rw [List.getElem_reverse]
        have : hs.length - 1 - k = xss.length - 1 - k := by rw [hHS.1]
        simp only [this]
        exact he
      rw [hrev, ← List.cons_append]
      exact hO4'
    · show ((xss.length : Int) - 1 - ((k + 1 : Nat) : Int) + 1).toNat < ((xss.length : Int) - 1 - (k : Int) + 1).toNat
      omega
  have hkx : k = xss.length := by have := of_decide_eq_false h2; omega
  have htk : hs.reverse.take k = hs.reverse := List.take_of_length_le (by simp [hHS.1, hkx])
  rw [htk] at hO3
  have hss3 : SS H52 a48 (more :: xss.reverse) := by
    have h6 : HS H52 (.slice b more.length d :: hs.reverse) (more :: xss.reverse) := HS.app (HS.one (c := d) (rowAt_le hH52 hmr)) ((hHS.le hH52).rev)
    exact h6.ss hO3.row
  have hlen3 : (more :: xss.reverse).length = 1 + k := by simp [hkx]; omega
  have he3 := exposed_call (c := n50) hss3 (by omega) (fun xs hx => by
    rcases List.mem_cons.1 hx with rfl | hx
    · omega
    · have := (hI xs (List.mem_reverse.1 hx)).2; omega)
  rw [hlen3] at he3
  refine he3.mono ?_
  rintro v H63 ⟨rfl, rfl⟩
  refine ⟨_, _, rfl, ?_⟩
  rw [exposed_back hx7 (fun s hs => (hI s hs).1) hrm]
  refine bCase_intro (fun h4 => ?_) (fun _ => ?_)
  · -- it can't be
    exfalso
    cases he : exposedF xss with
    | mk n ok =>
      rw [he] at h4
      cases ok with
      | false => simp at h4
      | true =>
        obtain ⟨m, hm, hle⟩ := exposed_more hx7 (fun s hs => (hI s hs).1) hrm he
        rw [hm] at h4
        simp at h4
        omega
  -- twins
  intro n66 h66
  refine ⟨fun vs Hx => match vs with
    | [_, .slice a n c, .int _ i] => ∃ (k : Nat) (HB : PHeap) (cells : List Value), i = k ∧ k ≤ xss.length ∧ n = k ∧ H63.le HB ∧ HS HB cells ((xss.take k).map twinF) ∧ OwnS HB Hx 23 1 a n c cells
    | _ => False, fun vs _ => match vs with
    | [_, _, .int _ i] => xss.length - i.toNat
    | _ => 0, ⟨0, H63, [], rfl, Nat.zero_le _, rfl, PHeap.le.refl _, by simpa using HS.nil H63, OwnS.made (cells := []) h66 rfl⟩, ?_⟩
  rintro q69 a70 k n72 i H74 ⟨_, HB, cells, rfl, hk5, rfl, hHB, hcells, hO5⟩
  have hH74 : H5.le H74 := (hH52.trans hHB).trans hO5.le
  refine bCase_intro (fun h5 => ?_) (fun h5 => ?_)
  · have hlt : k < xss.length := by have := of_decide_eq_true h5; omega
    obtain ⟨q, p, cp, rfl, hc, hr⟩ := h.get hlt
    obtain ⟨hrs, hls⟩ := hI _ (List.getElem_mem hlt)
    refine ⟨q, rfl, by omega, by omega, p, _, cp, by simpa using cell_le hH74 hc, ?_⟩
    intro n79 h79
    refine ⟨fun vs Hx => match vs with
      | [_, .slice a n c, .int _ i] => ∃ (j : Nat), i = j ∧ j ≤ xss[k].length ∧ n = 2 * j ∧ (∀ x ∈ xss[k].take j, x ≤ 1073741824) ∧ OwnS H74 Hx 3 1 a n c ((twinF (xss[k].take j)).map vi)
      | _ => False, fun vs _ => match vs with
      | [_, _, .int _ i] => xss[k].length - i.toNat
      | _ => 0, ⟨0, rfl, Nat.zero_le _, rfl, by simp, OwnS.made (cells := []) h79 rfl⟩, ?_⟩
    rintro q82 a83 _ n85 i H87 ⟨j, rfl, hj, rfl, hbig, hO6⟩
    refine bCase_intro (fun h6 => ?_) (fun h6 => ?_)
    · have hjlt : j < xss[k].length := by have := of_decide_eq_true h6; omega
      obtain ⟨p', rfl, hpc⟩ := rowAt_get (rowAt_le (hH74.trans hO6.le) hr) (i := j) (v := vi xss[k][j]) (by simp [hjlt])
      have hpos := right_pos hrs _ (List.getElem_mem hjlt)
      refine ⟨p', rfl, by omega, by omega, xss[k][j], by simpa using hpc, bCase_intro (fun _ => ⟨rfl, hH74.trans hO6.le⟩) (fun h7 => ?_)⟩
      have hle := of_decide_eq_false h7
      have hw1 : IntKind.i64.wrap (2 * xss[k][j]) = 2 * xss[k][j] := IntWalk.i64_in _ (by omega)
      have hw2 : IntKind.i64.wrap (2 * xss[k][j] + 1) = 2 * xss[k][j] + 1 := IntWalk.i64_in _ (by omega)
      rw [hw1, hw2]
      intro n90 h90
      refine hO6.apps (k := 2) (xs := [vi (2 * xss[k][j]), vi (2 * xss[k][j] + 1)]) rfl rfl rfl (by omega) (by omega) (fun a92 n93 H94 hO7 => ?_) n90 h90
      rw [wrap1 hjlt (by omega)]
      refine ⟨⟨j + 1, rfl, hjlt, by omega, ?_, ?_⟩, mu1 hjlt⟩
      · rw [List.take_succ_eq_append_getElem hjlt]
        intro x hx
        rcases List.mem_append.1 hx with hx | hx
        · exact hbig x hx
        · rw [List.mem_singleton.1 hx]; omega
      · rw [twin_take hjlt, List.map_append]
        exact hO7.less hO6.base
    · have hje : j = xss[k].length := by have := of_decide_eq_false h6; omega
      rw [hje, List.take_length] at hO6
      have hO5' := hO5.up hO6.le
      have h2j : 2 * j = (twinF xss[k]).length := by rw [twin_len, hje]
      refine hO5'.app1 rfl rfl (by omega) (by omega) fun a97 n98 H99 hO8 => ?_
      rw [wrap1 hlt (by omega)]
      refine ⟨⟨k + 1, H87.wo a70, cells ++ [.slice a83 (2 * j) n85], rfl, hlt, rfl, hHB.trans hO5'.base, ?_, hO8⟩, mu1 hlt⟩
      rw [List.take_succ_eq_append_getElem hlt, List.map_append]
      refine HS.app (hcells.le hO5'.base) ?_
      rw [h2j]
      refine HS.one ?_
      have hrow6 := hO6.row
      rcases hO6.own with ⟨rfl, _⟩ | ⟨b', rest, rfl, h8, _⟩
      · exact hrow6
      · refine rowAt_at hrow6 ?_
        rw [wo_other (hO5.ne h8)]
  · have hge : k = xss.length := by have := of_decide_eq_false h5; omega
    rw [hge, List.take_length] at hcells
    have hss4 : SS H74 a70 (xss.map twinF) := (hcells.le hO5.le).ss hO5.row
    have he4 := exposed_call (c := n72) hss4 (by simp; omega) (fun xs hx => by
      obtain ⟨s, hs, rfl⟩ := List.mem_map.1 hx
      rw [twin_len]
      have := (hI s hs).2; omega)
    have hl4 : (xss.map twinF).length = k := by simp [hge]
    rw [hl4] at he4
    refine he4.mono ?_
    rintro v H101 ⟨rfl, rfl⟩
    rw [twins_none (by omega) (fun s hs => right_twin (hI s hs).1)]
    exact ⟨_, _, rfl, rfl, hH74⟩
end Go.Inf
