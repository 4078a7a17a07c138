import Derived.Test.YtbhggmghelmnhaaInfJ
namespace Go.Inf
open Go Go.Proofs
def askF (k r b : Int) (xss : List (List Int)) (set : List Int) (live : Int) : Int :=
  if rightF set = false then 21 else if b - xss.length = 0 then 33 else if (set.length : Int) < k ∨ live < k ∨ (set.length : Int) > live - k then 34 else if (mostF set xss : Int) > r then 35 else 0
/-- infer.Ask -/
theorem ask_call {HB H : PHeap} {n c : Nat} {k r b live : Int} {xss : List (List Int)} {q : Option Addr} {set : List Int} (h : Ctl HB H n k r b xss) (hq : H.rowAt q (set.map vi)) (hl : xss.length ≤ 2 ^ 30)
    (hs : set.length ≤ 2 ^ 40) (hc : set.length ≤ c) (hx : ∀ xs ∈ xss, xs.length ≤ 2 ^ 40) (hk : 0 ≤ k ∧ k ≤ 4096) (hb : 0 ≤ b ∧ b ≤ 4096) (hlive : -(2 ^ 40) ≤ live ∧ live ≤ 2 ^ 40) :
    CallP Try.prog 10 #[.pointer (some (Addr.mk n 0 none)), .slice q set.length c, vi live] H fun v H' => v = vi (askF k r b xss set live) ∧ ∃ HB', Ctl HB' H' n k r b (if askF k r b xss set live = 0 then xss ++ [set] else xss) := by
  refine CallP.of_nv ?_
  rw [f10_is]
  have hstay : ∀ {x : Int}, x ≠ 0 → ∃ HB', Ctl HB' H n k r b (if x = 0 then xss ++ [set] else xss) := fun hx => ⟨HB, by rw [if_neg hx]; exact h⟩
  refine (right_call hq (by omega)).mono ?_
  rintro v H' ⟨rfl, rfl⟩
  refine ⟨_, rfl, bCase_intro (fun h1 => ?_) (fun h1 => ?_)⟩
  · have h2 : rightF set = false := by simpa using h1
    have hF : askF k r b xss set live = 21 := by unfold askF; rw [if_pos h2]
    rw [hF]; exact ⟨rfl, hstay (by decide)⟩
  have hr : rightF set = true := by simpa using h1
  have hr' : ¬ rightF set = false := by rw [hr]; decide
  refine (left_call h hb (by omega)).mono ?_
  rintro v H2 ⟨rfl, rfl⟩
  refine ⟨_, rfl, bCase_intro (fun h1 => ?_) (fun h1 => ?_)⟩
  · have h2 : b - xss.length = 0 := by simpa using h1
    have hF : askF k r b xss set live = 33 := by unfold askF; rw [if_neg hr', if_pos h2]
    rw [hF]; exact ⟨rfl, hstay (by decide)⟩
  have h0 : ¬ b - xss.length = 0 := by simpa using h1
  obtain ⟨c0, c1, c2, a, ca, c3⟩ := h.cell
  refine ⟨_, rfl, k, c0, bCase_intro (fun h1 => ?_) (fun h1 => ?_)⟩
  · have h2 := of_decide_eq_true h1
    have hF : askF k r b xss set live = 34 := by unfold askF; rw [if_neg hr', if_neg h0, if_pos (.inl h2)]
    rw [hF]; exact ⟨rfl, hstay (by decide)⟩
  have n1 := of_decide_eq_false h1
  refine ⟨_, rfl, k, c0, bCase_intro (fun h1 => ?_) (fun h1 => ?_)⟩
  · have h2 := of_decide_eq_true h1
    have hF : askF k r b xss set live = 34 := by unfold askF; rw [if_neg hr', if_neg h0, if_pos (.inr (.inl h2))]
    rw [hF]; exact ⟨rfl, hstay (by decide)⟩
  have n2 := of_decide_eq_false h1
  refine ⟨_, rfl, k, c0, ?_⟩
  rw [IntWalk.i64_in (live - k) (by omega)]
  refine bCase_intro (fun h1 => ?_) (fun h1 => ?_)
  · have h2 := of_decide_eq_true h1
    have hF : askF k r b xss set live = 34 := by unfold askF; rw [if_neg hr', if_neg h0, if_pos (.inr (.inr h2))]
    rw [hF]; exact ⟨rfl, hstay (by decide)⟩
  have n3 := of_decide_eq_false h1
  have n4 : ¬ ((set.length : Int) < k ∨ live < k ∨ (set.length : Int) > live - k) := by omega
  refine ⟨_, rfl, _, rfl, r, c1, (test_call h hq (by omega) hs hc hx).mono ?_⟩
  rintro v H3 ⟨rfl, rfl⟩
  refine ⟨_, rfl, bCase_intro (fun h1 => ?_) (fun h1 => ?_)⟩
  · by_cases hm : (mostF set xss : Int) > r
    · have hF : askF k r b xss set live = 35 := by unfold askF; rw [if_neg hr', if_neg h0, if_neg n4, if_pos hm]
      rw [hF, if_pos hm]; exact ⟨rfl, hstay (by decide)⟩
    · rw [if_neg hm] at h1; simp at h1
  · have hm : ¬ (mostF set xss : Int) > r := fun hm => by rw [if_pos hm] at h1; simp at h1
    have hF : askF k r b xss set live = 0 := by unfold askF; rw [if_neg hr', if_neg h0, if_neg n4, if_neg hm]
    refine ⟨_, rfl, (add_call h hq hl hs hr).mono ?_⟩
    rintro v H4 ⟨rfl, HB', hC⟩
    exact ⟨_, rfl, by rw [hF], HB', by rw [hF, if_pos rfl]; exact hC⟩
theorem new_call {H : PHeap} {k r b : Int} (hk : 1 ≤ k ∧ k ≤ 4096) (hr : 0 ≤ r ∧ r ≤ 4096) (hb : 0 ≤ b ∧ b ≤ 4096) (h : checkF k r b = 0) :
    CallP Try.prog 9 #[vi k, vi r, vi b] H fun v H' => ∃ n, v = .tuple #[.pointer (some (Addr.mk n 0 none)), vi 0] ∧ H.le H' ∧ Ctl H H' n k r b [] := by
  refine CallP.of_nv ?_
  rw [f9_is]
  refine (check_call hk hr hb).mono ?_
  rintro v H' ⟨rfl, rfl⟩
  refine ⟨_, rfl, ?_⟩
  rw [h]
  refine bCase_intro (fun h1 => by cases h1) (fun _ => ?_)
  intro n hn
  exact ⟨n, rfl, PHeap.le.put_new hn, none, 0, [], PHeap.put_same _ _ _, hn, OwnS.nil (PHeap.le.put_new hn), rfl, fun i v xs hv => by simp at hv⟩

/-- What Told's loop does. -/
theorem all_iter {l n1 n : Nat} {k r b : Int} {xss : List (List Int)} {B HB H : PHeap} (hcl : B.cell? ⟨n1, 0, none⟩ = some (.pointer (some ((Addr.mk n 0 none).add 3)))) (hC : Ctl HB B n k r b xss) (hl : xss.length ≤ 2 ^ 30) (hx : ∀ xs ∈ xss, xs.length ≤ 2 ^ 40)
    {I : Nat → PHeap → Prop} {D : PHeap → Prop} (hI : ∀ j H1, I j H1 → B.le H1) (h0 : I 0 H)
    (hstep : ∀ j (hj : j < xss.length) H1, I j H1 → ∀ p c H2, OwnS H1 H2 3 1 p xss[j].length c (xss[j].map vi) → YieldP Try.prog l #[.slice p xss[j].length c] H2 fun v H3 => (v = .bool true ∧ I (j + 1) H3) ∨ (v = .bool false ∧ D H3)) :
    CallP Try.prog 36 #[.func (.yield l) #[] #[], .pointer (some ⟨n1, 0, none⟩)] H fun _ H' => I xss.length H' ∨ D H' := by
  refine CallP.of_nv ?_
  rw [f36_is]
  obtain ⟨a, ca, hs', h1, h2, h3, h4, h5⟩ := hC
  have hsets : B.cell? (((Addr.mk n 0 none).add 3).add 0) = some (.slice a xss.length ca) := by rw [Addr.add_add]; exact cell_block h1 rfl
  refine ⟨_, cell_le (hI 0 H h0) hcl, _, rfl, a, _, ca, cell_le (hI 0 H h0) hsets, ?_⟩
  refine ⟨fun vs H1 => match vs with
    | [.int _ i] => ∃ j : Nat, i = j ∧ j ≤ xss.length ∧ I j H1
    | _ => False, fun vs _ => match vs with
    | [.int _ i] => xss.length - i.toNat
    | _ => 0, ⟨0, rfl, Nat.zero_le _, h0⟩, ?_⟩
  rintro i H1 ⟨j, rfl, hj, hIj⟩
  refine bCase_intro (fun h6 => ?_) (fun h6 => ?_)
  · have hlt : j < xss.length := by have := of_decide_eq_true h6; omega
    have hv : hs'[j]? = some (hs'[j]'(by omega)) := List.getElem?_eq_getElem _
    obtain ⟨p, cp, he, hcp, hr⟩ := h5 j _ _ hv (List.getElem?_eq_getElem hlt)
    obtain ⟨qa, rfl, hcell⟩ := rowAt_get h3.row hv
    rw [he] at hcell
    have hle := hI j H1 hIj
    refine ⟨qa, rfl, by omega, by omega, p, _, cp, by simpa using cell_le hle hcell, ?_⟩
    refine (clone_call (rowAt_le (h3.le.trans hle) hr) (hx _ (List.getElem_mem hlt))).mono ?_
    rintro v H2 ⟨p', c', rfl, hO⟩
    refine ⟨p', _, c', rfl, (hstep j hlt H1 hIj p' c' H2 hO).mono ?_⟩
    rintro v H3 (⟨rfl, hI3⟩ | ⟨rfl, hD⟩)
    · refine ⟨_, rfl, bCase_intro (fun h => by cases h) (fun _ => ?_)⟩
      rw [wrap1 hlt (by omega)]
      exact ⟨⟨j + 1, rfl, hlt, hI3⟩, mu1 hlt⟩
    · exact ⟨_, rfl, bCase_intro (fun _ => .inr hD) (fun h => by cases h)⟩
  · have hge : j = xss.length := by have := of_decide_eq_false h6; omega
    exact .inl (hge ▸ hIj)

/-- the law's told, of fewer sets than are asked for -/
theorem told_call {HB H : PHeap} {n : Nat} {k r b m : Int} {xss : List (List Int)} (hC : Ctl HB H n k r b xss) (hlen : xss.length ≤ 2 ^ 30) (hx : ∀ xs ∈ xss, xs.length ≤ 2 ^ 40) (hm : (xss.length : Int) < m) :
    CallP Try.prog 12 #[.pointer (some (Addr.mk n 0 none)), vi m] H fun v H' => ∃ a c, v = .slice a xss.length c := by
  refine CallP.of_nv ?_
  rw [f12_is]
  intro n2 hn2 n3 hn3 n4 hn4 n5 hn5
  obtain ⟨H23, e23⟩ : ∃ H23, ((H.put n2 (.cells #[vi m] 3 (0, 0))).put n3 (.cells #[.slice none 0 0] 22 (0, 0))) = H23 := ⟨_, rfl⟩
  rw [e23] at hn4 hn5 ⊢
  have hle2 : H.le H23 := e23 ▸ (PHeap.le.put_new hn2).trans (PHeap.le.put_new hn3)
  have h23n2 : H23 n2 = some (.cells #[vi m] 3 (0, 0)) := by
    rw [← e23, PHeap.put_other _ _ (ne_of hn3 (PHeap.put_same _ _ _)).symm, PHeap.put_same]
  have h23n3 : H23 n3 = some (.cells #[.slice none 0 0] 22 (0, 0)) := by rw [← e23, PHeap.put_same]
  obtain ⟨H4, e4⟩ : ∃ H4, H23.put n4 (.cells #[] 23 (0, 0)) = H4 := ⟨_, rfl⟩
  rw [e4] at hn5 ⊢
  have h4n4 : H4 n4 = some (.cells #[] 23 (0, 0)) := by rw [← e4, PHeap.put_same]
  have hle4 : H23.le H4 := e4 ▸ PHeap.le.put_new hn4
  have hst := storeTo_block (H := H4.put n5 (.cells #[.slice none 0 0] 22 (0, 0))) (b := n5) (cs := [.slice none 0 0]) (elem := 22) (i := 0) (v := .slice (some (Addr.mk n4 0 none)) 0 0) (PHeap.put_same _ _ _) (by simp)
  rw [PHeap.put_put, Addr.add_zero] at hst
  refine ⟨_, hst, ?_⟩
  obtain ⟨H6, e6⟩ : ∃ H6, H4.put n5 (.cells (List.set [.slice none 0 0] 0 (.slice (some (Addr.mk n4 0 none)) 0 0)).toArray 22 (0, 0)) = H6 := ⟨_, rfl⟩
  rw [e6]
  have hle6 : H4.le H6 := e6 ▸ PHeap.le.put_new hn5
  have h6n5 : H6 n5 = some (.cells #[.slice (some (Addr.mk n4 0 none)) 0 0] 22 (0, 0)) := by rw [← e6, PHeap.put_same]; rfl
  refine ⟨m, by have := cell_block (i := 0) (v := vi m) (hle6 _ _ (hle4 _ _ h23n2)) rfl; simpa using this, bCase_intro (fun h => by have := of_decide_eq_true h; omega) (fun _ => ?_)⟩
  have h29 : CallP Try.prog 21 #[.pointer (some (Addr.mk n 0 none))] H6 fun v H13 => ∃ n1, H6 n1 = none ∧ v = .func (.func 36) #[] #[.pointer (some ⟨n1, 0, none⟩)] ∧ H13 = H6.put n1 (.cells #[.pointer (some ((Addr.mk n 0 none).add 3))] 58 (0, 0)) := by
    refine CallP.of_nv ?_
    rw [f21_is]
    refine ⟨_, rfl, CallP.of_nv ?_⟩
    rw [f29_is]
    intro n1 hn1
    exact ⟨_, rfl, n1, hn1, rfl, rfl⟩
  refine h29.mono ?_
  rintro v H13 ⟨n1, hn1, rfl, e13⟩
  refine ⟨_, rfl, rangeV.intro (ps := [13]) (by kernel_rfl) (by kernel_rfl) ?_⟩
  intro d l L hd hl hdl hY
  have h13n1 : H13 n1 = some (.cells #[.pointer (some ((Addr.mk n 0 none).add 3))] 58 (0, 0)) := by rw [e13, PHeap.put_same]
  have hle13 : H6.le H13 := e13 ▸ PHeap.le.put_new hn1
  have h13n4 := hle13 _ _ (hle6 _ _ h4n4)
  have h13n5 := hle13 _ _ h6n5
  have hle23 : H23.le H13 := (hle4.trans hle6).trans hle13
  have hC' := hC.up hle2
  -- what stays
  have h23n1 : H23 n1 = none := (hle4.trans hle6).none hn1
  obtain ⟨B, eB⟩ : ∃ B, H23.put n1 (.cells #[.pointer (some ((Addr.mk n 0 none).add 3))] 58 (0, 0)) = B := ⟨_, rfl⟩
  have hBle : H23.le B := eB ▸ PHeap.le.put_new h23n1
  have hB13 : B.le H13 := fun i o hi => by
    rw [← eB] at hi
    by_cases e : i = n1
    · subst e; rw [PHeap.put_same] at hi; cases hi; exact h13n1
    · rw [PHeap.put_other _ _ e] at hi; exact hle23 _ _ hi
  have hBn4 : B n4 = none := by
    rw [← eB, PHeap.put_other _ _ (ne_of hn1 (hle6 _ _ h4n4)).symm]; exact hn4
  have hBn5 : B n5 = none := by
    rw [← eB, PHeap.put_other _ _ (ne_of hn1 h6n5).symm]; exact hle4.none hn5
  have hBl : B l = none := hB13.none hl
  have hBd : B d = none := hB13.none hd
  have hn54 : n5 ≠ n4 := ne_of hn5 h4n4
  have hnl5 : n5 ≠ l := (ne_of hl h13n5).symm
  have hnd5 : n5 ≠ d := (ne_of hd h13n5).symm
  have key : CallP Try.prog 36 #[.func (.yield l) #[] #[], .pointer (some ⟨n1, 0, none⟩)] ((H13.put d (.deferred (some []))).put l (L .ready none)) fun _ H' =>
      (∃ a c cells, B.le (H'.wo a) ∧ (H'.wo a) l = some (L .ready none) ∧ (H'.wo a) d = some (.deferred (some [])) ∧ (H'.wo a) n5 = some (.cells #[.slice a xss.length c] 22 (0, 0)) ∧ OwnS (H'.wo a) H' 23 1 a xss.length c cells) ∨ False := by
    refine all_iter (B := B) (HB := HB) (xss := xss) (by rw [← eB]; have := cell_block (i := 0) (v := .pointer (some ((Addr.mk n 0 none).add 3))) (PHeap.put_same H23 n1 (.cells #[.pointer (some ((Addr.mk n 0 none).add 3))] 58 (0, 0))) rfl; simpa using this) (hC'.up hBle) hlen hx
      (I := fun j H' => ∃ a c cells, B.le (H'.wo a) ∧ (H'.wo a) l = some (L .ready none) ∧ (H'.wo a) d = some (.deferred (some [])) ∧ (H'.wo a) n5 = some (.cells #[.slice a j c] 22 (0, 0)) ∧ OwnS (H'.wo a) H' 23 1 a j c cells) (D := fun _ => False)
      (fun j H1 ⟨a, c, cells, h1, _⟩ => h1.trans (wo_le _ _)) ?_ ?_
    · have hne : ∀ {i}, i ≠ n4 → (some (Addr.mk n4 0 none) : Option Addr) ≠ some ⟨i, 0, none⟩ := fun hi e => by cases e; exact hi rfl
      have hl4 : l ≠ n4 := ne_of hl h13n4
      have hd4 : d ≠ n4 := ne_of hd h13n4
      have hs4 : ((H13.put d (.deferred (some []))).put l (L .ready none)) n4 = some (.cells #[] 23 (0, 0)) := by rw [PHeap.put_other _ _ hl4.symm, PHeap.put_other _ _ hd4.symm]; exact h13n4
      refine ⟨some ⟨n4, 0, none⟩, 0, [], ?_, ?_, ?_, ?_, ?_⟩
      · exact le_wo ((hB13.put hBd).put hBl) hBn4
      · rw [wo_other (hne hl4), PHeap.put_same]
      · rw [wo_other (hne hd4), PHeap.put_other _ _ hdl, PHeap.put_same]
      · rw [wo_other (hne hn54), PHeap.put_other _ _ hnl5, PHeap.put_other _ _ hnd5]; exact h13n5
      · refine ⟨wo_le _ _, rfl, .inr ⟨n4, [], rfl, wo_none _ _, hs4, rfl, Nat.le_refl _⟩⟩
    · rintro j hj H1 ⟨a, c, cells, i1, i2, i3, i4, i5⟩ p cp H2 hO
      refine hY [.slice p xss[j].length cp] H2 _ rfl (hO.le _ _ (wo_le _ _ _ _ i2)) ?_
      rw [f12_r0]
      -- the heap in the round
      obtain ⟨H2', e2'⟩ : ∃ H2', H2.put l (L .busy none) = H2' := ⟨_, rfl⟩
      rw [e2']
      have hal := i5.ne2 i2
      have ha5 := i5.ne2 i4
      have h2l : H2' l = some (L .busy none) := by rw [← e2', PHeap.put_same]
      have h2o : ∀ i, i ≠ l → H2' i = H2 i := fun i hi => by rw [← e2', PHeap.put_other _ _ hi]
      have hO2 : OwnS (H2'.wo a) H2' 23 1 a j c cells := i5.re fun b hb => by
        have hbl : b ≠ l := fun e => hal (e ▸ hb)
        rw [h2o b hbl]
        rcases i5.own with ⟨rfl, _⟩ | ⟨b2, rest, he, _, h8, _⟩
        · cases hb
        · rw [he] at hb; cases hb; rw [h8]; exact hO.le _ _ h8
      have hW : ∀ i o, i ≠ l → (H1.wo a) i = some o → (H2'.wo a) i = some o := fun i o hil hi => by
        have hai := i5.ne2 hi
        rw [wo_other hai, h2o i hil]
        exact hO.le _ _ (wo_le _ _ _ _ hi)
      have h25 := hW n5 _ hnl5 i4
      refine ⟨rfl, rfl, hO.le _ _ (wo_le _ _ _ _ i2), a, j, c, by have := cell_block (i := 0) (v := .slice a j c) (wo_le _ _ _ _ h25) rfl; simpa using this, ?_⟩
      refine hO2.app1 rfl rfl (by omega) (by omega) fun a' c' H3 h3 => ?_
      have h35 := h3.le _ _ h25
      have hst3 := storeTo_block (cs := [.slice a j c]) (i := 0) (v := .slice a' (j + 1) c') h35 (by simp)
      rw [Addr.add_zero] at hst3
      refine ⟨_, hst3, ?_⟩
      obtain ⟨H30, e30⟩ : ∃ H30, H3.put n5 (.cells (List.set [.slice a j c] 0 (.slice a' (j + 1) c')).toArray 22 (0, 0)) = H30 := ⟨_, rfl⟩
      rw [e30]
      have h305 : H30 n5 = some (.cells #[.slice a' (j + 1) c'] 22 (0, 0)) := by rw [← e30, PHeap.put_same]; rfl
      have h30o : ∀ i, i ≠ n5 → H30 i = H3 i := fun i hi => by rw [← e30, PHeap.put_other _ _ hi]
      have hK : ∀ i o, i ≠ l → i ≠ n5 → (H1.wo a) i = some o → H30 i = some o := fun i o hil hi5 hi => by rw [h30o i hi5]; exact h3.le _ _ (hW i o hil hi)
      have hKa : ∀ i o, i ≠ l → (H1.wo a) i = some o → a' ≠ some ⟨i, 0, none⟩ := fun i o hil hi => h3.ne2 (hW i o hil hi)
      have h30l : H30 l = some (L .busy none) := by rw [h30o l hnl5.symm]; exact h3.le _ _ (by rw [wo_other hal]; exact h2l)
      have hal' : a' ≠ some ⟨l, 0, none⟩ := h3.ne2 (i := l) (o := L .busy none) (by rw [wo_other hal]; exact h2l)
      have ha5' : a' ≠ some ⟨n5, 0, none⟩ := h3.ne2 h25
      have h23l : n2 ≠ l := fun e => by have := hBle _ _ h23n2; rw [e, hBl] at this; cases this
      have h25n : n2 ≠ n5 := fun e => by have := hBle _ _ h23n2; rw [e, hBn5] at this; cases this
      refine ⟨a', _, c', by have := cell_block (i := 0) (v := .slice a' (j + 1) c') h305 rfl; simpa using this, m, by have := cell_block (i := 0) (v := vi m) (hK n2 _ h23l h25n (i1 _ _ (hBle _ _ h23n2))) rfl; simpa using this, ?_⟩
      refine bCase_intro (fun h => by have h' : ((j + 1 : Nat) : Int) = m := (by simpa using h); omega) (fun _ => ?_)
      refine ⟨⟨_, _, h30l⟩, .inl ⟨rfl, a', c', cells ++ [.slice p xss[j].length cp], ?_, ?_, ?_, ?_, ?_⟩⟩
      · intro i o hi
        have hil : i ≠ l := fun e => by rw [e, hBl] at hi; cases hi
        have hi5 : i ≠ n5 := fun e => by rw [e, hBn5] at hi; cases hi
        have h1i := i1 _ _ hi
        rw [wo_other (hKa i o hil h1i), PHeap.put_other _ _ hil]
        exact hK i o hil hi5 h1i
      · rw [wo_other hal', PHeap.put_same]
      · rw [wo_other (hKa d _ hdl i3), PHeap.put_other _ _ hdl]
        exact hK d _ hdl hnd5.symm i3
      · rw [wo_other ha5', PHeap.put_other _ _ hnl5]; exact h305
      · refine h3.re fun b' hb' => ?_
        have hbl : b' ≠ l := fun e => hal' (e ▸ hb')
        have hb5 : b' ≠ n5 := fun e => ha5' (e ▸ hb')
        rw [PHeap.put_other _ _ hbl, h30o b' hb5]
  refine CallP.mono key ?_
  rintro _ H2 hh
  obtain ⟨a, c, cells, i1, i2, i3, i4, i5⟩ := hh.resolve_right id
  refine .inl ⟨wo_le _ _ _ _ i2, ?_⟩
  rw [f12_n0]
  have h25 : (H2.put l (L .exhausted none)) n5 = some (.cells #[.slice a xss.length c] 22 (0, 0)) := by rw [PHeap.put_other _ _ hnl5]; exact wo_le _ _ _ _ i4
  refine ⟨a, _, c, by have := cell_block (i := 0) (v := .slice a xss.length c) h25 rfl; simpa using this, ?_⟩
  have hBn3 : B n3 = some (.cells #[.slice none 0 0] 22 (0, 0)) := hBle _ _ h23n3
  have h3l : n3 ≠ l := fun e => by rw [e, hBl] at hBn3; cases hBn3
  have h3d : n3 ≠ d := fun e => by rw [e, hBd] at hBn3; cases hBn3
  have hst := storeTo_block (H := H2.put l (L .exhausted none)) (b := n3) (cs := [.slice none 0 0]) (elem := 22) (i := 0) (v := .slice a xss.length c) (by rw [PHeap.put_other _ _ h3l]; exact wo_le _ _ _ _ (i1 _ _ hBn3)) (by simp)
  rw [Addr.add_zero] at hst
  refine ⟨_, hst, endW_cells (rs := [.cell 4 22]) (vs := [.slice a xss.length c]) (by kernel_rfl) (.inl (by simp)) ⟨⟨_, rfl, ldAt_one (by kernel_rfl) ?_⟩, trivial⟩ ?_ (by simp) ⟨a, c, rfl⟩⟩
  · rw [drop_cell h3d]
    have := cell_block (i := 0) (v := .slice a xss.length c) (PHeap.put_same (H2.put l (L .exhausted none)) n3 (.cells (List.set [.slice none 0 0] 0 (.slice a xss.length c)).toArray 22 (0, 0))) rfl
    simpa using this
  · intro m' hm'
    simp only [List.mem_singleton] at hm'
    subst hm'
    rw [PHeap.put_other _ _ h3d.symm, PHeap.put_other _ _ hdl]
    exact wo_le _ _ _ _ i3
end Go.Inf
