import Derived.Test.YtbhggmghelmnhaaInfK
namespace Go.Inf
open Go Go.Proofs
/-- What needs no memory leaves all as it is. -/
theorem CallP.lift {P : Program} {f : FuncId} {args : Array Value} {K : Value → PHeap → Prop} (h : CallP P f args (fun _ => none) K) {H : PHeap} : CallP P f args H fun v H' => (∃ H2, K v H2) ∧ H' = H := by
  intro w hw
  refine (h w (fun b o hb => by cases hb)).mono ?_
  rintro e w' ⟨v, H2, rfl, hs, hk⟩
  refine ⟨v, H, rfl, ⟨fun b o hb => ?_, hs.os, hs.tape, hs.output, hs.size, fun b hb hn => ⟨(hs.keep b hb rfl).1, hn⟩⟩, ⟨H2, hk⟩, rfl⟩
  rw [(hs.keep b (hw.lt hb) rfl).1]
  exact hw b o hb

/-- Headers of rows of numbers. -/
def HS (H : PHeap) (hs : List Value) (xss : List (List Int)) : Prop := hs.length = xss.length ∧ ∀ (k : Nat) (v : Value) (xs : List Int), hs[k]? = some v → xss[k]? = some xs → ∃ (p : Option Addr) (c : Nat), v = Value.slice p xs.length c ∧ H.rowAt p (xs.map vi)
theorem HS.ss {H : PHeap} {hs : List Value} {xss : List (List Int)} {a : Option Addr} (h : HS H hs xss) (hr : H.rowAt a hs) : SS H a xss := ⟨hs, hr, h.1, h.2⟩
theorem SS.hs {H : PHeap} {xss : List (List Int)} {a : Option Addr} (h : SS H a xss) : ∃ hs, H.rowAt a hs ∧ HS H hs xss := by
  obtain ⟨hs, h1, h2, h3⟩ := h
  exact ⟨hs, h1, h2, h3⟩
theorem HS.le {H H' : PHeap} {hs : List Value} {xss : List (List Int)} (h : HS H hs xss) (hle : H.le H') : HS H' hs xss := by
  refine ⟨h.1, fun k v xs hv hx => ?_⟩
  obtain ⟨p, c, e, hr⟩ := h.2 k v xs hv hx
  exact ⟨p, c, e, rowAt_le hle hr⟩
theorem HS.nil (H : PHeap) : HS H [] [] := ⟨rfl, fun k v xs hv => by simp at hv⟩
theorem HS.app {H : PHeap} {hs gs : List Value} {xss yss : List (List Int)} (h : HS H hs xss) (h' : HS H gs yss) : HS H (hs ++ gs) (xss ++ yss) := by
  refine ⟨by simp [h.1, h'.1], fun k v xs hv hx => ?_⟩
  by_cases hk : k < xss.length
  · rw [List.getElem?_append_left (by rw [h.1]; exact hk)] at hv
    rw [List.getElem?_append_left hk] at hx
    exact h.2 k v xs hv hx
  · rw [List.getElem?_append_right (by rw [h.1]; omega), h.1] at hv
    rw [List.getElem?_append_right (by omega)] at hx
    exact h'.2 _ v xs hv hx
theorem HS.one {H : PHeap} {p : Option Addr} {c : Nat} {xs : List Int} (h : H.rowAt p (xs.map vi)) : HS H [.slice p xs.length c] [xs] := by
  refine ⟨rfl, fun k v ys hv hx => ?_⟩
  cases k with
  | zero => simp at hv hx; subst hv; subst hx; exact ⟨p, c, rfl, h⟩
  | succ k => simp at hv
theorem HS.rev {H : PHeap} {hs : List Value} {xss : List (List Int)} (h : HS H hs xss) : HS H hs.reverse xss.reverse := by
  refine ⟨by simp [h.1], fun k v xs hv hx => ?_⟩
  have hk : k < xss.length := by
    have := (List.getElem?_eq_some_iff.1 hx).1
    simpa using this
  rw [List.getElem?_reverse (by rw [h.1]; exact hk), h.1] at hv
  rw [List.getElem?_reverse hk] at hx
  exact h.2 _ v xs hv hx
theorem HS.singles {H : PHeap} : ∀ {hs : List Value} {xss : List (List Int)}, HS H hs xss → singles hs = true := by
  intro hs
  induction hs with
  | nil => intro xss _; rfl
  | cons v hs ih =>
    intro xss h
    cases xss with
    | nil => cases h.1
    | cons x xss =>
      obtain ⟨p, c, rfl, _⟩ := h.2 0 _ _ rfl rfl
      have ht : HS H hs xss := ⟨by have := h.1; simpa using this, fun k v xs hv hx => h.2 (k + 1) v xs (by simpa using hv) (by simpa using hx)⟩
      have := ih ht
      simp [Go.singles, Value.single, this]

/-- the law's few -/
theorem few_call {H : PHeap} {a : Option Addr} {c : Nat} {xss : List (List Int)} {m : Int} (h : SS H a xss) (hn : xss.length ≤ 9223372036854775807) :
    CallP Try.prog 5 #[.slice a xss.length c, vi m] H fun v H' => v = .bool (decide ((∀ s ∈ xss, s.length ≤ 40) ∧ (xss.length : Int) ≤ m)) ∧ H' = H := by
  refine CallP.of_nv ?_
  rw [f5_is]
  refine ⟨fun vs H1 => match vs with
    | [_, .int _ i] => ∃ k : Nat, i = k ∧ k ≤ xss.length ∧ H1 = H ∧ ∀ s ∈ xss.take k, s.length ≤ 40
    | _ => False, fun vs _ => match vs with
    | [_, .int _ i] => xss.length - i.toNat
    | _ => 0, ⟨0, rfl, Nat.zero_le _, rfl, by simp⟩, ?_⟩
  rintro _ i H1 ⟨k, rfl, hk, rfl, hI⟩
  refine bCase_intro (fun h1 => ?_) (fun h1 => ?_)
  · have hlt : k < xss.length := by have := of_decide_eq_true h1; omega
    obtain ⟨q, p, cp, rfl, hc, hr⟩ := h.get hlt
    refine ⟨q, rfl, by omega, by omega, p, _, cp, by simpa using hc, bCase_intro (fun h2 => ?_) (fun h2 => ?_)⟩
    · have h3 := of_decide_eq_true h2
      refine ⟨?_, rfl⟩
      congr 1
      rw [eq_comm, decide_eq_false_iff_not]
      rintro ⟨h4, _⟩
      have := h4 _ (List.getElem_mem hlt)
      omega
    · have h3 := of_decide_eq_false h2
      rw [show IntKind.i64.wrap ((k : Int) + 1) = ((k + 1 : Nat) : Int) from by rw [IntWalk.i64_in _ (by omega)]; rfl]
      refine ⟨⟨k + 1, rfl, hlt, rfl, ?_⟩, mu1 hlt⟩
      rw [List.take_succ_eq_append_getElem hlt]
      intro s hs
      rcases List.mem_append.1 hs with hs | hs
      · exact hI s hs
      · rw [List.mem_singleton.1 hs]; omega
  · have hge : k = xss.length := by have := of_decide_eq_false h1; omega
    rw [hge, List.take_length] at hI
    refine ⟨?_, rfl⟩
    congr 1
    rw [decide_eq_decide]
    exact ⟨fun h => ⟨hI, h⟩, fun h => h.2⟩

/-! ### the example -/
theorem exposed_a : exposedF [[1, 2, 3], [2, 3]] = (1, true) := by
  have hr : ∀ s ∈ [[1, 2, 3], [2, (3 : Int)]], rightF s = true := by decide
  have ht : Tells [[1, 2, 3], [2, 3]] 1 := by
    refine ⟨1, by decide, fun l => if l = 0 then 1 else -1, fun y => ?_⟩
    simp only [sm, List.length_cons, List.length_nil, List.getD, List.getElem?_cons_zero, List.getElem?_cons_succ, Option.getD_some, List.mem_cons, List.not_mem_nil, or_false]
    grind
  rcases exposed_spec (by decide) hr with ⟨x, e, t, m⟩ | ⟨e, n⟩
  · have h1 := m 1 ht
    have h2 := tells_mem t
    rw [(names_spec _).2] at h2
    obtain ⟨s, hs, hx⟩ := h2
    have h3 : 1 ≤ x := by
      simp only [List.mem_cons, List.not_mem_nil, or_false] at hs
      rcases hs with rfl | rfl <;> simp only [List.mem_cons, List.not_mem_nil, or_false] at hx <;> omega
    rw [e, show x = 1 from by omega]
  · exact absurd ht (n 1)
theorem exposed_b : exposedF [[1, 2, 3], [3, 4, 5]] = (0, false) := by
  have hr : ∀ s ∈ [[1, 2, 3], [3, 4, (5 : Int)]], rightF s = true := by decide
  rcases exposed_spec (by decide) hr with ⟨x, e, ⟨q, hq, c, hc⟩, m⟩ | ⟨e, n⟩
  · exfalso
    have h1 := hc 1; have h2 := hc 2; have h3 := hc 3; have h4 := hc 4; have h5 := hc 5; have hx := hc x
    simp only [sm, List.length_cons, List.length_nil, List.getD, List.getElem?_cons_zero, List.getElem?_cons_succ, Option.getD_some, List.mem_cons, List.not_mem_nil, or_false] at h1 h2 h3 h4 h5 hx
    grind
  · exact e

theorem row_lit {H : PHeap} {b : Nat} {elem : TypeId} {xs : List Int} : (H.put b (.cells (xs.map vi).toArray elem (0, 0))).rowAt (some ⟨b, 0, none⟩) (xs.map vi) := has_block (PHeap.put_same _ _ _)

theorem alive_call {H : PHeap} : CallP Try.prog 4 #[] H fun v H' => v = .bool true ∧ H' = H := by
  suffices h : CallP Try.prog 4 #[] (fun _ => none) fun v _ => v = .bool true by
    refine (CallP.lift h).mono ?_
    rintro v H' ⟨⟨_, h1⟩, h2⟩
    exact ⟨h1, h2⟩
  refine CallP.of_nv ?_
  rw [f4_is]
  have two : ∀ {H : PHeap} {n0 n1 n2 : Nat} {xs ys : List Int}, H n0 = none → (H.put n0 (.cells (xs.map vi).toArray 3 (0, 0))) n1 = none → ((H.put n0 (.cells (xs.map vi).toArray 3 (0, 0))).put n1 (.cells (ys.map vi).toArray 3 (0, 0))) n2 = none →
      SS (((H.put n0 (.cells (xs.map vi).toArray 3 (0, 0))).put n1 (.cells (ys.map vi).toArray 3 (0, 0))).put n2 (.cells #[.slice (some ⟨n0, 0, none⟩) xs.length xs.length, .slice (some ⟨n1, 0, none⟩) ys.length ys.length] 23 (0, 0))) (some ⟨n2, 0, none⟩) [xs, ys] := by
    intro H n0 n1 n2 xs ys h0 h1 h2
    refine HS.ss (hs := [.slice (some ⟨n0, 0, none⟩) xs.length xs.length, .slice (some ⟨n1, 0, none⟩) ys.length ys.length]) ?_ (has_block (PHeap.put_same _ _ _))
    refine HS.le (HS.app (HS.one (c := xs.length) (rowAt_le (PHeap.le.put_new h1) row_lit)) (HS.one row_lit)) (PHeap.le.put_new h2)
  intro n0 h0 n1 h1 n2 h2
  refine (exposed_call (c := 2) (two (xs := [1, 2, 3]) (ys := [2, 3]) h0 h1 h2) (by decide) (by decide)).mono ?_
  rintro v H4 ⟨rfl, -⟩
  rw [exposed_a]
  refine ⟨_, _, rfl, ?_⟩
  intro n7 h7 n8 h8 n9 h9
  refine (exposed_call (c := 2) (two (xs := [1, 2, 3]) (ys := [3, 4, 5]) h7 h8 h9) (by decide) (by decide)).mono ?_
  rintro v H11 ⟨rfl, -⟩
  rw [exposed_b]
  refine ⟨_, _, rfl, bCase_intro (fun h => by cases h) (fun _ => ?_)⟩
  refine (check_call (k := 2) (r := 1) (b := 2) (by decide) (by decide) (by decide)).mono ?_
  rintro v H15 ⟨rfl, -⟩
  refine ⟨_, rfl, bCase_intro (fun h => by cases h) (fun _ => ?_)⟩
  refine (new_call (k := 3) (r := 1) (b := 2) (by decide) (by decide) (by decide) (by decide)).mono ?_
  rintro v H18 ⟨n, rfl, -, hC⟩
  refine ⟨_, _, rfl, bCase_intro (fun h => by cases h) (fun _ => ?_)⟩
  have ask : ∀ {HB Hx : PHeap} {xss : List (List Int)} {set : List Int} {m : Nat}, Ctl HB Hx n 3 1 2 xss → Hx m = none → xss.length ≤ 2 ^ 30 → set.length ≤ 2 ^ 40 → (∀ xs ∈ xss, xs.length ≤ 2 ^ 40) →
      CallP Try.prog 10 #[.pointer (some (Addr.mk n 0 none)), .slice (some ⟨m, 0, none⟩) set.length set.length, vi 9] (Hx.put m (.cells (set.map vi).toArray 3 (0, 0))) fun v H' => v = vi (askF 3 1 2 xss set 9) ∧ ∃ HB', Ctl HB' H' n 3 1 2 (if askF 3 1 2 xss set 9 = 0 then xss ++ [set] else xss) :=
    fun hC hm h1 h2 h3 => ask_call (hC.up (PHeap.le.put_new hm)) row_lit h1 h2 (Nat.le_refl _) h3 (by decide) (by decide) (by decide)
  intro n21 h21
  refine (ask (set := [1, 2, 3]) hC h21 (by decide) (by decide) (by decide)).mono ?_
  rintro v H23 ⟨rfl, HB1, hC1⟩
  refine ⟨_, rfl, ?_⟩
  have a1 : askF 3 1 2 [] [1, 2, 3] 9 = 0 := by decide
  rw [a1] at hC1 ⊢
  intro n25 h25
  refine (ask (set := [1, 2]) hC1 h25 (by decide) (by decide) (by decide)).mono ?_
  rintro v H27 ⟨rfl, HB2, hC2⟩
  refine ⟨_, rfl, ?_⟩
  have a2 : askF 3 1 2 [[1, 2, 3]] [1, 2] 9 = 34 := by decide
  simp only [if_true, List.nil_append] at hC2 ⊢
  rw [a2] at hC2 ⊢
  intro n29 h29
  refine (ask (set := [1, 2, 4]) hC2 h29 (by decide) (by decide) (by decide)).mono ?_
  rintro v H31 ⟨rfl, HB3, hC3⟩
  refine ⟨_, rfl, ?_⟩
  have a3 : askF 3 1 2 [[1, 2, 3]] [1, 2, 4] 9 = 35 := by decide
  have e34 : ¬ (34 : Int) = 0 := by decide
  simp only [if_neg e34] at hC3 ⊢
  rw [a3] at hC3 ⊢
  intro n33 h33
  refine (ask (set := [3, 4, 5]) hC3 h33 (by decide) (by decide) (by decide)).mono ?_
  rintro v H35 ⟨rfl, HB4, hC4⟩
  refine ⟨_, rfl, ?_⟩
  have a4 : askF 3 1 2 [[1, 2, 3]] [3, 4, 5] 9 = 0 := by decide
  have e35 : ¬ (35 : Int) = 0 := by decide
  simp only [if_neg e35] at hC4 ⊢
  rw [a4] at hC4 ⊢
  intro n37 h37
  refine (ask (set := [6, 7, 8]) hC4 h37 (by decide) (by decide) (by decide)).mono ?_
  rintro v H39 ⟨rfl, HB5, hC5⟩
  refine ⟨_, rfl, ?_⟩
  have a5 : askF 3 1 2 [[1, 2, 3], [3, 4, 5]] [6, 7, 8] 9 = 33 := by decide
  simp only [if_true, List.cons_append, List.nil_append] at hC5 ⊢
  rw [a5] at hC5 ⊢
  have e33 : ¬ (33 : Int) = 0 := by decide
  simp only [if_neg e33] at hC5
  refine bCase_intro (fun _ => ?_) (fun h => by cases h)
  refine (left_call hC5 (by decide) (by decide)).mono ?_
  rintro v H42 ⟨rfl, rfl⟩
  refine ⟨_, rfl, bCase_intro (fun _ => ?_) (fun h => by cases h)⟩
  refine (told_call (m := 9) hC5 (by decide) (by decide) (by decide)).mono ?_
  rintro v H45 ⟨a, c, rfl⟩
  refine ⟨_, _, _, rfl, bCase_intro (fun _ => ?_) (fun h => by cases h)⟩
  refine (check_call (k := 3) (r := 1) (b := 2) (by decide) (by decide) (by decide)).mono ?_
  rintro v H50 ⟨rfl, -⟩
  exact ⟨_, rfl, rfl⟩
end Go.Inf
