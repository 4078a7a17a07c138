import Derived.Test.YtbhggmghelmnhaaInfG
namespace Go.Inf
open Go Go.Proofs
theorem wrongs_call {H : PHeap} {a p q : Option Addr} {c : Nat} {xss : List (List Int)} (h : SS H a xss) (hn : xss.length ≤ 2 ^ 40) (hm : ∀ xs ∈ xss, xs.length ≤ 2 ^ 40) :
    CallP Try.prog 13 #[.slice a xss.length c, .func (.func 14) #[] #[]] H fun v H' => v = .bool (decide (∃ s ∈ xss, rightF s = false)) ∧ H' = H := by
  have hw : ∀ {k m : Nat}, k < m → m ≤ 2 ^ 62 → IntKind.i64.wrap ((k : Int) + 1) = ((k + 1 : Nat) : Int) := fun hk hm => by rw [IntWalk.i64_in _ (by omega)]; rfl
  have hmu : ∀ {k m : Nat}, k < m → m - ((k + 1 : Nat) : Int).toNat < m - (k : Int).toNat := fun hk => by omega
  have h14 : ∀ {p : Option Addr} {c : Nat} {xs : List Int}, H.rowAt p (xs.map vi) → xs.length ≤ 2 ^ 40 → CallP Try.prog 14 #[.slice p xs.length c] H fun v H' => v = .bool (!rightF xs) ∧ H' = H := fun hr hl => by
    refine CallP.of_nv ?_
    rw [f14_is]
    refine (right_call hr (by omega)).mono ?_
    rintro v H' ⟨rfl, rfl⟩
    exact ⟨_, rfl, rfl, rfl⟩
  have h22 : CallP Try.prog 22 #[.slice a xss.length c, .func (.func 14) #[] #[]] H fun v H' => ∃ x : Int, v = vi x ∧ (0 ≤ x ↔ ∃ s ∈ xss, rightF s = false) ∧ H' = H := by
    refine CallP.of_nv ?_
    rw [f22_is]
    refine ⟨fun vs H1 => match vs with
      | [_, .int _ i] => ∃ k : Nat, i = k ∧ k ≤ xss.length ∧ H1 = H ∧ ((∃ s ∈ xss, rightF s = false) ↔ ∃ s ∈ xss.drop k, rightF s = false)
      | _ => False, fun vs _ => match vs with
      | [_, .int _ i] => xss.length - i.toNat
      | _ => 0, ⟨0, rfl, Nat.zero_le _, rfl, Iff.rfl⟩, ?_⟩
    rintro _ i H1 ⟨k, rfl, hk, rfl, hI⟩
    refine bCase_intro (fun h1 => ?_) (fun h1 => ?_)
    · have hlt : k < xss.length := by have := of_decide_eq_true h1; omega
      obtain ⟨q, p, cp, rfl, hc, hr⟩ := h.get hlt
      refine ⟨q, rfl, by omega, by omega, p, _, cp, by simpa using hc, onlyIf_intro (by kernel_rfl) ?_⟩
      refine (h14 (c := cp) hr (hm _ (List.getElem_mem hlt))).mono ?_
      rintro v H' ⟨rfl, rfl⟩
      have hdrop : xss.drop k = xss[k] :: xss.drop (k + 1) := List.drop_eq_getElem_cons hlt
      refine ⟨_, rfl, bCase_intro (fun h2 => ?_) (fun h2 => ?_)⟩
      · exact ⟨_, rfl, ⟨fun _ => ⟨xss[k], List.getElem_mem hlt, by simpa using h2⟩, fun _ => by omega⟩, rfl⟩
      · rw [hw hlt (by omega)]
        refine ⟨⟨k + 1, rfl, hlt, rfl, ?_⟩, hmu hlt⟩
        rw [hI, hdrop]
        have h3 : rightF xss[k] = true := by simpa using h2
        constructor
        · rintro ⟨s, hs, he⟩
          rcases List.mem_cons.1 hs with rfl | hs
          · rw [h3] at he; cases he
          · exact ⟨s, hs, he⟩
        · rintro ⟨s, hs, he⟩; exact ⟨s, List.mem_cons_of_mem _ hs, he⟩
    · have hge : k = xss.length := by have := of_decide_eq_false h1; omega
      refine ⟨_, rfl, ⟨fun h2 => by omega, fun h2 => ?_⟩, rfl⟩
      rw [hI, hge, List.drop_length] at h2
      obtain ⟨s, hs, _⟩ := h2
      cases hs
  refine CallP.of_nv ?_
  rw [f13_is]
  refine h22.mono ?_
  rintro v H' ⟨x, rfl, hx, rfl⟩
  refine ⟨x, rfl, ?_, rfl⟩
  congr 1
  exact decide_eq_decide.2 hx

theorem reduce_nil {H : PHeap} {c : Nat} : CallP Try.prog 16 #[.slice none 0 c, vi 0] H fun v H' => v = .slice none 0 c ∧ H' = H := by
  refine CallP.of_nv ?_
  rw [f16_is]
  refine ⟨fun vs H1 => match vs with
    | [_, .int _ i] => i = 0 ∧ H1 = H
    | _ => False, fun _ _ => 0, ⟨rfl, rfl⟩, ?_⟩
  rintro _ i H1 ⟨rfl, rfl⟩
  exact bCase_intro (fun h => by cases h) (fun _ => ⟨rfl, rfl⟩)
theorem names_nil : namesF [] = [] := by simp [namesF, Lib.compact, Lib.compactUpTo]

/-- infer.Exposed -/
theorem exposed_call {H : PHeap} {a : Option Addr} {c : Nat} {xss : List (List Int)} (h : SS H a xss) (hn : xss.length ≤ 8) (hm : ∀ xs ∈ xss, xs.length ≤ 1000) :
    CallP Try.prog 7 #[.slice a xss.length c] H fun v H' => v = .tuple #[vi (exposedF xss).1, .bool (exposedF xss).2] ∧ H' = H := by
  have hw : ∀ {k m : Nat}, k < m → m ≤ 2 ^ 62 → IntKind.i64.wrap ((k : Int) + 1) = ((k + 1 : Nat) : Int) := fun hk hm => by rw [IntWalk.i64_in _ (by omega)]; rfl
  have hmu : ∀ {k m : Nat}, k < m → m - ((k + 1 : Nat) : Int).toNat < m - (k : Int).toNat := fun hk => by omega
  have hmain : CallP Try.prog 7 #[.slice a xss.length c] H fun v H' => v = .tuple #[vi (exposedF xss).1, .bool (exposedF xss).2] ∧ H.le H' := by
    refine CallP.of_nv ?_
    rw [f7_is]
    refine bCase_intro (fun h1 => by have := of_decide_eq_true h1; omega) (fun _ => ?_)
    refine (wrongs_call (p := none) (q := none) h (by omega) fun xs hx => Nat.le_trans (hm xs hx) (by decide)).mono ?_
    rintro v H' ⟨rfl, rfl⟩
    refine ⟨_, rfl, bCase_intro (fun h2 => ?_) (fun h2 => ?_)⟩
    · have h3 := of_decide_eq_true h2
      have : exposedF xss = (0, false) := by unfold exposedF; rw [if_pos (.inr h3)]
      rw [this]
      exact ⟨rfl, PHeap.le.refl _⟩
    · have h3 := of_decide_eq_false h2
      have hex : exposedF xss = exposeGo (namesF xss) (reduceF (matF xss) (namesF xss).length) := by unfold exposedF; rw [if_neg (by rintro (h4 | h4); omega; exact h3 h4)]
      refine (matrix_call h hn hm).mono ?_
      rintro v H1 ⟨a1, c1, a2, c2, H2, rfl, hle, hN, hle2, hcase⟩
      refine ⟨a1, _, c1, a2, _, c2, rfl, ?_⟩
      rcases hcase with ⟨rfl, rfl⟩ | ⟨hb, rest, bs, rfl, hM⟩
      · rw [names_nil] at hex ⊢
        refine reduce_nil.mono ?_
        rintro v H3 ⟨rfl, rfl⟩
        refine ⟨_, _, _, rfl, fun vs H4 => match vs with
          | [_, _, .int _ i] => i = 0 ∧ H4 = H3
          | _ => False, fun _ _ => 0, ⟨rfl, rfl⟩, ?_⟩
        rintro _ _ i H4 ⟨rfl, rfl⟩
        refine bCase_intro (fun h => by cases h) (fun _ => ⟨?_, hle.trans hle2⟩)
        rw [hex]
        rfl
      · have hml : (matF xss).length = xss.length := by simp [matF]
        have hNn : (namesF xss).length ≤ 2 ^ 62 := by
          have h5 : (namesF xss).length ≤ 8000 := by
            have h6 := Lib.compact_length_le (xss.flatten.mergeSort fun x y => decide (x ≤ y))
            rw [List.length_mergeSort] at h6
            have h7 := flat_len hm
            have h8 : (namesF xss).length ≤ xss.flatten.length := h6
            omega
          omega
        have hred := reduce_call (c := c1) (keepsE (n := (namesF xss).length) (R := fun l j => ent (matF xss) l j) hn) hM mat_init hNn (by rw [hml]; omega)
        rw [hml] at hred
        refine hred.mono ?_
        rintro v H3 ⟨rfl, bs', hM'⟩
        have hrl : (reduceF (matF xss) (namesF xss).length).length = xss.length := by
          obtain ⟨p, S, T, pc, hE, _⟩ := reduceGo_inv (keepsE (n := (namesF xss).length) (R := fun l j => ent (matF xss) l j) hn) (namesF xss).length 0 0 (matF xss) mat_init
          exact hE.len
        obtain ⟨M, hMd⟩ : ∃ M, reduceF (matF xss) (namesF xss).length = M := ⟨_, rfl⟩
        rw [hMd] at hM' hrl hex
        refine ⟨_, _, _, rfl, fun vs H4 => match vs with
          | [_, _, .int _ i] => ∃ k : Nat, i = k ∧ k ≤ xss.length ∧ H4 = H3 ∧ exposedF xss = exposeGo (namesF xss) (M.drop k)
          | _ => False, fun vs _ => match vs with
          | [_, _, .int _ i] => xss.length - i.toNat
          | _ => 0, ⟨0, rfl, Nat.zero_le _, rfl, hex⟩, ?_⟩
        rintro _ _ i H4 ⟨k, rfl, hk, rfl, hI⟩
        refine bCase_intro (fun h4 => ?_) (fun h4 => ?_)
        · have hlt : k < xss.length := by have := of_decide_eq_true h4; omega
          have hltM : k < M.length := by omega
          have hltb : k < bs'.length := by rw [← hM'.len]; exact hltM
          have hbk : bs'[k]? = some bs'[k] := List.getElem?_eq_getElem hltb
          have hMk : M[k]? = some M[k] := List.getElem?_eq_getElem hltM
          obtain ⟨hrow, hrlen⟩ := hM'.row k _ _ hbk hMk
          have hdrop : M.drop k = M[k] :: M.drop (k + 1) := List.drop_eq_getElem_cons hltM
          rw [hdrop] at hI
          simp only [exposeGo] at hI
          refine ⟨_, rfl, by omega, by omega, some ⟨bs'[k], 0, none⟩, (namesF xss).length, (namesF xss).length, by simpa using hM'.hdr_get hbk, ?_⟩
          have hlone := lone_call (c := (namesF xss).length) (a := some ⟨bs'[k], 0, none⟩) (has_block hrow) (by omega)
          rw [hrlen] at hlone
          refine hlone.mono ?_
          rintro v H5 ⟨rfl, rfl⟩
          refine ⟨_, rfl, bCase_intro (fun h5 => ?_) (fun h5 => ?_)⟩
          · have h6 := of_decide_eq_true h5
            rw [if_pos h6] at hI
            have hL := at_lone h6
            have hjn : (loneF M[k]).toNat < (namesF xss).length := by
              rw [← hrlen]
              false_or_by_contra
              exact hL.1 (by rw [List.getD, List.getElem?_eq_none (by omega)]; rfl)
            obtain ⟨q, rfl, hq⟩ := (hN.le hM'.base).get hjn
            refine ⟨q, rfl, by omega, by omega, _, by simpa using hq, ?_, (hle.trans hM'.base)⟩
            rw [hI, List.getD, List.getElem?_eq_getElem hjn]
            rfl
          · have h6 := of_decide_eq_false h5
            rw [if_neg h6] at hI
            rw [hw hlt (by omega)]
            exact ⟨⟨k + 1, rfl, hlt, rfl, hI⟩, hmu hlt⟩
        · have hge : k = xss.length := by have := of_decide_eq_false h4; omega
          rw [hge, ← hrl, List.drop_length] at hI
          rw [hI]
          exact ⟨rfl, hle.trans hM'.base⟩
  refine (hmain.of_le fun v H' h => h.2).mono ?_
  rintro v H' ⟨⟨H2, rfl, _⟩, rfl⟩
  exact ⟨rfl, rfl⟩
end Go.Inf
