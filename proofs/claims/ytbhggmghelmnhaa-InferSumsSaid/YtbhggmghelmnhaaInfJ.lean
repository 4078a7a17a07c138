import Derived.Test.YtbhggmghelmnhaaInfI
namespace Go.Inf
open Go Go.Proofs
/-- slices.Clone -/
theorem clone_call {H : PHeap} {a : Option Addr} {c : Nat} {xs : List Int} (h : H.rowAt a (xs.map vi)) (hl : xs.length ≤ 2 ^ 40) :
    CallP Try.prog 28 #[.slice a xs.length c] H fun v H' => ∃ a' c', v = .slice a' xs.length c' ∧ OwnS H H' 3 1 a' xs.length c' (xs.map vi) := by
  refine CallP.of_nv ?_
  rw [f28_is]
  refine bCase_intro (fun h1 => ?_) (fun h1 => ?_)
  · cases a with
    | some p => cases h1
    | none =>
      have hx : xs.map vi = [] := h
      have : xs = [] := List.map_eq_nil_iff.1 hx
      subst this
      exact ⟨none, 0, rfl, OwnS.nil (PHeap.le.refl H)⟩
  · intro n hn
    have hm := OwnS.made (H := H) (elem := 3) (cells := []) (l := 0) hn rfl
    refine hm.appRow (rowAt_le (PHeap.le.put_new hn) h) (by simp) rfl (singles_vi _) (by omega) (by omega) fun a' c' H2 h2 => ?_
    rw [Nat.zero_add] at h2 ⊢
    exact ⟨a', c', rfl, h2.less hm.base⟩

/-- A control of k, r, b, that told sets. -/
def Ctl (HB H : PHeap) (n : Nat) (k r b : Int) (xss : List (List Int)) : Prop :=
  ∃ (a : Option Addr) (c : Nat) (hs : List Value), H n = some (.cells #[vi k, vi r, vi b, .slice a xss.length c] 48 (0, 0)) ∧ HB n = none ∧ OwnS HB H 23 1 a xss.length c hs ∧ hs.length = xss.length ∧
    ∀ (i : Nat) (v : Value) (xs : List Int), hs[i]? = some v → xss[i]? = some xs → ∃ (p : Option Addr) (c : Nat), v = .slice p xs.length c ∧ xs.length ≤ c ∧ HB.rowAt p (xs.map vi)
theorem Ctl.up {HB H H' : PHeap} {n : Nat} {k r b : Int} {xss : List (List Int)} (h : Ctl HB H n k r b xss) (hle : H.le H') : Ctl HB H' n k r b xss := by
  obtain ⟨a, c, hs, h1, h2, h3, h4, h5⟩ := h
  exact ⟨a, c, hs, hle _ _ h1, h2, h3.up hle, h4, h5⟩
theorem Ctl.cell {HB H : PHeap} {n : Nat} {k r b : Int} {xss : List (List Int)} (h : Ctl HB H n k r b xss) :
    H.cell? ((Addr.mk n 0 none).add 0) = some (vi k) ∧ H.cell? ((Addr.mk n 0 none).add 1) = some (vi r) ∧ H.cell? ((Addr.mk n 0 none).add 2) = some (vi b) ∧
      ∃ a c, H.cell? (((Addr.mk n 0 none).add 3).add 0) = some (.slice a xss.length c) := by
  obtain ⟨a, c, hs, h1, h2, h3, h4, h5⟩ := h
  refine ⟨cell_block h1 rfl, cell_block h1 rfl, cell_block h1 rfl, a, c, ?_⟩
  rw [Addr.add_add]
  exact cell_block h1 rfl

theorem len_call {HB H : PHeap} {n : Nat} {k r b : Int} {xss : List (List Int)} (h : Ctl HB H n k r b xss) :
    CallP Try.prog 20 #[.pointer (some ((Addr.mk n 0 none).add 3))] H fun v H' => v = vi xss.length ∧ H' = H := by
  refine CallP.of_nv ?_
  rw [f20_is]
  obtain ⟨_, _, _, a, c, h4⟩ := h.cell
  exact ⟨_, rfl, a, _, c, h4, rfl, rfl⟩
theorem left_call {HB H : PHeap} {n : Nat} {k r b : Int} {xss : List (List Int)} (h : Ctl HB H n k r b xss) (hb : 0 ≤ b ∧ b ≤ 4096) (hl : xss.length ≤ 2 ^ 40) :
    CallP Try.prog 11 #[.pointer (some (Addr.mk n 0 none))] H fun v H' => v = vi (b - xss.length) ∧ H' = H := by
  refine CallP.of_nv ?_
  rw [f11_is]
  obtain ⟨_, _, h3, _⟩ := h.cell
  refine ⟨_, rfl, _, h3, _, rfl, (len_call h).mono ?_⟩
  rintro v H' ⟨rfl, rfl⟩
  refine ⟨h3, _, rfl, ?_, rfl⟩
  rw [IntWalk.i64_in _ (by omega)]
/-- overlap.Record's Most -/
def mostF (set : List Int) (xss : List (List Int)) : Nat := xss.foldl (fun n x => if sharedF set x > n then sharedF set x else n) 0
theorem most_call {HB H : PHeap} {n c : Nat} {k r b : Int} {xss : List (List Int)} {q : Option Addr} {set : List Int} (h : Ctl HB H n k r b xss) (hq : H.rowAt q (set.map vi)) (hl : xss.length ≤ 2 ^ 40)
    (hs : set.length ≤ 2 ^ 40) (hc : set.length ≤ c) (hx : ∀ xs ∈ xss, xs.length ≤ 2 ^ 40) :
    CallP Try.prog 27 #[.pointer (some ((Addr.mk n 0 none).add 3)), .slice q set.length c] H fun v H' => v = vi (mostF set xss : Nat) ∧ H' = H := by
  refine CallP.of_nv ?_
  rw [f27_is]
  obtain ⟨a, ca, hs', h1, h2, h3, h4, h5⟩ := h
  refine ⟨_, rfl, a, xss.length, ca, by rw [Addr.add_add]; exact cell_block h1 rfl, ?_⟩
  refine ⟨fun vs H1 => match vs with
    | [.int _ m, .int _ i] => ∃ j : Nat, i = j ∧ j ≤ xss.length ∧ H1 = H ∧ ∃ m' : Nat, m = m' ∧ mostF set xss = (xss.drop j).foldl (fun n x => if sharedF set x > n then sharedF set x else n) m'
    | _ => False, fun vs _ => match vs with
    | [_, .int _ i] => xss.length - i.toNat
    | _ => 0, ⟨0, rfl, Nat.zero_le _, rfl, 0, rfl, rfl⟩, ?_⟩
  rintro m i H1 ⟨j, rfl, hj, rfl, m, rfl, hI⟩
  refine bCase_intro (fun h6 => ?_) (fun h6 => ?_)
  · have hlt : j < xss.length := by have := of_decide_eq_true h6; omega
    have hv : hs'[j]? = some (hs'[j]'(by omega)) := List.getElem?_eq_getElem _
    obtain ⟨p, cp, he, hcp, hr⟩ := h5 j _ _ hv (List.getElem?_eq_getElem hlt)
    obtain ⟨qa, rfl, hcell⟩ := rowAt_get h3.row hv
    rw [he] at hcell
    have hdrop : xss.drop j = xss[j] :: xss.drop (j + 1) := List.drop_eq_getElem_cons hlt
    rw [hdrop, List.foldl_cons] at hI
    refine ⟨qa, rfl, by omega, by omega, p, _, cp, by simpa using hcell, ?_⟩
    refine (shared_call hq (rowAt_le h3.le hr) hs (hx _ (List.getElem_mem hlt)) hc hcp).mono ?_
    rintro v H' ⟨rfl, rfl⟩
    rw [wrap1 hlt (by omega)]
    refine ⟨_, rfl, ⟨j + 1, rfl, hlt, rfl, _, ?_, hI⟩, mu1 hlt⟩
    by_cases hg : sharedF set xss[j] > m
    · rw [if_pos hg, if_pos (by omega)]
    · rw [if_neg hg, if_neg (by omega)]
  · have hge : j = xss.length := by have := of_decide_eq_false h6; omega
    rw [hge, List.drop_length] at hI
    exact ⟨by rw [hI]; rfl, rfl⟩
theorem test_call {HB H : PHeap} {n c : Nat} {k r b : Int} {xss : List (List Int)} {q : Option Addr} {set : List Int} {m : Int} (h : Ctl HB H n k r b xss) (hq : H.rowAt q (set.map vi)) (hl : xss.length ≤ 2 ^ 40)
    (hs : set.length ≤ 2 ^ 40) (hc : set.length ≤ c) (hx : ∀ xs ∈ xss, xs.length ≤ 2 ^ 40) :
    CallP Try.prog 18 #[.pointer (some ((Addr.mk n 0 none).add 3)), .slice q set.length c, vi m] H fun v H' => v = vi (if (mostF set xss : Int) > m then 35 else 0) ∧ H' = H := by
  refine CallP.of_nv ?_
  rw [f18_is]
  refine (most_call h hq hl hs hc hx).mono ?_
  rintro v H' ⟨rfl, rfl⟩
  refine ⟨_, rfl, bCase_intro (fun h => ?_) (fun h => ?_)⟩
  · rw [if_pos (of_decide_eq_true h)]; exact ⟨rfl, rfl⟩
  · rw [if_neg (of_decide_eq_false h)]; exact ⟨rfl, rfl⟩

/-- overlap.Record's Add -/
theorem add_call {HB H : PHeap} {n c : Nat} {k r b : Int} {xss : List (List Int)} {q : Option Addr} {set : List Int} (h : Ctl HB H n k r b xss) (hq : H.rowAt q (set.map vi)) (hl : xss.length ≤ 2 ^ 30)
    (hs : set.length ≤ 2 ^ 40) (hr : rightF set = true) :
    CallP Try.prog 19 #[.pointer (some ((Addr.mk n 0 none).add 3)), .slice q set.length c] H fun v H' => v = vi 0 ∧ ∃ HB', Ctl HB' H' n k r b (xss ++ [set]) := by
  refine CallP.of_nv ?_
  rw [f19_is]
  refine (right_call hq (by omega)).mono ?_
  rintro v H' ⟨rfl, rfl⟩
  refine ⟨_, rfl, bCase_intro (fun h1 => by rw [hr] at h1; cases h1) (fun _ => ?_)⟩
  obtain ⟨a, ca, hs', h1, h2, h3, h4, h5⟩ := h
  have hcell : H'.cell? (((Addr.mk n 0 none).add 3).add 0) = some (.slice a xss.length ca) := by rw [Addr.add_add]; exact cell_block h1 rfl
  refine ⟨_, rfl, a, _, ca, hcell, (clone_call hq hs).mono ?_⟩
  rintro v H2 ⟨p, cp, rfl, hO⟩
  refine ⟨cell_le hO.le hcell, p, _, cp, rfl, ?_⟩
  have h3' := h3.up hO.le
  have hn2 := hO.le _ _ h1
  refine h3'.app1 rfl rfl (by omega) (by omega) fun a' c' H3 h6 => ?_
  have hne : a ≠ some ⟨n, 0, none⟩ := by
    intro e
    rcases h3.own with ⟨rfl, _⟩ | ⟨b', rest, he, _, h7, _⟩
    · cases e
    · rw [e] at he; cases he; rw [h1] at h7; simp only [Option.some.injEq, Obj.cells.injEq] at h7; exact absurd h7.2.1 (by decide)
  have hn3 : H3 n = some (.cells #[vi k, vi r, vi b, .slice a xss.length ca] 48 (0, 0)) := h6.le _ _ (by rw [wo_other hne]; exact hn2)
  have hst := storeTo_block (i := 3) (v := .slice a' (xss.length + 1) c') hn3 (by simp)
  refine ⟨_, rfl, ?_⟩
  rw [Addr.add_add]
  refine ⟨_, hst, rfl, (H2.wo a).del n, a', c', hs' ++ [.slice p set.length cp], ?_, by simp [PHeap.del], ?_, by simp [h4], ?_⟩
  · rw [PHeap.put_same]; simp
  · rw [List.length_append, List.length_singleton]
    refine (h6.less (del_le _ _)).frame ?_ ?_
    · intro i o hi
      have hin : i ≠ n := fun e => by rw [e] at hi; simp [PHeap.del] at hi
      rw [PHeap.put_other _ _ hin]
      exact h6.le _ _ (del_le _ _ _ _ hi)
    · intro b' hb'
      have : b' ≠ n := by
        intro e; subst e
        rcases h6.own with ⟨rfl, _⟩ | ⟨b2, rest, he, h7, _⟩
        · cases hb'
        · rw [he] at hb'; cases hb'; rw [wo_other hne, hn2] at h7; cases h7
      rw [PHeap.put_other _ _ this]
  · intro i v xs hv hx
    by_cases hi : i < xss.length
    · rw [List.getElem?_append_left (by omega)] at hv
      rw [List.getElem?_append_left hi] at hx
      obtain ⟨p', c'', e1, e2, e3⟩ := h5 i v xs hv hx
      exact ⟨p', c'', e1, e2, rowAt_le (le_del h3'.base h2) e3⟩
    · rw [List.getElem?_append_right (by omega)] at hv hx
      have hi0 : i - xss.length = 0 := by
        by_cases e : i - xss.length = 0
        · exact e
        · rw [List.getElem?_eq_none (by simp; omega)] at hx; cases hx
      rw [h4, hi0] at hv
      rw [hi0] at hx
      simp only [List.getElem?_cons_zero, Option.some.injEq] at hv hx
      subst hv hx
      refine ⟨p, cp, rfl, hO.cap, ?_⟩
      have hrow := hO.row
      rcases hO.own with ⟨rfl, _⟩ | ⟨b', rest, rfl, h7, h8, _⟩
      · exact hrow
      · refine rowAt_at hrow ?_
        have e1 : b' ≠ n := by intro e; rw [e, h1] at h7; cases h7
        have e2 : a ≠ some ⟨b', 0, none⟩ := h3.ne h7
        show (H2.wo a).del n b' = H2 b'
        rw [del_other e1, wo_other e2]
end Go.Inf
