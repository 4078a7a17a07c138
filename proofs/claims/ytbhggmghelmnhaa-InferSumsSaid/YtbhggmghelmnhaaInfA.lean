import Derived.Test.YtbhggmghelmnhaaInfF
import Derived.Test.YtbhggmghelmnhaaClHeap
namespace Go.Inf
open Go Go.Proofs
abbrev vi (x : Int) : Value := .int .i64 x

/-- What has been done to a row as far as place k. -/
theorem mix_get {α : Type} {ys xs : List α} (hl : ys.length = xs.length) {k : Nat} (hk : k < xs.length) : (ys.take k ++ xs.drop k)[k]? = some xs[k] := by
  rw [List.getElem?_append_right (by simp; omega)]
  simp [hl, Nat.min_eq_left (Nat.le_of_lt hk), hk]
theorem mix_set {α : Type} {ys xs : List α} (hl : ys.length = xs.length) {k : Nat} (hk : k < xs.length) : ys.take (k + 1) ++ xs.drop (k + 1) = (ys.take k ++ xs.drop k).set k (ys[k]'(by omega)) := by
  have h0 : k - (ys.take k).length = 0 := by simp; omega
  rw [List.take_succ_eq_append_getElem (by omega), List.set_append_right _ _ (by simp; omega), List.drop_eq_getElem_cons hk, h0, List.set_cons_zero, List.append_assoc]
  rfl

/-- overlap.Right -/
def rightGo (last : Int) : List Int → Bool
  | [] => true
  | n :: r => if n ≤ last then false else rightGo n r
def rightF (xs : List Int) : Bool := rightGo 0 xs

theorem right_call {H : PHeap} {a : Option Addr} {c : Nat} {xs : List Int} (hrow : H.rowAt a (xs.map vi)) (hlen : xs.length ≤ 2 ^ 62) :
    CallP Try.prog 6 #[.slice a xs.length c] H fun v H' => v = .bool (rightF xs) ∧ H' = H := by
  refine CallP.of_nv ?_
  rw [f6_is]
  refine ⟨fun vs H1 => match vs with
    | [_, .int _ last, .int _ i] => H1 = H ∧ ∃ k : Nat, i = k ∧ k ≤ xs.length ∧ rightF xs = rightGo last (xs.drop k)
    | _ => False, fun vs _ => match vs with
    | [_, _, .int _ i] => xs.length - i.toNat
    | _ => 0, ⟨rfl, 0, rfl, Nat.zero_le _, rfl⟩, ?_⟩
  rintro q last i H1 ⟨rfl, k, rfl, hk, hI⟩
  refine bCase_intro (fun h => ?_) (fun h => ?_)
  · have hlt : k < xs.length := by have := of_decide_eq_true h; omega
    have hget : (xs.map vi)[k]? = some (vi xs[k]) := by simp [hlt]
    obtain ⟨p, rfl, hc⟩ := rowAt_get hrow hget
    have hw : IntKind.i64.wrap ((k : Int) + 1) = ((k + 1 : Nat) : Int) := by rw [IntWalk.i64_in _ (by omega)]; rfl
    have hdrop : xs.drop k = xs[k] :: xs.drop (k + 1) := List.drop_eq_getElem_cons hlt
    rw [hdrop] at hI
    refine ⟨p, rfl, by omega, by omega, xs[k], by simpa using hc, bCase_intro (fun h2 => ?_) (fun h2 => ?_)⟩
    · have := of_decide_eq_true h2
      exact ⟨by rw [hI]; simp [rightGo, this], rfl⟩
    · have := of_decide_eq_false h2
      rw [hw]
      refine ⟨⟨rfl, k + 1, rfl, hlt, by rw [hI]; simp [rightGo, this]⟩, ?_⟩
      show xs.length - ((k + 1 : Nat) : Int).toNat < xs.length - (k : Int).toNat
      omega
  · have hge : k = xs.length := by have := of_decide_eq_false h; omega
    exact ⟨by rw [hI, hge]; simp [rightGo], rfl⟩

/-- infer.lone -/
def loneGo (out : Int) (i : Nat) : List Int → Int
  | [] => out
  | n :: r => if n ≠ 0 ∧ out ≥ 0 then -1 else loneGo (if n ≠ 0 then i else out) (i + 1) r
def loneF (xs : List Int) : Int := loneGo (-1) 0 xs

theorem lone_test (x o : Int) : (bif (!(x == 0)) then (decide (o ≥ 0)) else false) = true ↔ (x ≠ 0 ∧ o ≥ 0) := by by_cases h : x = 0 <;> simp [h]
theorem lone_call {H : PHeap} {a : Option Addr} {c : Nat} {xs : List Int} (hrow : H.rowAt a (xs.map vi)) (hlen : xs.length ≤ 2 ^ 62) :
    CallP Try.prog 17 #[.slice a xs.length c] H fun v H' => v = vi (loneF xs) ∧ H' = H := by
  refine CallP.of_nv ?_
  rw [f17_is]
  refine ⟨fun vs H1 => match vs with
    | [_, .int _ out, .int _ i] => H1 = H ∧ ∃ k : Nat, i = k ∧ k ≤ xs.length ∧ loneF xs = loneGo out k (xs.drop k)
    | _ => False, fun vs _ => match vs with
    | [_, _, .int _ i] => xs.length - i.toNat
    | _ => 0, ⟨rfl, 0, rfl, Nat.zero_le _, rfl⟩, ?_⟩
  rintro q out i H1 ⟨rfl, k, rfl, hk, hI⟩
  refine bCase_intro (fun h => ?_) (fun h => ?_)
  · have hlt : k < xs.length := by have := of_decide_eq_true h; omega
    have hget : (xs.map vi)[k]? = some (vi xs[k]) := by simp [hlt]
    obtain ⟨p, rfl, hc⟩ := rowAt_get hrow hget
    have hw : IntKind.i64.wrap ((k : Int) + 1) = ((k + 1 : Nat) : Int) := by rw [IntWalk.i64_in _ (by omega)]; rfl
    have hdrop : xs.drop k = xs[k] :: xs.drop (k + 1) := List.drop_eq_getElem_cons hlt
    have hmu : xs.length - ((k + 1 : Nat) : Int).toNat < xs.length - (k : Int).toNat := by omega
    rw [hdrop] at hI
    refine ⟨p, rfl, by omega, by omega, xs[k], by simpa using hc, bCase_intro (fun h2 => ?_) (fun h2 => ?_)⟩
    · have h3 : xs[k] ≠ 0 ∧ out ≥ 0 := (lone_test _ _).1 h2
      exact ⟨by rw [hI]; simp only [loneGo]; rw [if_pos h3], rfl⟩
    · have h3 : ¬ (xs[k] ≠ 0 ∧ out ≥ 0) := fun h4 => by rw [(lone_test _ _).2 h4] at h2; cases h2
      simp only [loneGo] at hI
      rw [if_neg h3] at hI
      rw [hw]
      refine bCase_intro (fun h4 => ?_) (fun h4 => ?_)
      · have h5 : xs[k] ≠ 0 := by simpa using h4
        rw [if_pos h5] at hI
        exact ⟨⟨rfl, k + 1, rfl, hlt, hI⟩, hmu⟩
      · have h5 : ¬ xs[k] ≠ 0 := by simpa using h4
        rw [if_neg h5] at hI
        exact ⟨⟨rfl, k + 1, rfl, hlt, hI⟩, hmu⟩
  · have hge : k = xs.length := by have := of_decide_eq_false h; omega
    refine ⟨?_, rfl⟩
    rw [hI, hge]; simp [loneGo]

/-- infer.shrink: the greatest common divisor, as the loop finds it -/
def euc (a b : Int) : Int := if b = 0 then a else euc b (a.tmod b)
termination_by b.natAbs
decreasing_by
  have := Int.natAbs_tmod a b
  rw [this]
  exact Nat.mod_lt _ (by omega)
def allF (xs : List Int) : Int := xs.foldl euc 0
def shrinkF (xs : List Int) : List Int := if allF xs = 0 then xs else xs.map fun x => x.tdiv (allF xs)

theorem euc_zero (a : Int) : euc a 0 = a := by rw [euc]; simp
theorem euc_step {a b : Int} (h : b ≠ 0) : euc a b = euc b (a.tmod b) := by rw [euc]; simp [h]

theorem shrink_call {H : PHeap} {b c : Nat} {elem : TypeId} {xs : List Int} (hb : H b = some (.cells (xs.map vi).toArray elem (0, 0))) (hlen : xs.length ≤ 2 ^ 62) (hx : ∀ x ∈ xs, x.natAbs ≤ 2 ^ 62) :
    CallP Try.prog 34 #[.slice (some ⟨b, 0, none⟩) xs.length c] H fun v H' => v = .tuple #[] ∧ H' = H.put b (.cells ((shrinkF xs).map vi).toArray elem (0, 0)) := by
  refine CallP.of_nv ?_
  rw [f34_is]
  have hw : ∀ {k : Nat}, k < xs.length → IntKind.i64.wrap ((k : Int) + 1) = ((k + 1 : Nat) : Int) := fun hk => by rw [IntWalk.i64_in _ (by omega)]; rfl
  have hmu : ∀ {k : Nat}, k < xs.length → xs.length - ((k + 1 : Nat) : Int).toNat < xs.length - (k : Int).toNat := fun hk => by omega
  refine ⟨fun vs H1 => match vs with
    | [.int _ all, .int _ i] => H1 = H ∧ ∃ k : Nat, i = k ∧ k ≤ xs.length ∧ allF xs = (xs.drop k).foldl euc all
    | _ => False, fun vs _ => match vs with
    | [_, .int _ i] => xs.length - i.toNat
    | _ => 0, ⟨rfl, 0, rfl, Nat.zero_le _, rfl⟩, ?_⟩
  rintro all i H1 ⟨rfl, k, rfl, hk, hI⟩
  refine bCase_intro (fun h => ?_) (fun h => ?_)
  · have hlt : k < xs.length := by have := of_decide_eq_true h; omega
    have hget : (xs.map vi)[k]? = some (vi xs[k]) := by simp [hlt]
    have hdrop : xs.drop k = xs[k] :: xs.drop (k + 1) := List.drop_eq_getElem_cons hlt
    rw [hdrop] at hI
    refine ⟨_, rfl, by omega, by omega, xs[k], by simpa using cell_block hb hget, ?_⟩
    refine ⟨fun vs H2 => match vs with
      | [.int _ x, .int _ y] => H2 = H1 ∧ euc x y = euc all xs[k]
      | _ => False, fun vs _ => match vs with
      | [_, .int _ y] => y.natAbs
      | _ => 0, ⟨rfl, rfl⟩, ?_⟩
    rintro x y H2 ⟨rfl, hE⟩
    refine bCase_intro (fun h2 => ?_) (fun h2 => ?_)
    · have hy : y ≠ 0 := by simpa using h2
      refine ⟨rfl, hy, ⟨rfl, by rw [← euc_step hy]; exact hE⟩, ?_⟩
      show (x.tmod y).natAbs < y.natAbs
      rw [Int.natAbs_tmod]
      exact Nat.mod_lt _ (by omega)
    · have hy : y = 0 := by simpa using h2
      subst hy
      rw [euc_zero] at hE
      rw [hw hlt]
      exact ⟨⟨rfl, k + 1, rfl, hlt, by rw [hI, List.foldl_cons, hE]⟩, hmu hlt⟩
  · have hge : k = xs.length := by have := of_decide_eq_false h; omega
    rw [hge] at hI
    simp only [List.drop_length, List.foldl_nil] at hI
    subst hI
    refine ⟨fun vs H2 => match vs with
      | [.int _ i] => ∃ k : Nat, i = k ∧ k ≤ xs.length ∧ H2 = H1.put b (.cells (((shrinkF xs).take k ++ xs.drop k).map vi).toArray elem (0, 0))
      | _ => False, fun vs _ => match vs with
      | [.int _ i] => xs.length - i.toNat
      | _ => 0, ⟨0, rfl, Nat.zero_le _, by simp [PHeap.put_self hb]⟩, ?_⟩
    rintro i H2 ⟨k2, rfl, hk2, rfl⟩
    have hslen : (shrinkF xs).length = xs.length := by unfold shrinkF; split <;> simp
    refine bCase_intro (fun h3 => ?_) (fun h3 => ?_)
    · have hlt : k2 < xs.length := by have := of_decide_eq_true h3; omega
      have hb2 := PHeap.put_same H1 b (.cells (((shrinkF xs).take k2 ++ xs.drop k2).map vi).toArray elem (0, 0))
      have hget : (((shrinkF xs).take k2 ++ xs.drop k2).map vi)[k2]? = some (vi xs[k2]) := by
        rw [List.getElem?_map, mix_get hslen hlt]; rfl
      have hnext := mix_set hslen hlt
      refine bCase_intro (fun h4 => ?_) (fun h4 => ?_)
      · have hg : allF xs ≠ 0 := by simpa using h4
        have hval : (shrinkF xs)[k2]'(by omega) = xs[k2].tdiv (allF xs) := by simp [shrinkF, hg]
        have hwr : IntKind.i64.wrap (xs[k2].tdiv (allF xs)) = xs[k2].tdiv (allF xs) := by
          have h5 := hx _ (List.getElem_mem hlt)
          have h6 : (xs[k2].tdiv (allF xs)).natAbs ≤ xs[k2].natAbs := by rw [Int.natAbs_tdiv]; exact Nat.div_le_self _ _
          exact IntWalk.i64_in _ (by omega)
        have hst := storeTo_block hb2 (i := k2) (v := vi (xs[k2].tdiv (allF xs))) (by simp [hslen]; omega)
        refine ⟨_, rfl, by omega, by omega, xs[k2], by simpa using cell_block hb2 hget, rfl, hg, _, rfl, by omega, by omega, ?_⟩
        rw [hwr, hw hlt, Nat.mul_one, Int.toNat_natCast]
        refine ⟨_, hst, ⟨k2 + 1, rfl, hlt, ?_⟩, hmu hlt⟩
        rw [PHeap.put_put, hnext, hval, List.map_set]
      · have hg : allF xs = 0 := by simpa using h4
        rw [hw hlt]
        refine ⟨⟨k2 + 1, rfl, hlt, ?_⟩, hmu hlt⟩
        have : shrinkF xs = xs := by simp [shrinkF, hg]
        rw [this]; simp
    · have hge : k2 = xs.length := by have := of_decide_eq_false h3; omega
      refine ⟨rfl, ?_⟩
      rw [hge]
      simp [List.take_of_length_le (Nat.le_of_eq hslen)]
end Go.Inf
