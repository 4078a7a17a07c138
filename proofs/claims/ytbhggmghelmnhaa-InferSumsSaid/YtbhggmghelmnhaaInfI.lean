import Derived.Test.YtbhggmghelmnhaaInfH
import Derived.Test.YtbhggmghelmnhaaInfF2
namespace Go.Inf
open Go Go.Proofs
theorem wrap1 {k m : Nat} (hk : k < m) (hm : m ≤ 2 ^ 62) : IntKind.i64.wrap ((k : Int) + 1) = ((k + 1 : Nat) : Int) := by rw [IntWalk.i64_in _ (by omega)]; rfl
theorem mu1 {k m : Nat} (hk : k < m) : m - ((k + 1 : Nat) : Int).toNat < m - (k : Int).toNat := by omega

/-- infer.Check -/
def checkF (k r b : Int) : Int := if k < 1 ∨ k > 4096 ∨ r < 0 ∨ r > 4096 ∨ b < 0 ∨ b > 4096 ∨ (b - 1) * r ≥ k - 1 then 43 else 0
theorem check_call {H : PHeap} {k r b : Int} (hk : 1 ≤ k ∧ k ≤ 4096) (hr : 0 ≤ r ∧ r ≤ 4096) (hb : 0 ≤ b ∧ b ≤ 4096) :
    CallP Try.prog 8 #[vi k, vi r, vi b] H fun v H' => v = vi (checkF k r b) ∧ H' = H := by
  refine CallP.of_nv ?_
  rw [f8_is]
  have h1 : (b - 1) * r ≤ 4095 * 4096 := Int.le_trans (Int.mul_le_mul_of_nonneg_right (show b - 1 ≤ 4095 by omega) hr.1) (Int.mul_le_mul_of_nonneg_left hr.2 (by decide))
  have h2 : -(4096 : Int) ≤ (b - 1) * r := by
    have h3 : (-1) * r ≤ (b - 1) * r := Int.mul_le_mul_of_nonneg_right (show -1 ≤ b - 1 by omega) hr.1
    omega
  have e1 : IntKind.i64.wrap (b - 1) = b - 1 := IntWalk.i64_in _ (by omega)
  have e2 : IntKind.i64.wrap (k - 1) = k - 1 := IntWalk.i64_in _ (by omega)
  have e3 : IntKind.i64.wrap ((b - 1) * r) = (b - 1) * r := IntWalk.i64_in _ (by omega)
  rw [e1, e2, e3]
  have n1 : ¬ k < 1 := by omega
  have n2 : ¬ k > 4096 := by omega
  have n3 : ¬ r < 0 := by omega
  have n4 : ¬ r > 4096 := by omega
  have n5 : ¬ b < 0 := by omega
  have n6 : ¬ b > 4096 := by omega
  simp only [n1, n2, n3, n4, n5, n6, decide_false, cond_false]
  unfold checkF
  simp only [n1, n2, n3, n4, n5, n6, false_or]
  refine bCase_intro (fun h => ?_) (fun h => ?_)
  · rw [if_pos (of_decide_eq_true h)]; exact ⟨rfl, trivial⟩
  · rw [if_neg (of_decide_eq_false h)]; exact ⟨rfl, trivial⟩

/-- overlap.Shared -/
def sharedGo : Nat → List Int → List Int → Nat
  | 0, _, _ => 0
  | f + 1, x :: a, y :: b => if x < y then sharedGo f a (y :: b) else if x > y then sharedGo f (x :: a) b else sharedGo f a b + 1
  | _ + 1, _, _ => 0
def sharedF (a b : List Int) : Nat := if rightF a && rightF b then sharedGo (a.length + b.length) a b else 0
theorem shared_le : ∀ (f : Nat) (a b : List Int), sharedGo f a b ≤ f := by
  intro f
  induction f with
  | zero => intro a b; exact Nat.le_refl _
  | succ f ih =>
    intro a b
    cases a with
    | nil => exact Nat.zero_le _
    | cons x a => cases b with
      | nil => exact Nat.zero_le _
      | cons y b =>
        simp only [sharedGo]
        have h1 := ih a (y :: b); have h2 := ih (x :: a) b; have h3 := ih a b
        split
        · omega
        · split <;> omega
theorem shared_more : ∀ (f g : Nat) (a b : List Int), a.length + b.length ≤ f → f ≤ g → sharedGo g a b = sharedGo f a b := by
  intro f
  induction f with
  | zero =>
    intro g a b h _
    have : a = [] := List.eq_nil_of_length_eq_zero (by omega)
    subst this
    cases g <;> rfl
  | succ f ih =>
    intro g a b h hg
    obtain ⟨g', rfl⟩ : ∃ g', g = g' + 1 := ⟨g - 1, by omega⟩
    cases a with
    | nil => rfl
    | cons x a => cases b with
      | nil => rfl
      | cons y b =>
        simp only [List.length_cons] at h
        simp only [sharedGo]
        rw [ih g' a (y :: b) (by simp; omega) (by omega), ih g' (x :: a) b (by simp; omega) (by omega), ih g' a b (by omega) (by omega)]

theorem row_tail {H : PHeap} {p : Addr} {c : Nat} {x : Int} {xs : List Int} (h : H.rowAt (some p) ((x :: xs).map vi)) (hc : (x :: xs).length ≤ c) : H.rowAt (if c = 1 then some p else addO (some p) 1) (xs.map vi) := by
  split
  · have : xs = [] := List.eq_nil_of_length_eq_zero (by simp only [List.length_cons] at hc; omega)
    subst this
    intro j v hj; cases hj
  · have := has_drop h 1
    rw [List.map_cons, List.drop_one, List.tail_cons] at this
    exact this

theorem shared_call {H : PHeap} {a b : Option Addr} {c d : Nat} {xs ys : List Int} (hx : H.rowAt a (xs.map vi)) (hy : H.rowAt b (ys.map vi)) (hxl : xs.length ≤ 2 ^ 40) (hyl : ys.length ≤ 2 ^ 40) (hc : xs.length ≤ c) (hd : ys.length ≤ d) :
    CallP Try.prog 35 #[.slice a xs.length c, .slice b ys.length d] H fun v H' => v = vi (sharedF xs ys : Nat) ∧ H' = H := by
  refine CallP.of_nv ?_
  rw [f35_is]
  refine (right_call hx (by omega)).mono ?_
  rintro v H' ⟨rfl, rfl⟩
  refine ⟨_, rfl, bCase_intro (fun h => ?_) (fun h => ?_)⟩
  · have h1 : rightF xs = false := by simpa using h
    exact ⟨by simp [sharedF, h1], rfl⟩
  have hrx : rightF xs = true := by simpa using h
  refine (right_call hy (by omega)).mono ?_
  rintro v H2 ⟨rfl, rfl⟩
  refine ⟨_, rfl, bCase_intro (fun h => ?_) (fun h => ?_)⟩
  · have h1 : rightF ys = false := by simpa using h
    exact ⟨by simp [sharedF, h1], rfl⟩
  have hry : rightF ys = true := by simpa using h
  have hF : sharedF xs ys = sharedGo (xs.length + ys.length) xs ys := by simp [sharedF, hrx, hry]
  rw [hF]
  refine ⟨fun vs H3 => match vs with
    | [.slice a n c, .slice b m d, .int _ x] => ∃ (us bs : List Int) (k : Nat), H3 = H2 ∧ n = us.length ∧ m = bs.length ∧ n ≤ c ∧ m ≤ d ∧ H2.rowAt a (us.map vi) ∧ H2.rowAt b (bs.map vi) ∧ x = k ∧ us.length + bs.length + k ≤ xs.length + ys.length ∧
        k + sharedGo (us.length + bs.length) us bs = sharedGo (xs.length + ys.length) xs ys
    | _ => False, fun vs _ => match vs with
    | [.slice _ n _, .slice _ m _, _] => n + m
    | _ => 0, ⟨xs, ys, 0, rfl, rfl, rfl, hc, hd, hx, hy, rfl, by omega, by omega⟩, ?_⟩
  rintro a n c b m d x H3 ⟨us, bs, k, rfl, rfl, rfl, hc, hd, ha, hb, rfl, hk, hS⟩
  refine bCase_intro (fun h1 => ?_) (fun h1 => ?_)
  · cases us with
    | nil => simp at h1
    | cons x us => cases bs with
      | nil => simp at h1
      | cons y bs =>
        obtain ⟨p, rfl, hp⟩ := rowAt_get ha (i := 0) (v := vi x) rfl
        obtain ⟨q, rfl, hq⟩ := rowAt_get hb (i := 0) (v := vi y) rfl
        have hfuel : (x :: us).length + (y :: bs).length = (us.length + bs.length + 1) + 1 := by simp only [List.length_cons]; omega
        rw [hfuel] at hS
        simp only [sharedGo] at hS
        have e1 : us.length + (y :: bs).length = us.length + bs.length + 1 := by simp only [List.length_cons]; omega
        have e2 : (x :: us).length + bs.length = us.length + bs.length + 1 := by simp only [List.length_cons]; omega
        have hta := row_tail ha hc
        have htb := row_tail hb hd
        simp only [List.length_cons] at hc hd hk
        have hl1 : ((((x :: us).length : Nat) : Int)).toNat - 1 = us.length := by simp
        have hl2 : ((((y :: bs).length : Nat) : Int)).toNat - 1 = bs.length := by simp
        rw [hl1, hl2]
        refine ⟨p, rfl, by omega, by simp only [List.length_cons]; omega, x, hp, q, rfl, by omega, by simp only [List.length_cons]; omega, y, hq, bCase_intro (fun h2 => ?_) (fun h2 => ?_)⟩
        · rw [if_pos (of_decide_eq_true h2)] at hS
          refine ⟨by omega, by simp only [List.length_cons]; omega, by simp only [List.length_cons]; omega, ⟨us, y :: bs, k, rfl, rfl, rfl, by omega, by simp only [List.length_cons]; omega, hta, hb, rfl, by simp only [List.length_cons]; omega, by rw [e1]; exact hS⟩, ?_⟩
          simp only [List.length_cons]; omega
        · rw [if_neg (of_decide_eq_false h2)] at hS
          refine ⟨p, rfl, by omega, by simp only [List.length_cons]; omega, x, hp, q, rfl, by omega, by simp only [List.length_cons]; omega, y, hq, bCase_intro (fun h3 => ?_) (fun h3 => ?_)⟩
          · rw [if_pos (of_decide_eq_true h3)] at hS
            refine ⟨by omega, by simp only [List.length_cons]; omega, by simp only [List.length_cons]; omega, ⟨x :: us, bs, k, rfl, rfl, rfl, by simp only [List.length_cons]; omega, by omega, ha, htb, rfl, by simp only [List.length_cons]; omega, by rw [e2]; exact hS⟩, ?_⟩
            simp only [List.length_cons]; omega
          · rw [if_neg (of_decide_eq_false h3), shared_more (us.length + bs.length) _ us bs (Nat.le_refl _) (by omega)] at hS
            rw [wrap1 (k := k) (m := xs.length + ys.length) (by omega) (by omega)]
            refine ⟨by omega, by simp only [List.length_cons]; omega, by simp only [List.length_cons]; omega, by omega, by simp only [List.length_cons]; omega, by simp only [List.length_cons]; omega,
              ⟨us, bs, k + 1, rfl, rfl, rfl, by omega, by omega, hta, htb, rfl, by omega, by omega⟩, ?_⟩
            simp only [List.length_cons]; omega
  · refine ⟨?_, rfl⟩
    have h0 : sharedGo (us.length + bs.length) us bs = 0 := by
      cases us with
      | nil => cases bs <;> rfl
      | cons x us => cases bs with
        | nil => rfl
        | cons y bs => exfalso; revert h1; simp
    rw [← hS, h0, Nat.add_zero]
end Go.Inf
