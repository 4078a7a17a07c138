import Derived.Test.YtbhggmghelmnhaaInfB
namespace Go.Inf
open Go Go.Proofs
/-- infer.reduce: the first row from 'i' on whose entry in the column is not 0 -/
def findL (col : Nat) : List (List Int) → Nat → Option Nat
  | [], _ => none
  | r :: rs, i => if r.getD col 0 ≠ 0 then some i else findL col rs (i + 1)
def swapF (M : List (List Int)) (i j : Nat) : List (List Int) := (M.set i (M.getD j [])).set j (M.getD i [])
def reduceGo : Nat → Nat → Nat → List (List Int) → List (List Int)
  | 0, _, _, M => M
  | f + 1, pos, col, M => match findL col (M.drop pos) pos with
    | some i => reduceGo f (pos + 1) (col + 1) (cleanF (swapF M pos i) pos col)
    | none => reduceGo f pos (col + 1) M
def reduceF (M : List (List Int)) (cols : Nat) : List (List Int) := reduceGo cols 0 0 M

/-- What the steps keep. -/
structure Keeps (Inv : Nat → Nat → List (List Int) → Prop) : Prop where
  skip : ∀ pos col M, Inv pos col M → findL col (M.drop pos) pos = none → Inv pos (col + 1) M
  step : ∀ pos col M i, Inv pos col M → findL col (M.drop pos) pos = some i → (∀ r ∈ swapF M pos i, ∀ x ∈ r, x.natAbs ≤ 2 ^ 25) ∧ Inv (pos + 1) (col + 1) (cleanF (swapF M pos i) pos col)

theorem swapF_len {M : List (List Int)} {i j : Nat} : (swapF M i j).length = M.length := by simp [swapF]

theorem reduce_call {Inv : Nat → Nat → List (List Int) → Prop} (hk : Keeps Inv) {H H1 : PHeap} {hb n c : Nat} {hel rel : TypeId} {rest : List Value} {bs : List Nat} {M : List (List Int)} (hm : Mat H H1 hb hel rel rest bs n M) (h0 : Inv 0 0 M) (hn : n ≤ 2 ^ 62)
    (hlen : M.length ≤ 2 ^ 62) :
    CallP Try.prog 16 #[.slice (some ⟨hb, 0, none⟩) M.length c, vi n] H1 fun v H2 => v = .slice (some ⟨hb, 0, none⟩) M.length c ∧ ∃ bs', Mat H H2 hb hel rel rest bs' n (reduceF M n) := by
  refine CallP.of_nv ?_
  rw [f16_is]
  have hw : ∀ {k m : Nat}, k < m → m ≤ 2 ^ 62 → IntKind.i64.wrap ((k : Int) + 1) = ((k + 1 : Nat) : Int) := fun hk hm => by rw [IntWalk.i64_in _ (by omega)]; rfl
  have hmu : ∀ {k m : Nat}, k < m → m - ((k + 1 : Nat) : Int).toNat < m - (k : Int).toNat := fun hk => by omega
  refine ⟨fun vs H2 => match vs with
    | [.int _ x, .int _ y] => ∃ (pos col : Nat) (bs' : List Nat) (M' : List (List Int)), x = pos ∧ y = col ∧ col ≤ n ∧ pos ≤ M.length ∧ M'.length = M.length ∧ Mat H H2 hb hel rel rest bs' n M' ∧ Inv pos col M' ∧ reduceF M n = reduceGo (n - col) pos col M'
    | _ => False, fun vs _ => match vs with
    | [_, .int _ y] => n - y.toNat
    | _ => 0, ⟨0, 0, bs, M, rfl, rfl, Nat.zero_le _, Nat.zero_le _, rfl, hm, h0, rfl⟩, ?_⟩
  rintro x y H2 ⟨pos, col, bs', M', rfl, rfl, hcol, hpos, hMl, hM, hI, hR⟩
  refine bCase_intro (fun h => ?_) (fun h => ?_)
  · have hcn : col < n := by have := of_decide_eq_true h; omega
    have hfuel : n - col = (n - (col + 1)) + 1 := by omega
    rw [hfuel] at hR
    refine ⟨fun vs H3 => match vs with
      | [.int _ x, .int _ y] => H3 = H2 ∧ x = pos ∧ ∃ i : Nat, y = i ∧ pos ≤ i ∧ i ≤ M.length ∧ findL col (M'.drop pos) pos = findL col (M'.drop i) i
      | _ => False, fun vs _ => match vs with
      | [_, .int _ y] => M.length - y.toNat
      | _ => 0, ⟨rfl, rfl, pos, rfl, Nat.le_refl _, hpos, rfl⟩, ?_⟩
    rintro x y H3 ⟨rfl, rfl, i, rfl, hpi, hi, hf⟩
    refine bCase_intro (fun h2 => ?_) (fun h2 => ?_)
    · have hil : i < M'.length := by have := of_decide_eq_true h2; omega
      have hib : i < bs'.length := by rw [← hM.len]; exact hil
      have hbi : bs'[i]? = some bs'[i] := List.getElem?_eq_getElem hib
      have hMi : M'[i]? = some M'[i] := List.getElem?_eq_getElem hil
      have hrl := (hM.row i _ _ hbi hMi).2
      have hci : M'[i][col]? = some (M'[i][col]'(by omega)) := List.getElem?_eq_getElem (by omega)
      have hgd : M'[i].getD col 0 = M'[i][col]'(by omega) := by simp [List.getD, hci]
      have hdrop : M'.drop i = M'[i] :: M'.drop (i + 1) := List.drop_eq_getElem_cons hil
      rw [hdrop] at hf
      simp only [findL, hgd] at hf
      refine ⟨_, rfl, by omega, by omega, some ⟨bs'[i], 0, none⟩, n, n, by simpa using hM.hdr_get hbi, _, rfl, by omega, by omega, M'[i][col]'(by omega), by simpa using hM.row_get hbi hMi hci, bCase_intro (fun h3 => ?_) (fun h3 => ?_)⟩
      · have hne : M'[i][col]'(by omega) ≠ 0 := by simpa using h3
        rw [if_pos hne] at hf
        have hpl : pos < M'.length := by omega
        have hpb : pos < bs'.length := by rw [← hM.len]; exact hpl
        have hbp : bs'[pos]? = some bs'[pos] := List.getElem?_eq_getElem hpb
        have hMp : M'[pos]? = some M'[pos] := List.getElem?_eq_getElem hpl
        obtain ⟨hB, hI'⟩ := hk.step pos col M' i hI hf
        have hsw : swapF M' pos i = (M'.set pos M'[i]).set i M'[pos] := by simp [swapF, List.getD, hMi, hMp]
        have hMs := hM.swap hbp hbi hMp hMi
        rw [← hsw] at hMs
        have hst1 := storeTo_block hM.hdr (i := pos) (v := hv n bs'[i]) (by simp; omega)
        have hst2 := storeTo_block (PHeap.put_same H3 hb (.cells ((bs'.map (hv n) ++ rest).set pos (hv n bs'[i])).toArray hel (0, 0))) (i := i) (v := hv n bs'[pos]) (by simp; omega)
        have hheap : ((bs'.map (hv n) ++ rest).set pos (hv n bs'[i])).set i (hv n bs'[pos]) = ((bs'.set pos bs'[i]).set i bs'[pos]).map (hv n) ++ rest := by
          rw [List.set_append_left _ _ (by simpa using hpb), List.set_append_left _ _ (by simpa using hib), List.map_set, List.map_set]
        rw [PHeap.put_put, hheap] at hst2
        refine ⟨_, rfl, by omega, by omega, some ⟨bs'[i], 0, none⟩, n, n, by simpa using hM.hdr_get hbi, _, rfl, by omega, by omega, some ⟨bs'[pos], 0, none⟩, n, n, by simpa using hM.hdr_get hbp, _, rfl, by omega, by omega, ?_⟩
        rw [Nat.mul_one, Int.toNat_natCast]
        refine ⟨_, hst1, _, rfl, by omega, by omega, ?_⟩
        rw [Nat.mul_one, Int.toNat_natCast]
        refine ⟨_, hst2, ?_⟩
        have hcl := clean_call (c := c) hMs (by rw [swapF_len]; exact hpl) hcn hn (by rw [swapF_len]; omega) hB
        rw [swapF_len, hMl] at hcl
        refine CallP.mono hcl ?_
        rintro v H5 ⟨rfl, hM5⟩
        rw [hw hcn hn, hw (show pos < M.length by omega) hlen]
        refine ⟨rfl, ⟨pos + 1, col + 1, _, _, rfl, rfl, hcn, by omega, by rw [cleanF_len, swapF_len, hMl], hM5, hI', ?_⟩, hmu hcn⟩
        rw [hR]
        simp only [reduceGo, hf]
      · have hz : M'[i][col]'(by omega) = 0 := by simpa using h3
        rw [if_neg (by simp [hz])] at hf
        have hi' : i < M.length := by omega
        rw [hw hi' hlen]
        exact ⟨⟨rfl, rfl, i + 1, rfl, by omega, hi', hf⟩, hmu hi'⟩
    · have hge : i = M'.length := by have := of_decide_eq_false h2; omega
      rw [hge, List.drop_length] at hf
      simp only [findL] at hf
      rw [hw hcn hn]
      refine ⟨⟨pos, col + 1, bs', M', rfl, rfl, hcn, hpos, hMl, hM, hk.skip pos col M' hI hf, ?_⟩, hmu hcn⟩
      rw [hR]
      simp only [reduceGo, hf]
  · have hge : col = n := by have := of_decide_eq_false h; omega
    subst hge
    rw [Nat.sub_self] at hR
    refine ⟨rfl, bs', ?_⟩
    rw [hR]
    exact hM
end Go.Inf
