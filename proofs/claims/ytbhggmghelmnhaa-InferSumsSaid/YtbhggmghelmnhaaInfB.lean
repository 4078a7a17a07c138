import Derived.Test.YtbhggmghelmnhaaInfA
namespace Go.Inf
open Go Go.Proofs
/-- A row's header: the whole of block b. -/
abbrev hv (n b : Nat) : Value := .slice (some ⟨b, 0, none⟩) n n

/-- A matrix of one's own, beside H, in H1: its headers lie in block hb, its rows in the blocks bs. -/
structure Mat (H H1 : PHeap) (hb : Nat) (hel rel : TypeId) (rest : List Value) (bs : List Nat) (n : Nat) (M : List (List Int)) : Prop where
  base : H.le H1
  hd : H hb = none
  len : M.length = bs.length
  hdr : H1 hb = some (.cells (bs.map (hv n) ++ rest).toArray hel (0, 0))
  nodup : (hb :: bs).Nodup
  free : ∀ b ∈ bs, H b = none
  row : ∀ (i b : Nat) (r : List Int), bs[i]? = some b → M[i]? = some r → H1 b = some (.cells (r.map vi).toArray rel (0, 0)) ∧ r.length = n

theorem Mat.hdr_get {H H1 : PHeap} {hb n : Nat} {hel rel : TypeId} {rest : List Value} {bs : List Nat} {M : List (List Int)} (h : Mat H H1 hb hel rel rest bs n M) {i b : Nat} (hi : bs[i]? = some b) : H1.cell? ((Addr.mk hb 0 none).add i) = some (hv n b) := by
  refine cell_block h.hdr ?_
  have hlt : i < bs.length := (List.getElem?_eq_some_iff.1 hi).1
  rw [List.getElem?_append_left (by simpa using hlt)]
  simp [hi]
theorem Mat.row_get {H H1 : PHeap} {hb n : Nat} {hel rel : TypeId} {rest : List Value} {bs : List Nat} {M : List (List Int)} (h : Mat H H1 hb hel rel rest bs n M) {i b j : Nat} {r : List Int} {x : Int} (hi : bs[i]? = some b) (hr : M[i]? = some r) (hx : r[j]? = some x) :
    H1.cell? ((Addr.mk b 0 none).add j) = some (vi x) := by
  refine cell_block (h.row i b r hi hr).1 ?_
  simp [hx]
/-- A row is laid anew. -/
theorem Mat.set {H H1 : PHeap} {hb n : Nat} {hel rel : TypeId} {rest : List Value} {bs : List Nat} {M : List (List Int)} (h : Mat H H1 hb hel rel rest bs n M) {i b : Nat} {r : List Int} (hi : bs[i]? = some b) (hr : r.length = n) :
    Mat H (H1.put b (.cells (r.map vi).toArray rel (0, 0))) hb hel rel rest bs n (M.set i r) := by
  have hmem : b ∈ bs := List.mem_of_getElem? hi
  have hne : b ≠ hb := fun e => (List.nodup_cons.1 h.nodup).1 (e ▸ hmem)
  refine ⟨h.base.put (h.free b hmem), h.hd, by simp [h.len], by rw [PHeap.put_other _ _ (fun e => hne e.symm)]; exact h.hdr, h.nodup, h.free, ?_⟩
  intro j b' r' hj hr'
  by_cases hij : i = j
  · subst hij
    rw [hi] at hj
    cases hj
    have hlt : i < M.length := by rw [h.len]; exact (List.getElem?_eq_some_iff.1 hi).1
    rw [List.getElem?_set_self hlt] at hr'
    cases hr'
    exact ⟨PHeap.put_same _ _ _, hr⟩
  · rw [List.getElem?_set_ne hij] at hr'
    have hbb : b' ≠ b := by
      intro e
      subst e
      have hn := (List.nodup_cons.1 h.nodup).2
      have h1 := (List.getElem?_eq_some_iff.1 hi)
      have h2 := (List.getElem?_eq_some_iff.1 hj)
      obtain ⟨h1a, h1b⟩ := h1
      obtain ⟨h2a, h2b⟩ := h2
      rcases Nat.lt_or_gt_of_ne hij with hlt | hlt
      · exact (List.pairwise_iff_getElem.1 hn i j h1a h2a hlt) (h1b.trans h2b.symm)
      · exact (List.pairwise_iff_getElem.1 hn j i h2a h1a hlt) (h2b.trans h1b.symm)
    rw [PHeap.put_other _ _ hbb]
    exact h.row j b' r' hj hr'
/-- Two headers change places. -/
theorem Mat.swap {H H1 : PHeap} {hb n : Nat} {hel rel : TypeId} {rest : List Value} {bs : List Nat} {M : List (List Int)} (h : Mat H H1 hb hel rel rest bs n M) {i j b c : Nat} {r s : List Int} (hi : bs[i]? = some b) (hj : bs[j]? = some c)
    (hr : M[i]? = some r) (hs : M[j]? = some s) :
    Mat H (H1.put hb (.cells ((((bs.set i c).set j b).map (hv n)) ++ rest).toArray hel (0, 0))) hb hel rel rest ((bs.set i c).set j b) n ((M.set i s).set j r) := by
  have hli := (List.getElem?_eq_some_iff.1 hi)
  have hlj := (List.getElem?_eq_some_iff.1 hj)
  obtain ⟨hli, hbi⟩ := hli
  obtain ⟨hlj, hbj⟩ := hlj
  have hperm : ((bs.set i c).set j b).Perm bs := by
    have h1 := Array.swap_perm (xs := bs.toArray) (i := i) (j := j) (by simpa using hli) (by simpa using hlj)
    rw [Array.perm_iff_toList_perm] at h1
    simpa [Array.swap, hbi, hbj] using h1
  have hmem : ∀ x, x ∈ (bs.set i c).set j b ↔ x ∈ bs := fun x => hperm.mem_iff
  refine ⟨h.base.put h.hd, h.hd, by simp [h.len], PHeap.put_same _ _ _, ?_, fun x hx => h.free x ((hmem x).1 hx), ?_⟩
  · rw [List.nodup_cons]
    exact ⟨fun hx => (List.nodup_cons.1 h.nodup).1 ((hmem _).1 hx), hperm.nodup_iff.2 (List.nodup_cons.1 h.nodup).2⟩
  · intro k x r' hk hr'
    have hxm : x ∈ bs := (hmem x).1 (List.mem_of_getElem? hk)
    have hxh : x ≠ hb := by
      intro e
      subst e
      exact (List.nodup_cons.1 h.nodup).1 hxm
    rw [PHeap.put_other _ _ hxh]
    by_cases hkj : j = k
    · subst hkj
      rw [List.getElem?_set_self (by simpa using hlj)] at hk
      rw [List.getElem?_set_self (by simp [h.len]; exact hlj)] at hr'
      cases hk; cases hr'
      exact h.row i _ _ hi hr
    · rw [List.getElem?_set_ne hkj] at hk hr'
      by_cases hki : i = k
      · subst hki
        rw [List.getElem?_set_self hli] at hk
        rw [List.getElem?_set_self (by rw [h.len]; exact hli)] at hr'
        cases hk; cases hr'
        exact h.row j _ _ hj hs
      · rw [List.getElem?_set_ne hki] at hk hr'
        exact h.row k _ _ hk hr'

/-- infer.clean -/
def combF (a b : Int) (row piv : List Int) : List Int := List.zipWith (fun x y => x * a - y * b) row piv
def cleanRow (piv : List Int) (col : Nat) (row : List Int) : List Int := if row.getD col 0 = 0 then row else shrinkF (combF (piv.getD col 0) (row.getD col 0) row piv)
def cleanF (M : List (List Int)) (pos col : Nat) : List (List Int) := M.mapIdx fun i row => if i = pos then row else cleanRow (M.getD pos []) col row

theorem cleanF_len {M : List (List Int)} {pos col : Nat} : (cleanF M pos col).length = M.length := by simp [cleanF]
theorem cleanF_get {M : List (List Int)} {pos col k : Nat} (hk : k < M.length) : (cleanF M pos col)[k]'(by rw [cleanF_len]; exact hk) = if k = pos then M[k] else cleanRow (M.getD pos []) col M[k] := by simp [cleanF]
theorem combF_len {a b : Int} {row piv : List Int} (h : row.length = piv.length) : (combF a b row piv).length = row.length := by simp [combF, h]
theorem combF_get? {a b : Int} {row piv : List Int} {j : Nat} (h1 : j < row.length) (h2 : j < piv.length) : (combF a b row piv)[j]? = some (row[j] * a - piv[j] * b) := by
  unfold combF
  rw [List.getElem?_zipWith, List.getElem?_eq_getElem h1, List.getElem?_eq_getElem h2]
theorem mul_bound {x y : Int} (hx : x.natAbs ≤ 2 ^ 25) (hy : y.natAbs ≤ 2 ^ 25) : (x * y).natAbs ≤ 2 ^ 50 := by
  rw [Int.natAbs_mul]
  exact Nat.le_trans (Nat.mul_le_mul hx hy) (by decide)

theorem clean_call {H H1 : PHeap} {hb n c : Nat} {hel rel : TypeId} {rest : List Value} {bs : List Nat} {M : List (List Int)} {pos col : Nat} (hm : Mat H H1 hb hel rel rest bs n M) (hpos : pos < M.length) (hcol : col < n) (hn : n ≤ 2 ^ 62)
    (hlen : M.length ≤ 2 ^ 62) (hB : ∀ r ∈ M, ∀ x ∈ r, x.natAbs ≤ 2 ^ 25) :
    CallP Try.prog 26 #[.slice (some ⟨hb, 0, none⟩) M.length c, vi pos, vi col] H1 fun v H2 => v = .tuple #[] ∧ Mat H H2 hb hel rel rest bs n (cleanF M pos col) := by
  refine CallP.of_nv ?_
  rw [f26_is]
  have hw : ∀ {k m : Nat}, k < m → m ≤ 2 ^ 62 → IntKind.i64.wrap ((k : Int) + 1) = ((k + 1 : Nat) : Int) := fun hk hm => by rw [IntWalk.i64_in _ (by omega)]; rfl
  have hmu : ∀ {k m : Nat}, k < m → m - ((k + 1 : Nat) : Int).toNat < m - (k : Int).toNat := fun hk => by omega
  have hrow0 : ∀ {i : Nat} (hi : i < M.length), M[i].length = n := fun {i} hi => by
    have hbi : bs[i]? = some (bs[i]'(by rw [← hm.len]; exact hi)) := List.getElem?_eq_getElem _
    exact (hm.row i _ _ hbi (List.getElem?_eq_getElem hi)).2
  refine ⟨fun vs H2 => match vs with
    | [.int _ i] => ∃ k : Nat, i = k ∧ k ≤ M.length ∧ Mat H H2 hb hel rel rest bs n ((cleanF M pos col).take k ++ M.drop k)
    | _ => False, fun vs _ => match vs with
    | [.int _ i] => M.length - i.toNat
    | _ => 0, ⟨0, rfl, Nat.zero_le _, by simpa using hm⟩, ?_⟩
  rintro i H2 ⟨k, rfl, hk, hM⟩
  refine bCase_intro (fun h => ?_) (fun h => ?_)
  · have hlt : k < M.length := by have := of_decide_eq_true h; omega
    have hltb : k < bs.length := by rw [← hm.len]; exact hlt
    have hbk : bs[k]? = some bs[k] := List.getElem?_eq_getElem hltb
    have hposb : pos < bs.length := by rw [← hm.len]; exact hpos
    have hbp : bs[pos]? = some bs[pos] := List.getElem?_eq_getElem hposb
    have hmk := mix_get (cleanF_len (pos := pos) (col := col)) hlt
    have hms := mix_set (cleanF_len (pos := pos) (col := col)) hlt
    have hcl := cleanF_get (pos := pos) (col := col) hlt
    have hkn := hrow0 hlt
    have hpn := hrow0 hpos
    -- a row that stays
    have hstay : (cleanF M pos col)[k]'(by rw [cleanF_len]; exact hlt) = M[k] → ∃ k', ((k + 1 : Nat) : Int) = (k' : Nat) ∧ k' ≤ M.length ∧ Mat H H2 hb hel rel rest bs n ((cleanF M pos col).take k' ++ M.drop k') := fun he => by
      refine ⟨k + 1, rfl, hlt, ?_⟩
      rw [hms, he]
      have : ((cleanF M pos col).take k ++ M.drop k).set k M[k] = (cleanF M pos col).take k ++ M.drop k := by
        obtain ⟨h1, h2⟩ := List.getElem?_eq_some_iff.1 hmk
        rw [← h2]
        exact List.set_getElem_self h1
      rw [this]
      exact hM
    refine ⟨_, rfl, by omega, by omega, some ⟨bs[k], 0, none⟩, n, n, by simpa using hM.hdr_get hbk, bCase_intro (fun h2 => ?_) (fun h2 => ?_)⟩
    · have hkp : k = pos := by have := of_decide_eq_true h2; omega
      rw [hw hlt hlen]
      exact ⟨hstay (by rw [hcl, if_pos hkp]), hmu hlt⟩
    · have hkp : k ≠ pos := by have := of_decide_eq_false h2; omega
      rw [if_neg hkp] at hcl
      have hck : M[k][col]? = some (M[k][col]'(by omega)) := List.getElem?_eq_getElem (by omega)
      have hcp : M[pos][col]? = some (M[pos][col]'(by omega)) := List.getElem?_eq_getElem (by omega)
      have hgk : M[k].getD col 0 = M[k][col]'(by omega) := by simp [List.getD, hck]
      have hgp : M[pos].getD col 0 = M[pos][col]'(by omega) := by simp [List.getD, hcp]
      have hgM : M.getD pos [] = M[pos] := by simp [List.getD, hpos]
      refine ⟨_, rfl, by omega, by omega, M[k][col]'(by omega), by simpa using hM.row_get hbk hmk hck, bCase_intro (fun h3 => ?_) (fun h3 => ?_)⟩
      · have h0 : M[k][col]'(by omega) = 0 := by simpa using h3
        rw [hw hlt hlen]
        exact ⟨hstay (by rw [hcl, cleanRow, hgk, if_pos h0]), hmu hlt⟩
      · have h0 : M[k][col]'(by omega) ≠ 0 := by simpa using h3
        have hmp : ((cleanF M pos col).take k ++ M.drop k)[pos]? = some M[pos] := by
          by_cases hlp : pos < k
          · rw [List.getElem?_append_left (by simp [cleanF_len]; omega), List.getElem?_take_of_lt hlp, List.getElem?_eq_getElem (by rw [cleanF_len]; exact hpos), cleanF_get hpos, if_pos rfl]
          · rw [List.getElem?_append_right (by simp [cleanF_len]; omega)]
            simp [cleanF_len, Nat.min_eq_left hk, show k + (pos - k) = pos from by omega, hpos]
        refine ⟨_, rfl, by omega, by omega, some ⟨bs[pos], 0, none⟩, n, n, by simpa using hM.hdr_get hbp, _, rfl, by omega, by omega, M[pos][col]'(by omega), by simpa using hM.row_get hbp hmp hcp, _, rfl, by omega, by omega,
          M[k][col]'(by omega), by simpa using hM.row_get hbk hmk hck, ?_⟩
        have hcb : (combF (M[pos][col]'(by omega)) (M[k][col]'(by omega)) M[k] M[pos]).length = M[k].length := combF_len (by omega)
        obtain ⟨cf, hcf⟩ : ∃ cf, combF (M[pos][col]'(by omega)) (M[k][col]'(by omega)) M[k] M[pos] = cf := ⟨_, rfl⟩
        rw [hcf] at hcb
        have hcfq : ∀ (j : Nat) (hj : j < n), cf[j]? = some ((M[k][j]'(by rw [hkn]; exact hj)) * (M[pos][col]'(by rw [hpn]; exact hcol)) - (M[pos][j]'(by rw [hpn]; exact hj)) * (M[k][col]'(by rw [hkn]; exact hcol))) := fun j hj => by
          rw [← hcf]; exact combF_get? (show j < M[k].length from hkn.symm ▸ hj) (show j < M[pos].length from hpn.symm ▸ hj)
        have hcfg : ∀ (j : Nat) (hj : j < n), cf[j]'(by omega) = (M[k][j]'(by rw [hkn]; exact hj)) * (M[pos][col]'(by rw [hpn]; exact hcol)) - (M[pos][j]'(by rw [hpn]; exact hj)) * (M[k][col]'(by rw [hkn]; exact hcol)) := fun j hj => (List.getElem?_eq_some_iff.1 (hcfq j hj)).2
        have hkb : ∀ x ∈ M[k], x.natAbs ≤ 2 ^ 25 := hB _ (List.getElem_mem hlt)
        have hpb : ∀ x ∈ M[pos], x.natAbs ≤ 2 ^ 25 := hB _ (List.getElem_mem hpos)
        have hset : ∀ r : List Int, r.length = n → ((cleanF M pos col).take k ++ M.drop k).set k r = ((cleanF M pos col).take k ++ M.drop k).set k r := fun _ _ => rfl
        refine ⟨fun vs H3 => match vs with
          | [.int _ i] => ∃ j : Nat, i = j ∧ j ≤ n ∧ H3 = H2.put bs[k] (.cells ((cf.take j ++ M[k].drop j).map vi).toArray rel (0, 0))
          | _ => False, fun vs _ => match vs with
          | [.int _ i] => n - i.toNat
          | _ => 0, ⟨0, rfl, Nat.zero_le _, by simpa using (PHeap.put_self (hM.row k _ _ hbk hmk).1).symm⟩, ?_⟩
        rintro i H3 ⟨j, rfl, hj, rfl⟩
        have hmixl : (cf.take j ++ M[k].drop j).length = n := by simp; omega
        have hM3 := hM.set hbk hmixl
        have hself : (((cleanF M pos col).take k ++ M.drop k).set k (cf.take j ++ M[k].drop j))[k]? = some (cf.take j ++ M[k].drop j) := List.getElem?_set_self (List.getElem?_eq_some_iff.1 hmk).1
        have hother : (((cleanF M pos col).take k ++ M.drop k).set k (cf.take j ++ M[k].drop j))[pos]? = some M[pos] := by rw [List.getElem?_set_ne hkp]; exact hmp
        refine bCase_intro (fun h4 => ?_) (fun h4 => ?_)
        · have hjn : j < n := by have := of_decide_eq_true h4; omega
          have hjk : j < M[k].length := by omega
          have hgj := mix_get hcb hjk
          have hsj := mix_set hcb hjk
          have hpj : M[pos][j]? = some (M[pos][j]'(by omega)) := List.getElem?_eq_getElem (by omega)
          have hst := storeTo_block (hM3.row k _ _ hbk hself).1 (i := j) (v := vi (cf[j]'(by omega))) (by simp; omega)
          refine ⟨_, rfl, by omega, by omega, M[k][j], by simpa using hM3.row_get hbk hself hgj, _, rfl, by omega, by omega, some ⟨bs[pos], 0, none⟩, n, n, by simpa using hM3.hdr_get hbp, _, rfl, by omega, by omega,
            M[pos][j]'(by omega), by simpa using hM3.row_get hbp hother hpj, _, rfl, by omega, by omega, ?_⟩
          have b1 := mul_bound (hkb _ (List.getElem_mem hjk)) (hpb _ (List.getElem_mem (show col < M[pos].length by omega)))
          have b2 := mul_bound (hpb _ (List.getElem_mem (show j < M[pos].length by omega))) (hkb _ (List.getElem_mem (show col < M[k].length by omega)))
          have hval : IntKind.i64.wrap (IntKind.i64.wrap (M[k][j] * M[pos][col]) - IntKind.i64.wrap (M[pos][j] * M[k][col])) = cf[j]'(by omega) := by
            rw [hcfg j hjn, IntWalk.i64_in (M[k][j] * M[pos][col]) (by omega), IntWalk.i64_in (M[pos][j] * M[k][col]) (by omega), IntWalk.i64_in _ (by omega)]
          rw [hval, hw hjn hn, Nat.mul_one, Int.toNat_natCast]
          refine ⟨_, hst, ⟨j + 1, rfl, hjn, ?_⟩, hmu hjn⟩
          rw [PHeap.put_put, hsj, List.map_set]
        · have hjn : j = n := by have := of_decide_eq_false h4; omega
          subst hjn
          have hfull : cf.take j ++ M[k].drop j = cf := by rw [List.take_of_length_le (by omega), List.drop_of_length_le (by omega), List.append_nil]
          rw [hfull] at hM3 hself ⊢
          have hcfl : cf.length = j := by omega
          have hsh := shrink_call (c := j) (hM3.row k _ _ hbk hself).1 (by omega) (fun x hx => by
            obtain ⟨q, hq, rfl⟩ := List.getElem_of_mem hx
            rw [hcfg q (by omega)]
            have b1 := mul_bound (hkb _ (List.getElem_mem (show q < M[k].length by omega))) (hpb _ (List.getElem_mem (show col < M[pos].length by omega)))
            have b2 := mul_bound (hpb _ (List.getElem_mem (show q < M[pos].length by omega))) (hkb _ (List.getElem_mem (show col < M[k].length by omega)))
            omega)
          rw [hcfl] at hsh
          refine CallP.mono hsh ?_
          rintro v H4 ⟨rfl, rfl⟩
          rw [hw hlt hlen]
          refine ⟨rfl, ⟨k + 1, rfl, hlt, ?_⟩, hmu hlt⟩
          have hsl : (shrinkF cf).length = j := by unfold shrinkF; split <;> simp [hcfl]
          have := hM3.set hbk hsl
          rw [List.set_set] at this
          rw [hms, hcl, cleanRow, hgM, hgk, if_neg h0, hgp, hcf]
          exact this
  · have hge : k = M.length := by have := of_decide_eq_false h; omega
    subst hge
    refine ⟨rfl, ?_⟩
    rw [List.take_of_length_le (by rw [cleanF_len]; exact Nat.le_refl _), List.drop_length, List.append_nil] at hM
    exact hM
end Go.Inf
