/- The logic's regions, third part: a region that holds by the logic holds in the model. -/
import Derived.Test.YtbhggmghelmnhaaClDraw
namespace Go
section
variable {P : Program} {n : Nat} {ops : Array Oper} {ord : Nat → Nat → Bool} {K : CEnv → PHeap → Prop} {r : Option Nat} {Q : Exit → Act → World → Prop}

theorem wantedC_sound {e : CEnv} {a : Act} (he : EnvOk e n a) {o : Oper} {b : Bool} (h : wantedC ops e o = some b) : Region.wanted o (yielded ops a.tmps) = b := by
  unfold wantedC at h
  unfold Region.wanted
  cases hg : o.guard with
  | none => simp only [hg, Option.some.injEq] at h; exact h
  | some gw =>
    obtain ⟨j, want⟩ := gw
    simp only [hg] at h
    dsimp only
    unfold yielded
    cases hd : (ops[j]?).bind (·.dst) with
    | none => simp [hd] at h
    | some d =>
      simp only [hd] at h
      cases hv : e d with
      | none => simp [hv] at h
      | some v =>
        have h1 := he.val d v hv
        simp only [hv] at h
        simp only [Option.bind_some]
        cases ht : a.tmps[d]? with
        | none =>
          rw [ht] at h1
          simp only [Option.getD_none] at h1
          subst h1
          simp [undef] at h
          subst h
          rfl
        | some u =>
          rw [ht] at h1
          simp only [Option.getD_some] at h1
          subst h1
          cases u <;> simp at h <;> subst h <;> simp

theorem nextP_upon {o : Oper} {a : Act} {next : Act → World → Prop} {K' : Value → PHeap → Prop} {x : Next} {H : PHeap} {w : World} (hx : nextP P K' x H) (hs : H.sub w)
    (hk : ∀ v H2 w2, K' v H2 → PStep H H2 w w2 → next (a.put o.dst v) w2) : o.uponIn (fw r) 0 P a next Q (.ok x w) := by
  cases x with
  | value v => exact hk v H w hx (.refl hs)
  | skip => exact hk undef H w hx (.refl hs)
  | enter f args =>
    refine ⟨fun h => (by cases h), ?_⟩
    refine callsIn_wide.2 ((hx w hs).mono ?_)
    rintro e w' ⟨v, H', rfl, hst, hk'⟩
    exact hk v H' w' hk' hst
  | round l f tmps assign body =>
    refine ⟨fun h => (by cases h), ?_⟩
    refine (hx r w hs).mono ?_
    rintro e w' ⟨v, H', rfl, hst, hk'⟩
    exact hk v H' w' hk' hst
  | _ => exact hx.elim

theorem stepC_sound {i : Nat} {F : RState → Prop} {s : RState} {a : Act} {w : World} {Kc : Act → World → Prop} (h : stepC P n ops ord i F s) (he : EnvOk s.e n a) (hs : s.H.sub w)
    (hk : ∀ s' a' w', F s' → EnvOk s'.e n a' → a'.defers = a.defers → PStep s.H s'.H w w' → Kc a' w') : wpOpIn (fw r) 0 P ops Q i Kc a w := by
  cases hc : semC n ops s.e i with
  | none => exact (stepC_none hc h).elim
  | some x =>
    obtain ⟨c, m, d⟩ := x
    rw [stepC_of hc] at h
    obtain ⟨o, ho, rfl, hdn, hcase⟩ := semC_spec hc
    have hd := dstOk_spec hdn
    have hdef : ∀ v, (a.put o.dst v).defers = a.defers := by intro v; unfold Act.put; cases o.dst <;> rfl
    unfold wpOpIn
    rw [ho]
    dsimp only
    rcases hcase with ⟨rfl, rfl, hw⟩ | ⟨hcc, hno, rfl, hw, hops⟩
    · rw [wantedC_sound he hw]
      simp only [Bool.false_eq_true, if_false]
      refine ⟨fun _ _ => trivial, ?_⟩
      obtain ⟨v, h1, _, h3⟩ := h
      simp only [Sem.rdH, Option.some.injEq, Next.value.injEq] at h1
      subst h1
      exact hk _ _ _ h3 (he.put hd _) (hdef _) (.refl hs)
    · rw [wantedC_sound he hw]
      simp only [if_true]
      refine ⟨fun _ _ => trivial, ?_⟩
      rw [Oper.semAt_eq _ _ _ (Op.cls_not_defer (hcc ▸ hno))]
      have hex : execOp s.e.rho o = execOp a.eval o := execOp_congr o (Op.cls_not_select (hcc ▸ hno)) fun y hy => by
        obtain ⟨v, hv⟩ := Option.isSome_iff_exists.1 (hops y hy)
        rw [he.opd hv]; unfold CEnv.rho; rw [hv]; rfl
      rw [hex] at h
      have key : (execOp a.eval o).exH P s.H (nextP P fun v H' => ∃ s' : RState, s'.H = H' ∧ s'.e = s.e.put o.dst v ∧ F s') := by
        cases c with
        | no => exact absurd rfl hno
        | rd =>
          obtain ⟨v, h1, _, h3⟩ := h
          exact Sem.rdH_exH _ h1 ⟨{ e := s.e.put o.dst v, H := s.H, reads := (i, execOp a.eval o, v) :: s.reads, snaps := s.snaps }, rfl, rfl, h3⟩
        | al =>
          obtain ⟨ob, g, ⟨f, h1, h2⟩, h3⟩ := h
          exact Sem.alH_exH _ h1 fun b hb => ⟨_, h2 b, _, rfl, rfl, h3 b hb⟩
        | ef => exact Sem.exH_mono (fun _ _ hx => nextP.mono (fun v H' hv => ⟨_, rfl, rfl, hv.2⟩) hx) _ _ h
      obtain ⟨x, w1, H1, hrun, hst, hx⟩ := Sem.exH_run _ _ _ _ key hs
      rw [hrun]
      refine nextP_upon hx hst.sub ?_
      rintro v H2 w2 ⟨s', rfl, hse, hF⟩ hst2
      exact hk s' _ _ hF (by rw [hse]; exact he.put hd v) (hdef _) (hst.trans hst2)

/-! ### A region in the order of the text -/
theorem runC_ops : ∀ (l : List Nat) {s : RState} {a : Act} {w : World}, runC P n ops ord K l s → EnvOk s.e n a → s.H.sub w →
    (∀ e' H' a' w', K e' H' → EnvOk e' n a' → a'.defers = a.defers → PStep s.H H' w w' → Q .normal a' w') → wpOpsIn (fw r) 0 P ops Q l a w
  | [], s, a, w, h, he, hs, hQ => by
    simp only [wpOpsIn]
    exact hQ _ _ _ _ h he rfl (.refl hs)
  | i :: l, s, a, w, h, he, hs, hQ => by
    rw [wpOpsIn_cons]
    refine stepC_sound h he hs fun s' a' w' hF he' hd' hst => ?_
    exact runC_ops l hF he' hst.sub fun e'' H'' a'' w'' hK he'' hd'' hst'' => hQ _ _ _ _ hK he'' (hd''.trans hd') (hst.trans hst'')

theorem region_sound {id : Nat} {e : CEnv} {H : PHeap} {a : Act} {w : World} (h : runC P n ops (fun _ _ => true) K (List.range ops.size) ⟨e, H, [], []⟩) (he : EnvOk e n a) (hs : H.sub w)
    (hQ : ∀ e' H' a' w', K e' H' → EnvOk e' n a' → a'.defers = a.defers → PStep H H' w w' → Q .normal a' w') : (Code.region id ops false).wpIn (fw r) 0 P Q a w :=
  wpIn_region (runC_ops _ h he hs hQ)

/-! ### A region that draws its order -/
def maskOf (masks : List Nat) (o : Oper) : Nat := o.after.toList.foldl (fun s e => if Region.binds .any e then s ||| (2 ^ e.on ||| masks.getD e.on 0) else s) 0
def masksOf : List Oper → List Nat → List Nat
  | [], acc => acc
  | o :: os, acc => masksOf os (acc ++ [maskOf acc o])
def ordM (masks : List Nat) (x i : Nat) : Bool := (masks.getD i 0).testBit x
def regionOk (ops : Array Oper) (masks : List Nat) : Bool :=
  (List.range ops.size).all fun i =>
    match ops[i]? with
    | none => true
    | some o => (o.after.toList.all fun e => !Region.binds .any e || Nat.ble (e.on + 1) i) && Nat.beq (masks.getD i 0) (maskOf masks o) && (List.range i).all fun x => ordM masks x i || pairOk ops x i

theorem testBit_fold (masks : List Nat) (x : Nat) : ∀ (l : List Edge) (s : Nat), (l.foldl (fun s e => if Region.binds .any e then s ||| (2 ^ e.on ||| masks.getD e.on 0) else s) s).testBit x = true →
    s.testBit x = true ∨ ∃ e ∈ l, Region.binds .any e = true ∧ (e.on = x ∨ ordM masks x e.on = true)
  | [], s, h => .inl h
  | e :: l, s, h => by
    simp only [List.foldl_cons] at h
    rcases testBit_fold masks x l _ h with h1 | ⟨e', he', h2⟩
    · by_cases hb : Region.binds .any e = true
      · rw [if_pos hb, Nat.testBit_or, Nat.testBit_or, Bool.or_eq_true, Bool.or_eq_true] at h1
        rcases h1 with h1 | h1 | h1
        · exact .inl h1
        · rw [Nat.testBit_two_pow] at h1
          exact .inr ⟨e, List.mem_cons_self .., hb, .inl (by simpa using h1)⟩
        · exact .inr ⟨e, List.mem_cons_self .., hb, .inr h1⟩
      · rw [if_neg hb] at h1; exact .inl h1
    · exact .inr ⟨e', List.mem_cons_of_mem _ he', h2⟩

structure RegFacts (ops : Array Oper) (masks : List Nat) : Prop where
  back : ∀ i o, ops[i]? = some o → ∀ e ∈ o.after, Region.binds .any e = true → e.on < i
  path : ∀ i o x, ops[i]? = some o → ordM masks x i = true → ∃ e ∈ o.after, Region.binds .any e = true ∧ (e.on = x ∨ ordM masks x e.on = true)
  pair : ∀ i x, i < ops.size → x < i → ordM masks x i = false → pairOk ops x i = true

theorem regionOk_facts {masks : List Nat} (h : regionOk ops masks = true) : RegFacts ops masks := by
  unfold regionOk at h
  rw [List.all_eq_true] at h
  have hi : ∀ i o, ops[i]? = some o → (o.after.toList.all fun e => !Region.binds .any e || Nat.ble (e.on + 1) i) = true ∧ masks.getD i 0 = maskOf masks o ∧ ∀ x, x < i → ordM masks x i = true ∨ pairOk ops x i = true := by
    intro i o ho
    have hlt := (Array.getElem?_eq_some_iff.1 ho).1
    have h1 := h i (List.mem_range.2 hlt)
    simp only [ho, Bool.and_eq_true] at h1
    refine ⟨h1.1.1, Nat.eq_of_beq_eq_true h1.1.2, fun x hx => ?_⟩
    have h2 := (List.all_eq_true.1 h1.2) x (List.mem_range.2 hx)
    simpa using h2
  refine ⟨fun i o ho e he hb => ?_, fun i o x ho hx => ?_, fun i x hlt hx hno => ?_⟩
  · have h1 := (List.all_eq_true.1 (hi i o ho).1) e (by simpa using he)
    simp only [hb, Bool.not_true, Bool.false_or] at h1
    exact Nat.le_of_ble_eq_true h1
  · have h1 := hx
    unfold ordM at h1
    rw [(hi i o ho).2.1] at h1
    unfold maskOf at h1
    rcases testBit_fold masks x _ _ h1 with h2 | ⟨e, he, h2⟩
    · simp at h2
    · exact ⟨e, by simpa using he, h2⟩
  · have ho := Array.getElem?_eq_getElem hlt
    exact ((hi i _ ho).2.2 x hx).resolve_left (by simp [hno])

theorem ord_listed {masks : List Nat} (hr : RegFacts ops masks) {listed : Array Bool} (hdown : ∀ j o, listed.getD j false = true → ops[j]? = some o → ∀ e ∈ o.after, Region.binds .any e = true → listed.getD e.on false = true) :
    ∀ i o x, ops[i]? = some o → (∀ e ∈ o.after, Region.binds .any e = true → listed.getD e.on false = true) → ordM masks x i = true → listed.getD x false = true := by
  intro i
  induction i using Nat.strongRecOn with
  | _ i ih =>
    intro o x ho hall hx
    obtain ⟨e, he, hb, hor⟩ := hr.path i o x ho hx
    have hl := hall e he hb
    rcases hor with rfl | hor
    · exact hl
    · have hlt := hr.back i o ho e he hb
      have hsz : e.on < ops.size := Nat.lt_trans hlt (Array.getElem?_eq_some_iff.1 ho).1
      exact ih e.on hlt _ x (Array.getElem?_eq_getElem hsz) (hdown e.on _ hl (Array.getElem?_eq_getElem hsz)) hor

theorem any_sound {masks : List Nat} (hr : RegFacts ops masks) : ∀ (R : List Nat) (listed : Array Bool) {s : RState} {a : Act} {w : World},
    listed.size = ops.size → (∀ j, j ∈ R ↔ j < ops.size ∧ listed.getD j false = false) → R.Pairwise (· < ·) →
    (∀ j o, listed.getD j false = true → ops[j]? = some o → ∀ e ∈ o.after, Region.binds .any e = true → listed.getD e.on false = true) →
    runC P n ops (ordM masks) K R s → EnvOk s.e n a → s.H.sub w →
    (∀ e' H' a' w', K e' H' → EnvOk e' n a' → a'.defers = a.defers → PStep s.H H' w w' → Q .normal a' w') → wpAnyIn (fw r) 0 P .any ops Q R.length listed a w := by
  intro R
  generalize hlen : R.length = L
  induction L generalizing R with
  | zero =>
    intro listed s a w hsz hR hp hdown h he hs hQ
    have hnil : R = [] := List.eq_nil_of_length_eq_zero hlen
    subst hnil
    refine ⟨?_, hQ _ _ _ _ h he rfl (.refl hs)⟩
    rw [List.eq_nil_iff_forall_not_mem]
    intro j hj
    obtain ⟨h1, o, ho, _⟩ := mem_ready.1 hj
    have hlt := (Array.getElem?_eq_some_iff.1 ho).1
    have : j ∈ ([] : List Nat) := (hR j).2 ⟨hlt, by
      rw [Array.getD_eq_getD_getElem?] at h1 ⊢
      rw [Array.getElem?_eq_getElem (by omega)] at h1 ⊢
      simpa using h1⟩
    cases this
  | succ L ih =>
    intro listed s a w hsz hR hp hdown h he hs hQ
    have hlist : ∀ j, j < ops.size → listed.getD j true = listed.getD j false := fun j hj => by
      rw [Array.getD_eq_getD_getElem?, Array.getD_eq_getD_getElem?, Array.getElem?_eq_getElem (by omega)]; rfl
    refine ⟨fun hnil => ?_, fun i hi => ?_⟩
    · exfalso
      obtain ⟨j, rest, rfl⟩ : ∃ j rest, R = j :: rest := by cases R with | nil => cases hlen | cons j rest => exact ⟨j, rest, rfl⟩
      obtain ⟨hj1, hj2⟩ := (hR j).1 (List.mem_cons_self ..)
      have : j ∈ Region.ready .any ops listed := mem_ready.2 ⟨by rw [hlist j hj1]; exact hj2, _, Array.getElem?_eq_getElem hj1, fun e he hb => by
        have hlt := hr.back j _ (Array.getElem?_eq_getElem hj1) e he hb
        cases hl : listed.getD e.on false with
        | true => rfl
        | false =>
          have hm : e.on ∈ j :: rest := (hR e.on).2 ⟨by omega, hl⟩
          rcases List.mem_cons.1 hm with hm | hm
          · omega
          · have := List.rel_of_pairwise_cons hp hm; omega⟩
      rw [hnil] at this
      cases this
    · obtain ⟨h1, o, ho, hall⟩ := mem_ready.1 hi
      have hlt := (Array.getElem?_eq_some_iff.1 ho).1
      rw [hlist i hlt] at h1
      have hmem : i ∈ R := (hR i).2 ⟨hlt, h1⟩
      obtain ⟨pre, post, rfl⟩ := List.append_of_mem hmem
      have hpre : ∀ x ∈ pre, x < i := fun x hx => (List.pairwise_append.1 hp).2.2 x hx i (List.mem_cons_self ..)
      have hfront := frontC pre (fun x hx => by
        have hno : ordM masks x i = false := by
          cases hq : ordM masks x i with
          | false => rfl
          | true =>
            have hl := ord_listed hr hdown i o x ho hall hq
            have hx2 := ((hR x).1 (List.mem_append_left _ hx)).2
            rw [hl] at hx2; cases hx2
        exact ⟨hr.pair i x hlt (hpre x hx) hno, hno⟩) hs.ok h
      refine stepC_sound hfront he hs fun s' a' w' hF he' hd' hst => ?_
      have hpw : (pre ++ post).Pairwise (· < ·) := hp.sublist (List.Sublist.append (List.Sublist.refl pre) (List.sublist_cons_self i post))
      have hnd : i ∉ pre ∧ i ∉ post := by
        refine ⟨fun q => Nat.lt_irrefl _ (hpre i q), fun q => ?_⟩
        have := List.rel_of_pairwise_cons (List.pairwise_append.1 hp).2.1 q
        exact Nat.lt_irrefl _ this
      refine ih (pre ++ post) (by simp only [List.length_append, List.length_cons] at hlen ⊢; omega) _ (by simpa using hsz) (fun j => ?_) hpw (fun j oj hj hoj e hee hb => ?_) hF he' hst.sub fun e'' H'' a'' w'' hK he'' hd'' hst'' => hQ _ _ _ _ hK he'' (hd''.trans hd') (hst.trans hst'')
      · by_cases hji : j = i
        · subst hji
          constructor
          · intro q; rcases List.mem_append.1 q with q | q
            · exact absurd q hnd.1
            · exact absurd q hnd.2
          · rintro ⟨_, q⟩
            rw [Array.getD_eq_getD_getElem?] at q
            simp [show j < listed.size by omega] at q
        · have hne : (listed.setIfInBounds i true).getD j false = listed.getD j false := getD_set_ne false (fun q => hji q.symm)
          rw [hne, ← hR j]
          simp only [List.mem_append, List.mem_cons, hji, false_or]
      · by_cases hji : j = i
        · subst hji
          rw [ho] at hoj; cases hoj
          exact getD_set_true (hall e hee hb)
        · rw [getD_set_ne false (fun q => hji q.symm)] at hj
          exact getD_set_true (hdown j oj hj hoj e hee hb)

theorem draw_sound {id : Nat} {e : CEnv} {H : PHeap} {a : Act} {w : World} (hm : P.follows .mixedOrders = true) (hok : regionOk ops (masksOf ops.toList []) = true)
    (h : runC P n ops (ordM (masksOf ops.toList [])) K (List.range ops.size) ⟨e, H, [], []⟩) (he : EnvOk e n a) (hs : H.sub w)
    (hQ : ∀ e' H' a' w', K e' H' → EnvOk e' n a' → a'.defers = a.defers → PStep H H' w w' → Q .normal a' w') : (Code.region id ops true).wpIn (fw r) 0 P Q a w := by
  refine wpIn_region_any hm ?_
  have hst := hs.drew (w.drawn + 1)
  have := any_sound (K := K) (Q := Q) (r := r) (n := n) (P := P) (regionOk_facts hok) (List.range ops.size) (Array.replicate ops.size false) (s := ⟨e, H, [], []⟩) (a := a) (w := { w with drawn := w.drawn + 1 }) (by simp)
    (fun j => by
      simp only [List.mem_range]
      constructor
      · intro hj; exact ⟨hj, by rw [Array.getD_eq_getD_getElem?]; simp [hj]⟩
      · exact fun hj => hj.1)
    List.pairwise_lt_range
    (fun j o hj ho => by
      exfalso
      have hlt := (Array.getElem?_eq_some_iff.1 ho).1
      rw [Array.getD_eq_getD_getElem?] at hj
      simp [hlt] at hj)
    h he hst.sub (fun e' H' a' w' hK he' hd' hst' => hQ _ _ _ _ hK he' hd' (hst.trans hst'))
  rw [List.length_range] at this
  exact this
end
end Go
