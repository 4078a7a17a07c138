/- What a region's formula says stands for the region: the run. -/
import Derived.Test.YtbhggmghelmnhaaClNiceOk
namespace Go
section
variable {P : Program} {n : Nat} {ops : Array Oper} {ord : Nat → Nat → Bool} {i : Nat}

/-- An entry under a guard: it holds, or it was not laid. -/
def entOk (ec : CEnv) (j : Nat) (x : NEnt) : Prop :=
  match x.g with
  | none => ec j = some x.v
  | some (g, b) => (ec g = some (.bool b) ∧ ec j = some x.v) ∨ (∃ u, ec g = some u ∧ u ≠ .bool b ∧ ec j = some undef)
structure ERel (s : NState) (ec : CEnv) : Prop where
  ent : ∀ j x, s.e j = some x → entOk ec j x
  gs : ∀ j x g b, s.e j = some x → x.g = some (g, b) → hasNat s.gs g = true
structure MRel (s : NState) (sc : RState) : Prop where
  H : s.H = sc.H
  reads : ∀ q ∈ sc.reads, (∀ H, q.2.1.rdH P H = some (.value q.2.2)) ∨ ∃ p ∈ s.reads, p.1 = q.1 ∧ ∀ H, p.2 H → q.2.1.rdH P H = some (.value q.2.2)
  snaps : sc.snaps = s.snaps

theorem snapsOk_spec {c : PHeap → Prop} : ∀ {l : List (Nat × PHeap)}, snapsOk ord i c l → ∀ p ∈ l, ord p.1 i = false → c p.2
  | [], _, p, hp, _ => by cases hp
  | q :: l, h, p, hp, ho => by
    simp only [snapsOk] at h
    rcases List.mem_cons.1 hp with rfl | hp
    · rw [ho] at h; exact h.1
    · cases hq : ord q.1 i with
      | true => rw [hq] at h; exact snapsOk_spec h p hp ho
      | false => rw [hq] at h; exact snapsOk_spec h.2 p hp ho
theorem readsOk_spec {H : PHeap} : ∀ {l : List (Nat × (PHeap → Prop))}, readsOk ord i H l → ∀ p ∈ l, ord p.1 i = false → p.2 H
  | [], _, p, hp, _ => by cases hp
  | q :: l, h, p, hp, ho => by
    simp only [readsOk] at h
    rcases List.mem_cons.1 hp with rfl | hp
    · rw [ho] at h; exact h.1
    · cases hq : ord q.1 i with
      | true => rw [hq] at h; exact readsOk_spec h p hp ho
      | false => rw [hq] at h; exact readsOk_spec h.2 p hp ho

theorem beqB_eq {a b : Bool} (h : beqB a b = true) : a = b := by cases a <;> cases b <;> simp_all [beqB]
theorem curIs_spec {cur : Option (Nat × Bool)} {g : Nat} {b : Bool} (h : curIs cur g b = true) : cur = some (g, b) := by
  cases cur with
  | none => cases h
  | some p =>
    obtain ⟨g', b'⟩ := p
    simp only [curIs, Bool.and_eq_true] at h
    rw [Nat.eq_of_beq_eq_true h.1, beqB_eq h.2]
theorem decided_spec {s : NState} {ec : CEnv} (hr : ERel s ec) {g : Nat} {b : Bool} (h : s.e.decided g b = true) : ec g = some (.bool b) := by
  unfold NEnv.decided at h
  split at h
  · rename_i b' hg
    have := hr.ent g _ hg
    simp only [entOk] at this
    rw [this, beqB_eq h]
  · cases h

/-- What is read holds. -/
theorem opd_spec {s : NState} {ec : CEnv} (hr : ERel s ec) {cur : Option (Nat × Bool)} (hcur : ∀ g b, cur = some (g, b) → ec g = some (.bool b)) {x : Operand} {v : Value} (h : s.e.opd cur x = some v) : ec.opd x = some v := by
  cases x with
  | tmp t =>
    simp only [NEnv.opd, NEnv.rd] at h
    cases he : s.e t with
    | none => rw [he] at h; cases h
    | some y =>
      rw [he] at h
      have hent := hr.ent t y he
      unfold entOk at hent
      dsimp only at h
      cases hg : y.g with
      | none => rw [hg] at h hent; simp only [Option.some.injEq] at h; subst h; exact hent
      | some gb =>
        obtain ⟨g, b⟩ := gb
        rw [hg] at h hent
        dsimp only at h hent
        cases hc : (curIs cur g b || s.e.decided g b) with
        | false => rw [hc] at h; cases h
        | true =>
          rw [hc] at h
          simp only [cond_true, Option.some.injEq] at h
          subst h
          have hgb : ec g = some (.bool b) := by
            rcases Bool.or_eq_true _ _ |>.mp hc with h1 | h1
            · exact hcur g b (curIs_spec h1)
            · exact decided_spec hr h1
          rcases hent with h1 | ⟨u, h1, h2, _⟩
          · exact h1.2
          · rw [hgb] at h1; cases h1; exact absurd rfl h2
  | const c => exact h
  | global g => exact h
  | func f => exact h

theorem ready_spec {s : NState} {ec : CEnv} (hr : ERel s ec) {cur : Option (Nat × Bool)} (hcur : ∀ g b, cur = some (g, b) → ec g = some (.bool b)) {o : Oper} (h : opReady s.e cur o = true) :
    (∀ x ∈ o.op.operands, (ec.opd x).isSome = true) ∧ ∀ x ∈ o.op.operands, s.e.rho cur x = ec.rho x := by
  have hall := Array.all_eq_true_iff_forall_mem.1 h
  refine ⟨fun x hx => ?_, fun x hx => ?_⟩
  · obtain ⟨v, hv⟩ := Option.isSome_iff_exists.1 (hall x hx)
    rw [opd_spec hr hcur hv]; rfl
  · obtain ⟨v, hv⟩ := Option.isSome_iff_exists.1 (hall x hx)
    unfold NEnv.rho CEnv.rho
    rw [hv, opd_spec hr hcur hv]

/-- What a step of the formula hands on. -/
structure HandsOn (P : Program) (s : NState) (sc : RState) (d : Option Nat) (v : Value) (s' : NState) (sc' : RState) : Prop where
  e : s'.e = s.e
  gs : s'.gs = s.gs
  ec : sc'.e = sc.e.put d v
  mem : MRel (P := P) s' sc'

def nextVal : Option Next → Value
  | some (.value v) => v
  | _ => undef
theorem there_spec {s : NState} {ec : CEnv} (hr : ERel s ec) {x : Operand} (h : s.e.there x = true) : (ec.opd x).isSome = true := by
  cases x with
  | tmp t =>
    obtain ⟨y, hy⟩ := Option.isSome_iff_exists.1 h
    have hent := hr.ent t y hy
    unfold entOk at hent
    cases hg : y.g with
    | none => rw [hg] at hent; simp [CEnv.opd, hent]
    | some gb =>
      rw [hg] at hent
      rcases hent with h1 | ⟨u, h1, h2, h3⟩
      · simp [CEnv.opd, h1.2]
      · simp [CEnv.opd, h3]
  | const c => rfl
  | global g => cases h
  | func f => cases h
theorem rdPick_spec {s : NState} {ec : CEnv} (hr : ERel s ec) {cur : Option (Nat × Bool)} (hcur : ∀ g b, cur = some (g, b) → ec g = some (.bool b)) {c : Operand} {b : Bool} (hc : ec.opd c = some (.bool b)) {x : Operand} {v : Value}
    (h : s.e.rdPick cur c b x = some v) : ec.rho x = v := by
  cases x with
  | tmp t =>
    simp only [NEnv.rdPick] at h
    cases he : s.e t with
    | none => rw [he] at h; cases h
    | some y =>
      rw [he] at h
      dsimp only at h
      have hent := hr.ent t y he
      unfold entOk at hent
      cases hg : y.g with
      | none => rw [hg] at h hent; simp only [Option.some.injEq] at h; subst h; simp [CEnv.rho, CEnv.opd, hent]
      | some gb =>
        obtain ⟨g, b'⟩ := gb
        rw [hg] at h hent
        dsimp only at h hent
        have hgb : (curIs cur g b' || s.e.decided g b' || condIs c b g b') = true → ec g = some (.bool b') := by
          intro hq
          rcases Bool.or_eq_true _ _ |>.mp hq with hq | hq
          · rcases Bool.or_eq_true _ _ |>.mp hq with h1 | h1
            · exact hcur g b' (curIs_spec h1)
            · exact decided_spec hr h1
          · cases c with
            | tmp ct =>
              simp only [condIs, Bool.and_eq_true] at hq
              have := Nat.eq_of_beq_eq_true hq.1
              subst this
              rw [← beqB_eq hq.2]; exact hc
            | _ => cases hq
        cases hd : (curIs cur g b' || s.e.decided g b' || condIs c b g b') with
        | false => rw [hd] at h; cases h
        | true =>
          rw [hd] at h
          simp only [cond_true, Option.some.injEq] at h
          subst h
          rcases hent with h1 | ⟨u, h1, h2, _⟩
          · simp [CEnv.rho, CEnv.opd, h1.2]
          · rw [hgb hd] at h1; cases h1; exact absurd rfl h2
  | const c' => simp only [NEnv.rdPick, Option.some.injEq] at h; subst h; rfl
  | global g => cases h
  | func f => cases h
theorem pick_spec {s : NState} {ec : CEnv} (hr : ERel s ec) {cur : Option (Nat × Bool)} (hcur : ∀ g b, cur = some (g, b) → ec g = some (.bool b)) {c : Operand} {x : Bool} (hc : ec.opd c = some (.bool x)) {a b : Operand} {v : Value}
    (h : pickN x (s.e.rdPick cur c true a) (s.e.rdPick cur c false b) = some v) : (if x = true then ec.rho a else ec.rho b) = v := by
  have ha : ∀ u, x = true → s.e.rdPick cur c true a = some u → ec.rho a = u := fun u hx hu => rdPick_spec hr hcur (by rw [hc, hx]) hu
  have hb : ∀ u, x = false → s.e.rdPick cur c false b = some u → ec.rho b = u := fun u hx hu => rdPick_spec hr hcur (by rw [hc, hx]) hu
  unfold pickN at h
  split at h
  · rename_i p q hp hq
    simp only [Option.some.injEq] at h
    subst h
    cases x
    · simp only [cond_false, Bool.false_eq_true, if_false]; exact hb _ rfl hq
    · simp only [cond_true, if_true]; exact ha _ rfl hp
  · cases x
    · simp only [Bool.false_eq_true, if_false] at h ⊢; exact hb _ rfl h
    · simp only [if_true] at h ⊢; exact ha _ rfl h
theorem lenTotal_or (o : Op) : lenTotal P o = false ∨ o.cls = .rd := by
  cases h : lenTotal P o with
  | false => exact .inl rfl
  | true =>
    right
    unfold lenTotal at h
    split at h
    · rfl
    · cases h

theorem totalOp_cls {o : Op} (h : totalOp P o = true) : o.cls = .rd := by
  unfold totalOp at h
  rcases Bool.or_eq_true _ _ |>.mp h with h1 | h1
  · unfold Op.total at h1
    split at h1 <;> first
      | rfl
      | cases h1
      | (split at h1 <;> first | rfl | cases h1)
  · rcases lenTotal_or (P := P) o with h2 | h2
    · rw [h2] at h1; cases h1
    · exact h2

theorem totalOp_or (o : Op) : totalOp P o = false ∨ o.cls = .rd := by
  cases h : totalOp P o with
  | false => exact .inl rfl
  | true => exact .inr (totalOp_cls h)

/-- What is run ahead of its guard hands on some value. -/
theorem execN_total {o : Oper} {cur : Option (Nat × Bool)} {s : NState} {F : Value → NState → Prop} (ht : totalOp P o.op = true) (h : execN P ord i o cur s F) : ∃ v, F v s := by
  have htot : totRun P o cur s F → ∃ v, F v s := fun h => by
    unfold totRun at h
    rw [onlyIf_iff] at h
    obtain ⟨v, _, h⟩ := totN_out h.2
    exact ⟨v, h⟩
  unfold execN at h
  split at h
  · split at h
    · rw [onlyIf_iff] at h
      obtain ⟨_, h⟩ := h
      split at h
      · exact ⟨_, h⟩
      · exact h.elim
    · exact h.elim
  · rename_i hop; rw [hop] at ht; cases ht
  · rename_i hop; rw [hop] at ht; cases ht
  · rename_i op t x y ty hop
    split at h
    · rw [hop] at ht; cases ht
    · rw [hop] at ht; cases ht
    · split at h
      · exact htot h
      · rename_i hq; rw [hop] at ht; simp [totalOp, Op.total, lenTotal, hq] at ht
    · split at h
      · exact htot h
      · rename_i hq; rw [hop] at ht; simp [totalOp, Op.total, lenTotal, hq] at ht
    · rw [onlyIf_iff] at h
      rcases eqN_tot (x := x) (y := y) h.2 with hq | hq
      · obtain ⟨v, _, h⟩ := totN_out hq; exact ⟨v, h⟩
      · exact htot hq
    · rw [onlyIf_iff] at h
      rcases eqN_tot (x := x) (y := y) h.2 with hq | hq
      · obtain ⟨v, _, h⟩ := totN_out hq; exact ⟨v, h⟩
      · exact htot hq
    · exact htot h
  · rename_i hop; rw [hop] at ht; cases ht
  · rename_i hop; rw [hop] at ht; cases ht
  · rename_i hop; rw [hop] at ht; cases ht
  · rename_i hop; rw [hop] at ht; cases ht
  · rename_i hop; rw [hop] at ht; cases ht
  · rename_i hop; rw [hop] at ht; cases ht
  · rename_i hop; rw [hop] at ht; cases ht
  · rename_i hop; rw [hop] at ht; cases ht
  · rename_i hop; rw [hop] at ht; cases ht
  · rename_i hop; rw [hop] at ht; cases ht
  · unfold restN at h
    rw [ht] at h
    exact htot h

theorem execN_ok {o : Oper} {cur : Option (Nat × Bool)} {s : NState} {sc : RState} {F : Value → NState → Prop} {Fc : RState → Prop} (hr : ERel s sc.e) (hm : MRel (P := P) s sc)
    (hcur : ∀ g b, cur = some (g, b) → sc.e g = some (.bool b)) (h : execN P ord i o cur s F) (hF : ∀ v s' sc', F v s' → HandsOn P s sc o.dst v s' sc' → Fc sc') :
    (∀ x ∈ o.op.operands, (sc.e.opd x).isSome = true) ∧ o.op.cls ≠ .no ∧ bodyC P ord i Fc sc (execOp sc.e.rho o) o.dst o.op.cls := by
  -- what needs no memory
  have hpure : ∀ {K : Value → Prop}, o.op.cls = .rd → (∀ x ∈ o.op.operands, (sc.e.opd x).isSome = true) → (∃ v, (execOp sc.e.rho o).rdH P .empty = some (.value v) ∧ K v) → (∀ v, K v → F v s) →
      (∀ x ∈ o.op.operands, (sc.e.opd x).isSome = true) ∧ o.op.cls ≠ .no ∧ bodyC P ord i Fc sc (execOp sc.e.rho o) o.dst o.op.cls := by
    intro K hc hrdy ⟨v, hv, hk⟩ hKF
    refine ⟨hrdy, by rw [hc]; simp, ?_⟩
    rw [hc]
    have hall : ∀ H, (execOp sc.e.rho o).rdH P H = some (.value v) := fun H => Sem.rdH_le (H := .empty) (fun _ _ q => by cases q) _ hv
    refine ⟨v, hall _, fun p _ _ => hall _, hF v s _ (hKF v hk) ⟨rfl, rfl, rfl, hm.H, fun q hq => ?_, hm.snaps⟩⟩
    rcases List.mem_cons.1 hq with rfl | hq
    · exact .inl hall
    · exact hm.reads q hq
  have hexec : opReady s.e cur o = true → o.op.cls ≠ .no → execL (s.e.rho cur) o = execOp sc.e.rho o := fun h1 h2 => execL_eq.trans <| execOp_congr o (Op.cls_not_select h2) (ready_spec hr hcur h1).2
  have htot : o.op.cls = .rd → totRun P o cur s F →
      (∀ x ∈ o.op.operands, (sc.e.opd x).isSome = true) ∧ o.op.cls ≠ .no ∧ bodyC P ord i Fc sc (execOp sc.e.rho o) o.dst o.op.cls := by
    intro hc ht
    unfold totRun at ht
    rw [onlyIf_iff] at ht
    obtain ⟨h1, h2⟩ := ht
    rw [hexec h1 (by rw [hc]; simp)] at h2
    exact hpure hc (ready_spec hr hcur h1).1 (totN_out h2) fun _ q => q
  have hvia : ∀ {c : Prop}, o.op.cls = .rd → (c → totN P (execL (s.e.rho cur) o) fun v => F v s) → onlyIf (opReady s.e cur o) c →
      (∀ x ∈ o.op.operands, (sc.e.opd x).isSome = true) ∧ o.op.cls ≠ .no ∧ bodyC P ord i Fc sc (execOp sc.e.rho o) o.dst o.op.cls := by
    intro c hc h1 h2
    rw [onlyIf_iff] at h2
    exact htot hc (onlyIf_iff.2 ⟨h2.1, h1 h2.2⟩)
  -- an effect's end
  have hend : ∀ {v : Value} {H' : PHeap}, readsAnd ord i H' (F v { s with H := H', snaps := (i, s.H) :: s.snaps }) s.reads →
      (∀ q ∈ sc.reads, ord q.1 i = false → q.2.1.rdH P H' = some (.value q.2.2)) ∧ Fc { sc with e := sc.e.put o.dst v, H := H', snaps := (i, s.H) :: sc.snaps } := by
    intro v H' hk
    replace hk := readsAnd_iff.1 hk
    refine ⟨fun q hq hqo => ?_, hF _ _ _ hk.2 ⟨rfl, rfl, rfl, rfl, hm.reads, by simp only; rw [hm.snaps]⟩⟩
    rcases hm.reads q hq with h5 | ⟨p, hp, h6, h5⟩
    · exact h5 _
    · exact h5 _ (readsOk_spec hk.1 p hp (by rw [h6]; exact hqo))
  -- the rest, by its class
  have hrest : totalOp P o.op = false ∨ o.op.cls = .rd → restN P ord i o cur s F →
      (∀ x ∈ o.op.operands, (sc.e.opd x).isSome = true) ∧ o.op.cls ≠ .no ∧ bodyC P ord i Fc sc (execOp sc.e.rho o) o.dst o.op.cls := by
    intro hlen hh
    unfold restN at hh
    split at hh
    · rename_i hl
      rcases hlen with hlen | hlen
      · rw [hl] at hlen; cases hlen
      · exact htot hlen hh
    clear hlen
    have hlook : o.op.cls = .rd → onlyIf (opReady s.e cur o) (∃ v, (execL (s.e.rho cur) o).rdH P s.H = some (.value v) ∧ snapsAnd ord i (fun H => (execL (s.e.rho cur) o).rdH P H = some (.value v)) (exOf P o.type v fun u => F u { s with reads := (i, fun H => (execL (s.e.rho cur) o).rdH P H = some (.value u)) :: s.reads }) s.snaps) →
        (∀ x ∈ o.op.operands, (sc.e.opd x).isSome = true) ∧ o.op.cls ≠ .no ∧ bodyC P ord i Fc sc (execOp sc.e.rho o) o.dst o.op.cls := by
      intro hc h1
      rw [onlyIf_iff] at h1
      obtain ⟨h1, v, h2, h34⟩ := h1
      obtain ⟨h3, h4⟩ := snapsAnd_iff.1 h34
      rw [hexec h1 (by rw [hc]; simp)] at h2 h3 h4
      refine ⟨(ready_spec hr hcur h1).1, by rw [hc]; simp, ?_⟩
      rw [hc]
      refine ⟨v, by rw [← hm.H]; exact h2, fun p hp ho => snapsOk_spec h3 p (hm.snaps ▸ hp) ho, hF v _ _ (exOf_out h4) ⟨rfl, rfl, rfl, hm.H, fun q hq => ?_, hm.snaps⟩⟩
      rcases List.mem_cons.1 hq with rfl | hq
      · exact .inr ⟨_, List.mem_cons_self .., rfl, fun _ q => q⟩
      · exact (hm.reads q hq).imp id fun ⟨p, hp, h5⟩ => ⟨p, List.mem_cons_of_mem _ hp, h5⟩
    cases hc : o.op.cls with
    | no => rw [hc] at hh; exact hh.elim
    | rd =>
      rw [hc] at hh
      dsimp only at hh
      rw [← hc]
      split at hh
      · exact hlook hc hh
      · exact hlook hc hh
      · exact htot hc hh
    | al =>
      rw [hc] at hh
      dsimp only at hh
      rw [onlyIf_iff] at hh
      obtain ⟨h1, h2⟩ := hh
      rw [hexec h1 (by rw [hc]; simp)] at h2
      refine ⟨(ready_spec hr hcur h1).1, by simp, ?_⟩
      split at h2
      · rename_i ob f hal
        have hval : ∀ b, ∃ v, f b = some (.value v) ∧ (s.H b = none → F v { s with H := s.H.put b ob }) := fun b => by
          have h3 := h2 b
          split at h3
          · rename_i v hv; exact ⟨v, hv, h3⟩
          · exact h3.elim
        refine ⟨ob, fun b => nextVal (f b), ⟨f, hal, fun b => ?_⟩, fun b hb => ?_⟩
        · obtain ⟨v, hv, _⟩ := hval b
          dsimp only; rw [hv]; rfl
        · obtain ⟨v, hv, h3⟩ := hval b
          dsimp only
          rw [hv]
          exact hF v _ _ (h3 (by rw [hm.H]; exact hb)) ⟨rfl, rfl, rfl, by simp only; rw [hm.H], hm.reads, hm.snaps⟩
      · exact h2.elim
    | ef =>
      rw [hc] at hh
      dsimp only at hh
      rw [onlyIf_iff] at hh
      obtain ⟨h1, h2⟩ := hh
      rw [hexec h1 (by rw [hc]; simp)] at h2
      refine ⟨(ready_spec hr hcur h1).1, by simp, ?_⟩
      show Sem.exH P _ sc.H _
      rw [← hm.H]
      refine Sem.exH_mono (fun y H1 hy => nextP.mono (fun v H' hv => ?_) hy) _ _ h2
      replace hv := readsAnd_iff.1 hv
      refine ⟨fun q hq hqo => ?_, ?_⟩
      · rcases hm.reads q hq with h5 | ⟨p, hp, h6, h5⟩
        · exact h5 _
        · exact h5 _ (readsOk_spec hv.1 p hp (by rw [h6]; exact hqo))
      · have h7 : F v { s with H := H', snaps := (i, s.H) :: s.snaps } := by
          have h8 := hv.2
          split at h8
          · exact h8
          · exact exOf_out h8
        exact hF v _ _ h7 ⟨rfl, rfl, rfl, rfl, hm.reads, by simp only; rw [hm.snaps]⟩
  unfold execN at h
  split at h
  · -- pick
    rename_i c a b hop
    have hcls : o.op.cls = .rd := by rw [hop]; rfl
    split at h
    · rename_i x hx
      rw [onlyIf_iff] at h
      obtain ⟨hth, h⟩ := h
      split at h
      · rename_i v hv
        have hcx := opd_spec hr hcur hx
        simp only [Bool.and_eq_true] at hth
        have hpick := pick_spec hr hcur hcx hv
        refine hpure (K := fun v => F v s) hcls ?_ ⟨v, ?_, h⟩ fun _ q => q
        · rw [hop]
          intro y hy
          simp only [Op.operands, List.mem_toArray, List.mem_cons, List.not_mem_nil, or_false] at hy
          rcases hy with rfl | rfl | rfl
          · rw [hcx]; rfl
          · exact there_spec hr hth.1
          · exact there_spec hr hth.2
        · unfold execOp
          rw [hop]
          have hxr : sc.e.rho c = .bool x := by unfold CEnv.rho; rw [hcx]; rfl
          simp only [hxr, asBool, rdH_bind, rdH_pure, Option.bind_some]
          rw [← hpick]
      · exact h.elim
    · exact h.elim
  · rename_i t x ix hop
    refine hvia (by rw [hop]; rfl) (fun hq => ?_) h
    rw [execL_eq]; unfold execOp; rw [hop]; exact idxN_tot hq
  · rename_i t x lo hi mx hop
    refine hvia (by rw [hop]; rfl) (fun hq => ?_) h
    rw [execL_eq]; unfold execOp; rw [hop]; exact slN_tot hq
  · rename_i op t x y ty hop
    have hcls : o.op.cls = .rd := by rw [hop]; rfl
    split at h
    · refine hvia hcls (fun hq => ?_) h
      rw [execL_eq]; unfold execOp; rw [hop]; exact divN_tot hq
    · refine hvia hcls (fun hq => ?_) h
      rw [execL_eq]; unfold execOp; rw [hop]; exact divN_tot hq
    · split at h
      · exact htot hcls h
      · refine hvia hcls (fun hq => ?_) h
        rw [execL_eq]; unfold execOp; rw [hop]; exact shN_tot hq
    · split at h
      · exact htot hcls h
      · refine hvia hcls (fun hq => ?_) h
        rw [execL_eq]; unfold execOp; rw [hop]; exact shN_tot hq
    · rw [onlyIf_iff] at h
      rcases eqN_tot (x := x) (y := y) h.2 with hq | hq
      · refine htot hcls ?_
        unfold totRun
        rw [onlyIf_iff]
        refine ⟨h.1, ?_⟩
        rw [execL_eq]; unfold execOp; rw [hop]; exact hq
      · exact htot hcls hq
    · rw [onlyIf_iff] at h
      rcases eqN_tot (x := x) (y := y) h.2 with hq | hq
      · refine htot hcls ?_
        unfold totRun
        rw [onlyIf_iff]
        refine ⟨h.1, ?_⟩
        rw [execL_eq]; unfold execOp; rw [hop]; exact hq
      · exact htot hcls hq
    · exact htot hcls h
  · -- load
    rename_i t a hop
    have hcls : o.op.cls = .rd := by rw [hop]; rfl
    rw [onlyIf_iff] at h
    obtain ⟨h1, h⟩ := h
    obtain ⟨v, h2, h34⟩ := exVal_out h
    obtain ⟨h3, h4⟩ := snapsAnd_iff.1 h34
    have hra : s.e.rho cur a = sc.e.rho a := (ready_spec hr hcur h1).2 a (by rw [hop]; simp [Op.operands])
    rw [hra] at h2 h3 h4
    have hld : ∀ H, ldAt P H t (sc.e.rho a) v → (execOp sc.e.rho o).rdH P H = some (.value v) := fun H hq => by
      unfold execOp; rw [hop]; exact rdH_value (rdH_loadVar hq)
    refine ⟨(ready_spec hr hcur h1).1, by rw [hcls]; simp, ?_⟩
    rw [hcls]
    refine ⟨v, by rw [← hm.H]; exact hld _ h2, fun p hp ho => hld _ (snapsOk_spec h3 p (hm.snaps ▸ hp) ho), hF v _ _ h4 ⟨rfl, rfl, rfl, hm.H, fun q hq => ?_, hm.snaps⟩⟩
    rcases List.mem_cons.1 hq with rfl | hq
    · exact .inr ⟨_, List.mem_cons_self .., rfl, hld⟩
    · exact (hm.reads q hq).imp id fun ⟨p, hp, h5⟩ => ⟨p, List.mem_cons_of_mem _ hp, h5⟩
  · -- store
    rename_i t a x hop
    have hcls : o.op.cls = .ef := by rw [hop]; rfl
    rw [onlyIf_iff] at h
    obtain ⟨h1, h⟩ := h
    have hra : s.e.rho cur a = sc.e.rho a := (ready_spec hr hcur h1).2 a (by rw [hop]; simp [Op.operands])
    have hrx : s.e.rho cur x = sc.e.rho x := (ready_spec hr hcur h1).2 x (by rw [hop]; simp [Op.operands])
    rw [hra, hrx] at h
    refine ⟨(ready_spec hr hcur h1).1, by rw [hcls]; simp, ?_⟩
    rw [hcls]
    show Sem.exH P _ sc.H _
    have hex : execOp sc.e.rho o = (do Instr.storeAt t (sc.e.rho a) (sc.e.rho x); pure .skip) := by unfold execOp; rw [hop]
    rw [hex, ← hm.H]
    refine Sem.exH_bind _ _ _ (stN_exH h fun H' hk => ?_)
    replace hk := readsAnd_iff.1 hk
    refine ⟨fun q hq hqo => ?_, hF _ _ _ hk.2 ⟨rfl, rfl, rfl, rfl, hm.reads, by simp only; rw [hm.snaps]⟩⟩
    rcases hm.reads q hq with h5 | ⟨p, hp, h6, h5⟩
    · exact h5 _
    · exact h5 _ (readsOk_spec hk.1 p hp (by rw [h6]; exact hqo))
  · -- call
    rename_i f args tys hop
    have hcls : o.op.cls = .ef := by rw [hop]; rfl
    rw [onlyIf_iff] at h
    obtain ⟨h1, h⟩ := h
    simp only [Bool.and_eq_true] at h1
    have hargs : (args.toList.map (s.e.rho cur)).toArray = args.map sc.e.rho := (by rw [← List.map_toArray, Array.toArray_toList] : (args.toList.map (s.e.rho cur)).toArray = args.map (s.e.rho cur)).trans <| Array.map_congr_left fun y hy => (ready_spec hr hcur h1.1).2 y (by rw [hop]; simp [Op.operands, Call.operands, hy])
    rw [hargs] at h
    refine ⟨(ready_spec hr hcur h1.1).1, by rw [hcls]; simp, ?_⟩
    rw [hcls]
    show Sem.exH P _ sc.H _
    have hex : execOp sc.e.rho o = callFunc f (args.map sc.e.rho) := by
      unfold execOp; rw [hop]
      show callFunc f (#[] ++ args.map sc.e.rho ++ #[]) = _
      simp
    rw [hex, ← hm.H]
    refine exH_callFunc (entersB_spec h1.2) _ (CallP.mono h fun v H' hv => ?_)
    replace hv := readsAnd_iff.1 hv
    refine ⟨fun q hq hqo => ?_, ?_⟩
    · rcases hm.reads q hq with h5 | ⟨p, hp, h6, h5⟩
      · exact h5 _
      · exact h5 _ (readsOk_spec hv.1 p hp (by rw [h6]; exact hqo))
    · have h7 : F v { s with H := H', snaps := (i, s.H) :: s.snaps } := by
        have h8 := hv.2
        split at h8
        · exact h8
        · exact exOf_out h8
      exact hF v _ _ h7 ⟨rfl, rfl, rfl, rfl, hm.reads, by simp only; rw [hm.snaps]⟩
  · -- nil check
    rename_i x hop
    have hcls : o.op.cls = .rd := by rw [hop]; rfl
    rw [onlyIf_iff] at h
    rcases nilN_tot hop rfl h.2 with hq | hq
    · exact htot hcls (onlyIf_iff.2 ⟨h.1, by rw [execL_eq]; exact hq⟩)
    · exact htot hcls hq
  · rename_i t x f hop
    refine hvia (by rw [hop]; rfl) (fun hq => ?_) h
    rw [execL_eq]; unfold execOp; rw [hop]; exact fldN_tot hq
  · rename_i t parts hop
    refine hvia (by rw [hop]; rfl) (fun hq => ?_) h
    unfold execL; rw [hop]; exact buildN_tot hq
  · -- a slice of its elements
    rename_i t len parts hop
    have hcls : o.op.cls = .al := by rw [hop]; rfl
    rw [onlyIf_iff] at h
    obtain ⟨h1, h⟩ := h
    obtain ⟨elem, cells, h2, h3⟩ := rowN_alH h
    refine ⟨(ready_spec hr hcur h1).1, by rw [hcls]; simp, ?_⟩
    rw [hcls, ← hexec h1 (by rw [hcls]; simp)]
    refine ⟨_, fun b => .slice (some ⟨b, 0, none⟩) len len, ⟨_, (by unfold execL; rw [hop]; exact h2), fun b => rfl⟩, fun b hb => ?_⟩
    exact hF _ _ _ (h3 b (by rw [hm.H]; exact hb)) ⟨rfl, rfl, rfl, by simp only; rw [hm.H], hm.reads, hm.snaps⟩
  · -- make
    rename_i t l c hop
    have hcls : o.op.cls = .ef := by rw [hop]; rfl
    rw [onlyIf_iff] at h
    obtain ⟨h1, h⟩ := h
    have hra : s.e.rho cur l = sc.e.rho l := (ready_spec hr hcur h1).2 l (by rw [hop]; simp [Op.operands])
    have hrx : s.e.rho cur c = sc.e.rho c := (ready_spec hr hcur h1).2 c (by rw [hop]; simp [Op.operands])
    rw [hra, hrx] at h
    refine ⟨(ready_spec hr hcur h1).1, by rw [hcls]; simp, ?_⟩
    rw [hcls]
    show Sem.exH P _ sc.H _
    have hex : execOp sc.e.rho o = (do pure (.value (← Instr.makeSlice t (sc.e.rho l) (sc.e.rho c)))) := by unfold execOp; rw [hop]
    rw [hex, ← hm.H]
    refine Sem.exH_bind _ _ _ (mkN_exH h fun v H' hk => ?_)
    exact hend hk
  · -- append
    rename_i args tys hop
    have hcls : o.op.cls = .ef := by rw [hop]; rfl
    split at h
    · rename_i a x t t2 ha ht
      rw [onlyIf_iff] at h
      obtain ⟨h1, h⟩ := h
      have hargs : args = #[a, x] := by rw [← Array.toArray_toList (xs := args), ha]
      have htys : tys = #[t, t2] := by rw [← Array.toArray_toList (xs := tys), ht]
      subst hargs htys
      have hra : s.e.rho cur a = sc.e.rho a := (ready_spec hr hcur h1).2 a (by rw [hop]; simp [Op.operands, Call.operands])
      have hrx : s.e.rho cur x = sc.e.rho x := (ready_spec hr hcur h1).2 x (by rw [hop]; simp [Op.operands, Call.operands])
      rw [hra, hrx] at h
      refine ⟨(ready_spec hr hcur h1).1, by rw [hcls]; simp, ?_⟩
      rw [hcls]
      show Sem.exH P _ sc.H _
      have hex : execOp sc.e.rho o = (do pure (.value (← Builtin.append_ #[t, t2] o.type #[sc.e.rho a, sc.e.rho x]))) := by
        rw [← execL_eq]; unfold execL; rw [hop]; rfl
      rw [hex, ← hm.H]
      refine Sem.exH_bind _ _ _ (appN_exH h fun v H' hk => ?_)
      exact hend hk
    · exact h.elim
  · -- a function's value
    rename_i t args tys hop
    split at h
    · rename_i g first cap hfv
      have hcls : o.op.cls = .ef := by rw [hop]; rfl
      rw [onlyIf_iff] at h
      obtain ⟨h1, h⟩ := h
      simp only [Bool.and_eq_true] at h1
      have hargs : args.toList.map (s.e.rho cur) = (args.map sc.e.rho).toList := by
        rw [Array.toList_map]
        exact List.map_congr_left fun y hy => (ready_spec hr hcur h1.1).2 y (by rw [hop]; simp only [Op.operands, Call.operands]; simp; exact .inr (by simpa using hy))
      have hfv' : sc.e.rho (.tmp t) = .func (.func g) first cap := ((ready_spec hr hcur h1.1).2 (.tmp t) (by rw [hop]; simp [Op.operands, Call.operands])).symm.trans hfv
      have hall : (first.toList ++ args.toList.map (s.e.rho cur) ++ cap.toList).toArray = first ++ args.map sc.e.rho ++ cap := by
        rw [hargs]; simp
      rw [hall] at h
      refine ⟨(ready_spec hr hcur h1.1).1, by rw [hcls]; simp, ?_⟩
      rw [hcls]
      show Sem.exH P _ sc.H _
      have hex : execOp sc.e.rho o = callFunc g (first ++ args.map sc.e.rho ++ cap) := by
        unfold execOp; rw [hop]
        show (do let d ← Deferred.ofValue (sc.e.rho (.tmp t)) (args.map sc.e.rho); invoke d.target d.args : Sem Next) = _
        rw [hfv']
        rfl
      rw [hex, ← hm.H]
      refine exH_callFunc (entersB_spec h1.2) _ (CallP.mono h fun v H' hv => ?_)
      replace hv := readsAnd_iff.1 hv
      refine hend (readsAnd_iff.2 ⟨hv.1, ?_⟩)
      have h8 := hv.2
      split at h8
      · exact h8
      · exact exOf_out h8
    · exact hrest (totalOp_or _) h
  · exact hrest (totalOp_or _) h

/-! ### Steps -/
/-- What a step may rely on. -/
structure SRel (P : Program) (s : NState) (sc : RState) : Prop where
  e : ERel s sc.e
  m : MRel (P := P) s sc

theorem hasNat_spec {l : List Nat} {d : Nat} : hasNat l d = true ↔ d ∈ l := by
  induction l with
  | nil => simp [hasNat]
  | cons a l ih =>
    simp only [hasNat, Bool.or_eq_true, ih, List.mem_cons]
    constructor
    · rintro (h | h)
      · exact .inl (Nat.eq_of_beq_eq_true h).symm
      · exact .inr h
    · rintro (rfl | h)
      · exact .inl (Nat.beq_refl _)
      · exact .inr h

theorem CEnv.put_ne {e : CEnv} {d : Option Nat} {v : Value} {j : Nat} (h : d ≠ some j) : e.put d v j = e j := by
  cases d with
  | none => rfl
  | some d => simp only [CEnv.put]; rw [if_neg]; intro h1; exact h (by rw [h1])
theorem CEnv.put_self {e : CEnv} {d : Nat} {v : Value} : e.put (some d) v d = some v := by simp [CEnv.put]
theorem NEnv.put_ne {e : NEnv} {d : Option Nat} {x : NEnt} {j : Nat} (h : d ≠ some j) : e.put d x j = e j := by
  cases d with
  | none => rfl
  | some d =>
    simp only [NEnv.put]
    cases hb : Nat.beq j d with
    | false => rfl
    | true => exact absurd (by rw [Nat.eq_of_beq_eq_true hb]) h
theorem NEnv.put_self {e : NEnv} {d : Nat} {x : NEnt} : e.put (some d) x d = some x := by simp [NEnv.put]

/-- A plain value is laid. -/
theorem ERel.put {s : NState} {ec : CEnv} (h : ERel s ec) {d : Option Nat} (hd : dFree s.gs d = true) {v : Value} {lit : Bool} : ERel (s.put d { v, g := none, lit }) (ec.put d v) := by
  have hgs : ∀ g, hasNat s.gs g = true → d ≠ some g := by
    intro g hg he
    subst he
    simp [dFree, hg] at hd
  constructor
  · intro j x hx
    simp only [NState.put] at hx
    by_cases hj : d = some j
    · subst hj
      rw [NEnv.put_self] at hx
      cases hx
      simp only [entOk]
      exact CEnv.put_self
    · rw [NEnv.put_ne hj] at hx
      have h1 := h.ent j x hx
      unfold entOk at h1 ⊢
      rw [CEnv.put_ne hj]
      cases hg : x.g with
      | none => rw [hg] at h1; exact h1
      | some gb =>
        obtain ⟨g, b⟩ := gb
        rw [hg] at h1
        dsimp only at h1 ⊢
        rw [CEnv.put_ne (hgs g (h.gs j x g b hx hg))]
        exact h1
  · intro j x g b hx hg
    simp only [NState.put] at hx
    by_cases hj : d = some j
    · subst hj
      rw [NEnv.put_self] at hx
      cases hx
      cases hg
    · rw [NEnv.put_ne hj] at hx
      exact h.gs j x g b hx hg

/-- What was known to hold is marked. -/
theorem ERel.set {s : NState} {ec : CEnv} (h : ERel s ec) {g : Nat} {v : Value} {lit : Bool} (hv : ec g = some v) : ERel (s.put (some g) { v, g := none, lit }) ec := by
  constructor
  · intro j x hx
    simp only [NState.put] at hx
    by_cases hj : some g = some j
    · cases hj
      rw [NEnv.put_self] at hx
      cases hx
      exact hv
    · rw [NEnv.put_ne hj] at hx
      exact h.ent j x hx
  · intro j x g' b hx hg
    simp only [NState.put] at hx
    by_cases hj : some g = some j
    · cases hj
      rw [NEnv.put_self] at hx
      cases hx
      cases hg
    · rw [NEnv.put_ne hj] at hx
      exact h.gs j x g' b hx hg
theorem SRel.set {s : NState} {sc : RState} (h : SRel P s sc) {g : Nat} {v : Value} {lit : Bool} (hv : sc.e g = some v) : SRel P (s.put (some g) { v, g := none, lit }) sc :=
  ⟨h.e.set hv, ⟨h.m.H, h.m.reads, h.m.snaps⟩⟩

theorem bCase_spec {b : Bool} {A B : Prop} (h : bCase b A B) : (b = true ∧ A) ∨ (b = false ∧ B) := by
  cases b
  · exact .inr ⟨rfl, h⟩
  · exact .inl ⟨rfl, h⟩

/-- A guard's word. -/
theorem decideN_spec {s : NState} {sc : RState} {g : Nat} {F : Option Bool → NState → Prop} (hr : SRel P s sc) (h : decideN s g F) :
    ∃ ob s', SRel P s' sc ∧ s'.gs = s.gs ∧ F ob s' ∧ ∃ v, sc.e g = some v ∧ match ob with
      | some b => v = .bool b
      | none => ∀ b, v ≠ .bool b := by
  unfold decideN at h
  dsimp only at h
  split at h
  · rename_i b lit hg
    have hv : sc.e g = some (.bool b) := hr.e.ent g _ hg
    rcases bCase_spec h with ⟨rfl, h⟩ | ⟨rfl, h⟩
    · exact ⟨some true, _, hr.set hv, rfl, h, _, hv, rfl⟩
    · exact ⟨some false, _, hr.set hv, rfl, h, _, hv, rfl⟩
  · rename_i b g2 w2 lit hg
    split at h
    · rename_i b2 lit2 hg2
      have hv2 : sc.e g2 = some (.bool b2) := hr.e.ent g2 _ hg2
      have hent := hr.e.ent g _ hg
      simp only [entOk] at hent
      have hr2 : ∀ lit, SRel P (s.put (some g2) { v := .bool b2, g := none, lit }) sc := fun lit => hr.set hv2
      -- what the value is
      have hcase : (b2 = w2 ∧ sc.e g = some (.bool b)) ∨ (b2 ≠ w2 ∧ sc.e g = some undef) := by
        rcases hent with ⟨h1, h2⟩ | ⟨u, h1, h2, h3⟩
        · rw [hv2] at h1; cases h1; exact .inl ⟨rfl, h2⟩
        · rw [hv2] at h1; cases h1; exact .inr ⟨fun e => h2 (by rw [e]), h3⟩
      have hyes : ∀ (w : Bool), b2 = w → b2 = w2 → bCase b (F (some true) (NState.put (s.put (some g2) { v := .bool w, g := none, lit := true }) (some g) { v := .bool true, g := none, lit := true }))
          (F (some false) (NState.put (s.put (some g2) { v := .bool w, g := none, lit := true }) (some g) { v := .bool false, g := none, lit := true })) →
          ∃ ob s', SRel P s' sc ∧ s'.gs = s.gs ∧ F ob s' ∧ ∃ v, sc.e g = some v ∧ match ob with
            | some b => v = .bool b
            | none => ∀ b, v ≠ .bool b := by
        intro w hw hw2 hq
        rcases hcase with ⟨_, hv⟩ | ⟨hne, _⟩
        · subst hw
          rcases bCase_spec hq with ⟨rfl, hq⟩ | ⟨rfl, hq⟩
          · exact ⟨some true, _, (hr2 true).set hv, rfl, hq, _, hv, rfl⟩
          · exact ⟨some false, _, (hr2 true).set hv, rfl, hq, _, hv, rfl⟩
        · exact absurd hw2 hne
      have hno : ∀ (w : Bool), b2 = w → b2 ≠ w2 → F none (s.put (some g2) { v := .bool w, g := none, lit := true }) →
          ∃ ob s', SRel P s' sc ∧ s'.gs = s.gs ∧ F ob s' ∧ ∃ v, sc.e g = some v ∧ match ob with
            | some b => v = .bool b
            | none => ∀ b, v ≠ .bool b := by
        intro w hw hw2 hq
        rcases hcase with ⟨he, _⟩ | ⟨_, hv⟩
        · exact absurd he hw2
        · subst hw
          exact ⟨none, _, hr2 true, rfl, hq, _, hv, fun b => by simp [undef]⟩
      rcases bCase_spec h with ⟨h1, h⟩ | ⟨h1, h⟩
      · rcases bCase_spec h with ⟨h2, h⟩ | ⟨h2, h⟩
        · exact hyes true h1 (by rw [h1, h2]) h
        · exact hno true h1 (by rw [h1, h2]; simp) h
      · rcases bCase_spec h with ⟨h2, h⟩ | ⟨h2, h⟩
        · exact hno false h1 (by rw [h1, h2]; simp) h
        · exact hyes false h1 (by rw [h1, h2]) h
    · exact h.elim
  · rename_i vs lit hg
    have hv : sc.e g = some (.tuple vs) := hr.e.ent g _ hg
    exact ⟨none, s, hr, rfl, h, _, hv, fun b => by simp⟩
  · exact h.elim

theorem HandsOn.srel {s : NState} {sc : RState} {d : Option Nat} {v : Value} {s' : NState} {sc' : RState} (h : HandsOn P s sc d v s' sc') (he : ERel s sc.e) (hd : dFree s.gs d = true) :
    SRel P (s'.put d { v, g := none, lit := false }) sc' := by
  refine ⟨?_, ⟨h.mem.H, h.mem.reads, h.mem.snaps⟩⟩
  have h1 : ERel s' sc.e := ⟨fun j x hx => he.ent j x (h.e ▸ hx), fun j x g b hx hg => by rw [h.gs]; exact he.gs j x g b (h.e ▸ hx) hg⟩
  have := h1.put (d := d) (v := v) (lit := false) (by rw [h.gs]; exact hd)
  rw [← h.ec] at this
  exact this

theorem stepN_ok {G : NState → Prop} {Gc : RState → Prop} {s : NState} {sc : RState} (hr : SRel P s sc) (h : stepN P n ops ord i G s) (hG : ∀ s' sc', SRel P s' sc' → G s' → Gc sc') :
    stepC P n ops ord i Gc sc := by
  unfold stepN at h
  simp only [forceT_iff] at h
  split at h
  · exact h.elim
  rename_i o ho
  rw [onlyIf_iff] at h
  obtain ⟨hd, h⟩ := h
  simp only [Bool.and_eq_true] at hd
  obtain ⟨hd1, hd2⟩ := hd
  -- an operation that runs
  have hrun : wantedC ops sc.e o = some true → ((∀ x ∈ o.op.operands, (sc.e.opd x).isSome = true) ∧ o.op.cls ≠ .no ∧ bodyC P ord i Gc sc (execOp sc.e.rho o) o.dst o.op.cls) → stepC P n ops ord i Gc sc := by
    rintro hw ⟨h1, h2, h3⟩
    rw [stepC_of (c := o.op.cls) (m := execOp sc.e.rho o) (d := o.dst)]
    · exact h3
    · unfold semC
      rw [ho]
      dsimp only
      rw [if_pos hd1, hw]
      dsimp only
      cases hc : o.op.cls with
      | no => exact absurd hc h2
      | _ => dsimp only; rw [if_pos (Array.all_eq_true_iff_forall_mem.2 h1)]
  -- an operation that does not
  have hskip : wantedC ops sc.e o = some false → Gc { sc with e := sc.e.put o.dst undef, reads := (i, .pure (.value undef), undef) :: sc.reads } → stepC P n ops ord i Gc sc := by
    intro hw h1
    rw [stepC_of (c := .rd) (m := .pure (.value undef)) (d := o.dst)]
    · exact ⟨undef, rfl, fun _ _ _ => rfl, h1⟩
    · unfold semC
      rw [ho]
      dsimp only
      rw [if_pos hd1, hw]
  have hskipM : ∀ {s' : NState}, MRel (P := P) s' sc → MRel (P := P) s' { sc with e := sc.e.put o.dst undef, reads := (i, .pure (.value undef), undef) :: sc.reads } := fun {s'} hm =>
    ⟨hm.H, fun q hq => by
      rcases List.mem_cons.1 hq with rfl | hq
      · exact .inl fun _ => rfl
      · exact hm.reads q hq, hm.snaps⟩
  split at h
  · -- no guard
    rename_i hgd
    refine hrun (by unfold wantedC; rw [hgd]) ?_
    exact execN_ok hr.e hr.m (fun _ _ hq => by cases hq) h fun v s' sc' hG' ho' => hG _ _ (ho'.srel hr.e hd2) hG'
  · rename_i j want hgd
    split at h
    · exact h.elim
    rename_i g hg
    have hgt : (ops[j]?).bind (·.dst) = some g := hg
    split at h
    · -- a weak entry
      rename_i htl
      simp only [Bool.and_eq_true] at htl
      obtain ⟨⟨htl, hdg⟩, hlit⟩ := htl
      have hex : (s.e g).isSome = true := by
        cases hq : s.e g with
        | none => rw [hq] at hlit; cases hlit
        | some x => rfl
      obtain ⟨x, hx⟩ := Option.isSome_iff_exists.1 hex
      have hent := hr.e.ent g x hx
      have hu : ∃ u, sc.e g = some u := by
        unfold entOk at hent
        cases hq : x.g with
        | none => rw [hq] at hent; exact ⟨_, hent⟩
        | some gb =>
          rw [hq] at hent
          rcases hent with h1 | ⟨_, _, _, h1⟩
          · exact ⟨_, h1.2⟩
          · exact ⟨_, h1⟩
      obtain ⟨u, hu⟩ := hu
      have hdg' : o.dst ≠ some g := by
        intro he
        rw [he] at hdg
        simp [dFree, hasNat] at hdg
      have hgs : ERel { s with gs := g :: s.gs } sc.e := ⟨hr.e.ent, fun j y g' b hy hg' => by
        have := hr.e.gs j y g' b hy hg'
        simp [hasNat, this]⟩
      have hdF : dFree (g :: s.gs) o.dst = true := by
        cases hq : o.dst with
        | none => rfl
        | some d =>
          rw [hq] at hdg hd2
          simp only [dFree, hasNat, Bool.not_eq_true', Bool.or_eq_false_iff] at hdg hd2 ⊢
          exact ⟨hdg.1, hd2⟩
      -- an entry under the guard
      have hput : ∀ {s' : NState} {sc' : RState} {v u' : Value}, s'.e = s.e → s'.gs = g :: s.gs → sc'.e = sc.e.put o.dst u' → MRel (P := P) s' sc' → ((u = .bool want ∧ u' = v) ∨ (u ≠ .bool want ∧ u' = undef)) →
          SRel P (s'.put o.dst { v, g := some (g, want), lit := false }) sc' := by
        intro s' sc' v u' h1 h2 h3 h4 h5
        have hg' : sc'.e g = some u := by rw [h3, CEnv.put_ne hdg', hu]
        refine ⟨⟨fun j y hy => ?_, fun j y g' b hy hg'' => ?_⟩, ⟨h4.H, h4.reads, h4.snaps⟩⟩
        · simp only [NState.put] at hy
          by_cases hj : o.dst = some j
          · rw [hj, NEnv.put_self] at hy
            cases hy
            have hsj : sc'.e j = some u' := by rw [h3, hj]; exact CEnv.put_self
            simp only [entOk]
            rcases h5 with ⟨rfl, rfl⟩ | ⟨h5, rfl⟩
            · exact .inl ⟨hg', hsj⟩
            · exact .inr ⟨u, hg', h5, hsj⟩
          · rw [NEnv.put_ne hj, h1] at hy
            have h6 := hr.e.ent j y hy
            have h7 := hr.e.gs j y
            unfold entOk at h6 ⊢
            rw [h3, CEnv.put_ne hj]
            cases hq : y.g with
            | none => rw [hq] at h6; exact h6
            | some gb =>
              obtain ⟨g', b⟩ := gb
              rw [hq] at h6
              dsimp only at h6 ⊢
              rw [CEnv.put_ne]
              · exact h6
              · intro he
                have := h7 g' b hy hq
                rw [he] at hd2
                simp [dFree, this] at hd2
        · simp only [NState.put] at hy ⊢
          rw [h2]
          by_cases hj : o.dst = some j
          · rw [hj, NEnv.put_self] at hy
            cases hy
            cases hg''
            simp [hasNat]
          · rw [NEnv.put_ne hj, h1] at hy
            have := hr.e.gs j y g' b hy hg''
            simp [hasNat, this]
      by_cases hw : u = .bool want
      · subst hw
        refine hrun (by unfold wantedC; rw [hgd]; dsimp only; rw [hgt]; dsimp only; rw [hu]; simp) ?_
        refine execN_ok hgs ⟨hr.m.H, hr.m.reads, hr.m.snaps⟩ (fun g' b hq => by cases hq; exact hu) h fun v s' sc' hG' ho' => hG _ _ ?_ hG'
        exact hput ho'.e ho'.gs ho'.ec ho'.mem (.inl ⟨rfl, rfl⟩)
      · obtain ⟨v, hv⟩ := execN_total htl h
        refine hskip ?_ (hG _ _ (hput (s' := { s with gs := g :: s.gs }) (u' := undef) rfl rfl rfl (hskipM (s' := { s with gs := g :: s.gs }) ⟨hr.m.H, hr.m.reads, hr.m.snaps⟩) (.inr ⟨hw, rfl⟩)) hv)
        unfold wantedC
        rw [hgd]
        dsimp only
        rw [hgt]
        dsimp only
        rw [hu]
        cases u <;> first | rfl | skip
        rename_i b
        cases b <;> cases want <;> first | rfl | exact absurd rfl hw
    · -- a guard that is decided
      obtain ⟨ob, s', hs', hgs', hF, v, hv, hob⟩ := decideN_spec hr h
      have hd2' : dFree s'.gs o.dst = true := by rw [hgs']; exact hd2
      have hskip' : wantedC ops sc.e o = some false → G (s'.put o.dst { v := undef, g := none, lit := false }) → stepC P n ops ord i Gc sc := fun hw hq =>
        hskip hw (hG _ _ ⟨hs'.e.put hd2', hskipM ⟨hs'.m.H, hs'.m.reads, hs'.m.snaps⟩⟩ hq)
      cases ob with
      | none =>
        dsimp only at hF hob
        refine hskip' ?_ hF
        unfold wantedC
        rw [hgd]
        dsimp only
        rw [hgt]
        dsimp only
        rw [hv]
        cases v <;> first | rfl | exact absurd rfl (hob _)
      | some b =>
        dsimp only at hF hob
        subst hob
        have hw : wantedC ops sc.e o = some (b == want) := by
          unfold wantedC
          rw [hgd]
          dsimp only
          rw [hgt]
          dsimp only
          rw [hv]
        rcases bCase_spec hF with ⟨hb, hF⟩ | ⟨hb, hF⟩
        · refine hrun (by rw [hw, beqB_eq hb]; simp) ?_
          exact execN_ok hs'.e hs'.m (fun _ _ hq => by cases hq) hF fun v s2 sc' hG' ho' => hG _ _ (ho'.srel hs'.e hd2') hG'
        · refine hskip' ?_ hF
          rw [hw]
          cases b <;> cases want <;> first | rfl | cases hb

theorem runNs_ok {K : CEnv → PHeap → Prop} {Kc : CEnv → PHeap → Prop} (hK : ∀ s sc, SRel P s sc → K s.e.strip s.H → Kc sc.e sc.H) : ∀ (l : List Nat) {s : NState} {sc : RState}, SRel P s sc → runNs P n ops ord K l s → runC P n ops ord Kc l sc
  | [], _, _, hr, h => hK _ _ hr h
  | _ :: l, _, _, hr, h => stepN_ok hr h fun _ _ hr' h' => runNs_ok hK l hr' h'
end
end Go
