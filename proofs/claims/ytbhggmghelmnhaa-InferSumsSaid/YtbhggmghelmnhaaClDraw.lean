/- The logic's regions, second part: the operations of a region in the order of the text stand for every order that its edges allow. -/
import Derived.Test.YtbhggmghelmnhaaClRegion
namespace Go

/-- What is known of an activation's temporaries. -/
abbrev CEnv := Nat → Option Value
def CEnv.put (e : CEnv) (d : Option Nat) (v : Value) : CEnv :=
  match d with
  | some d => fun i => if i = d then some v else e i
  | none => e
def CEnv.opd (e : CEnv) : Operand → Option Value
  | .tmp t => e t
  | .const v => some v
  | .global g => some (.pointer (some ⟨g, 0, none⟩))
  | .func f => some (.func (.func f) #[] #[])
def CEnv.rho (e : CEnv) (x : Operand) : Value := (e.opd x).getD undef

structure EnvOk (e : CEnv) (n : Nat) (a : Act) : Prop where
  size : a.tmps.size = n
  val : ∀ i v, e i = some v → a.tmps[i]?.getD undef = v

theorem EnvOk.opd {e : CEnv} {n : Nat} {a : Act} (h : EnvOk e n a) {x : Operand} {v : Value} (hx : e.opd x = some v) : a.eval x = v := by
  cases x with
  | tmp t => have := h.val t v hx; simpa [Act.eval] using this
  | const c => simpa [CEnv.opd, Act.eval] using hx
  | global g => simpa [CEnv.opd, Act.eval] using hx
  | func f => simpa [CEnv.opd, Act.eval] using hx

theorem EnvOk.put {e : CEnv} {n : Nat} {a : Act} (h : EnvOk e n a) {d : Option Nat} (hd : ∀ t, d = some t → t < n) (v : Value) : EnvOk (e.put d v) n (a.put d v) := by
  cases d with
  | none => exact h
  | some d =>
    refine ⟨by simp [Act.put, h.size], fun i u hi => ?_⟩
    have hdn := hd d rfl
    simp only [CEnv.put] at hi
    simp only [Act.put]
    by_cases hid : i = d
    · subst hid
      simp only [if_true, Option.some.injEq] at hi
      subst hi
      simp [h.size, hdn]
    · rw [if_neg hid] at hi
      rw [Array.getElem?_setIfInBounds_ne (fun e => hid e.symm)]
      exact h.val i u hi

/-! ### What an operation is -/
inductive OpCls where
  | rd | al | ef | no
  deriving DecidableEq
def Op.cls : Op → OpCls
  | .alloc _ | .box _ _ | .buildSlice _ _ _ | .makeMap _ _ => .al
  | .store _ _ _ | .makeSlice _ _ _ | .insert _ _ _ _ | .mapUpdate _ _ _ _ | .mapEntry _ _ _ | .entryStore _ _ _ _ | .range _ _ | .next _ _ => .ef
  | .call { callee := .builtin b, .. } => match b with
    | .len | .cap | .min | .max => .rd
    | _ => .ef
  | .call _ => .ef
  | .ready _ | .waits _ | .makeChan _ _ | .go _ | .defer _ | .panic _ | .send _ _ | .recv _ _ _ | .select _ _ | .typeAssert _ _ _ _ | .sliceToArrayPointer _ _ => .no
  | _ => .rd

theorem Op.cls_not_defer {o : Op} (h : o.cls ≠ .no) : ∀ c, o ≠ .defer c := by
  intro c e; subst e; exact h rfl
theorem Op.cls_not_select {o : Op} (h : o.cls ≠ .no) : ∀ c b, o ≠ .select c b := by
  intro c b e; subst e; exact h rfl

/-- Is the operation wanted, as far as that is known? -/
def wantedC (ops : Array Oper) (e : CEnv) (o : Oper) : Option Bool :=
  match o.guard with
  | none => some true
  | some (j, want) =>
    match (ops[j]?).bind (·.dst) with
    | none => none
    | some d => match e d with
      | none => none
      | some (.bool b) => some (b == want)
      | some _ => some false

def dstOk (n : Nat) : Option Nat → Bool
  | none => true
  | some d => Nat.ble (d + 1) n
theorem dstOk_spec {n : Nat} {d : Option Nat} (h : dstOk n d = true) : ∀ t, d = some t → t < n := by
  intro t ht; subst ht; exact Nat.le_of_ble_eq_true h

/-- What operation i does at the environment e: how it is to be run, what is run, and where the result goes. One that is not wanted lays 'undef'. -/
def semC (n : Nat) (ops : Array Oper) (e : CEnv) (i : Nat) : Option (OpCls × Sem Next × Option Nat) :=
  match ops[i]? with
  | none => none
  | some o =>
    if dstOk n o.dst then
      match wantedC ops e o with
      | none => none
      | some false => some (.rd, .pure (.value undef), o.dst)
      | some true => match o.op.cls with
        | .no => none
        | c => if o.op.operands.all (fun x => (e.opd x).isSome) then some (c, execOp e.rho o, o.dst) else none
    else none

/-- A region's state: the environment, the heap, what was read so far, and the heaps ahead of each effect. -/
structure RState where
  e : CEnv
  H : PHeap
  reads : List (Nat × Sem Next × Value)
  snaps : List (Nat × PHeap)

def bodyC (P : Program) (ord : Nat → Nat → Bool) (i : Nat) (F : RState → Prop) (s : RState) (m : Sem Next) (d : Option Nat) : OpCls → Prop
  | .no => False
  | .rd => ∃ v, m.rdH P s.H = some (.value v) ∧ (∀ p ∈ s.snaps, ord p.1 i = false → m.rdH P p.2 = some (.value v)) ∧
      F { s with e := s.e.put d v, reads := (i, m, v) :: s.reads }
  | .al => ∃ (o : Obj) (g : Nat → Value), (∃ f, m.alH P = some (o, f) ∧ ∀ b, f b = some (.value (g b))) ∧ ∀ b, s.H b = none → F { s with e := s.e.put d (g b), H := s.H.put b o }
  | .ef => m.exH P s.H (nextP P fun v H' => (∀ q ∈ s.reads, ord q.1 i = false → q.2.1.rdH P H' = some (.value q.2.2)) ∧
      F { s with e := s.e.put d v, H := H', snaps := (i, s.H) :: s.snaps })
def stepC (P : Program) (n : Nat) (ops : Array Oper) (ord : Nat → Nat → Bool) (i : Nat) (F : RState → Prop) (s : RState) : Prop :=
  match semC n ops s.e i with
  | none => False
  | some (c, m, d) => bodyC P ord i F s m d c
theorem stepC_of {P : Program} {n : Nat} {ops : Array Oper} {ord : Nat → Nat → Bool} {i : Nat} {F : RState → Prop} {s : RState} {c : OpCls} {m : Sem Next} {d : Option Nat} (h : semC n ops s.e i = some (c, m, d)) :
    stepC P n ops ord i F s = bodyC P ord i F s m d c := by
  unfold stepC; rw [h]
theorem stepC_none {P : Program} {n : Nat} {ops : Array Oper} {ord : Nat → Nat → Bool} {i : Nat} {F : RState → Prop} {s : RState} (h : semC n ops s.e i = none) (hs : stepC P n ops ord i F s) : False := by
  unfold stepC at hs; rw [h] at hs; exact hs

def runC (P : Program) (n : Nat) (ops : Array Oper) (ord : Nat → Nat → Bool) (K : CEnv → PHeap → Prop) : List Nat → RState → Prop
  | [], s => K s.e s.H
  | i :: r, s => stepC P n ops ord i (runC P n ops ord K r) s

/-- s asks no less than s'. -/
structure RState.le (s s' : RState) : Prop where
  e : s.e = s'.e
  H : s.H = s'.H
  reads : ∀ q ∈ s'.reads, q ∈ s.reads
  snaps : ∀ p ∈ s'.snaps, ∃ p0 ∈ s.snaps, p0.1 = p.1 ∧ p0.2.le p.2
theorem RState.le.refl (s : RState) : s.le s := ⟨rfl, rfl, fun _ h => h, fun p h => ⟨p, h, rfl, .refl _⟩⟩

section
variable {P : Program} {n : Nat} {ops : Array Oper} {ord : Nat → Nat → Bool} {K : CEnv → PHeap → Prop}

theorem stepC_mono {i : Nat} {F F' : RState → Prop} (hF : ∀ s s', s.le s' → F s → F' s') {s s' : RState} (hl : s.le s') (h : stepC P n ops ord i F s) : stepC P n ops ord i F' s' := by
  obtain ⟨e, H, rs, sn⟩ := s
  obtain ⟨e', H', rs', sn'⟩ := s'
  obtain ⟨rfl, rfl, hr, hsn⟩ := hl
  dsimp only at hr hsn
  cases hc : semC n ops e i with
  | none => exact (stepC_none hc h).elim
  | some x =>
    obtain ⟨c, m, d⟩ := x
    rw [stepC_of hc] at h
    rw [stepC_of hc]
    cases c with
    | no => exact h.elim
    | rd =>
      obtain ⟨v, h1, h2, h3⟩ := h
      refine ⟨v, h1, fun p hp ho => ?_, hF { e := e.put d v, H := H, reads := (i, m, v) :: rs, snaps := sn } _ ⟨rfl, rfl, fun q hq => ?_, hsn⟩ h3⟩
      · obtain ⟨p0, hp0, e1, e2⟩ := hsn p hp
        exact Sem.rdH_le e2 _ (h2 p0 hp0 (by rw [e1]; exact ho))
      · simp only [List.mem_cons] at hq ⊢
        exact hq.imp id (hr q)
    | al =>
      obtain ⟨o, g, h1, h2⟩ := h
      exact ⟨o, g, h1, fun b hb => hF { e := e.put d (g b), H := H.put b o, reads := rs, snaps := sn } _ ⟨rfl, rfl, hr, hsn⟩ (h2 b hb)⟩
    | ef =>
      refine Sem.exH_mono (fun x H1 hx => nextP.mono (fun v H2 hv => ?_) hx) _ _ h
      refine ⟨fun q hq => hv.1 q (hr q hq), hF { e := e.put d v, H := H2, reads := rs, snaps := (i, H) :: sn } _ ⟨rfl, rfl, hr, fun p hp => ?_⟩ hv.2⟩
      simp only [List.mem_cons] at hp ⊢
      rcases hp with rfl | hp
      · exact ⟨_, .inl rfl, rfl, .refl _⟩
      · obtain ⟨p0, hp0, e1⟩ := hsn p hp
        exact ⟨p0, .inr hp0, e1⟩

theorem runC_mono : ∀ (r : List Nat) {s s' : RState}, s.le s' → runC P n ops ord K r s → runC P n ops ord K r s'
  | [], s, s', hl, h => by
    have h' : K s.e s.H := h
    show K s'.e s'.H
    rw [← hl.e, ← hl.H]; exact h'
  | i :: r, _, _, hl, h => stepC_mono (fun _ _ hl' h' => runC_mono r hl' h') hl h

theorem CEnv.opd_put {e : CEnv} {d : Option Nat} {v : Value} {x : Operand} (h : ∀ t, d = some t → x ≠ .tmp t) : (e.put d v).opd x = e.opd x := by
  cases d with
  | none => rfl
  | some t =>
    cases x with
    | tmp u => simp only [CEnv.opd, CEnv.put]; rw [if_neg (fun e => h t rfl (by rw [e]))]
    | _ => rfl

theorem semC_put {e : CEnv} {d : Option Nat} {v : Value} {i : Nat} (h : ∀ o t, ops[i]? = some o → d = some t → t ∉ o.looksAt ops) : semC n ops (e.put d v) i = semC n ops e i := by
  unfold semC
  cases ho : ops[i]? with
  | none => rfl
  | some o =>
    dsimp only
    have hx : ∀ x ∈ o.op.operands, (e.put d v).opd x = e.opd x := fun x hx => CEnv.opd_put fun t ht hxt => h o t ho ht (by
      subst hxt
      exact List.mem_append_left _ (List.mem_filterMap.2 ⟨.tmp t, by simpa using hx, rfl⟩))
    have hw : wantedC ops (e.put d v) o = wantedC ops e o := by
      unfold wantedC
      cases hg : o.guard with
      | none => rfl
      | some gw =>
        obtain ⟨g, want⟩ := gw
        dsimp only
        cases ht : (ops[g]?).bind (·.dst) with
        | none => rfl
        | some t =>
          dsimp only
          cases d with
          | none => rfl
          | some d =>
            have hne : t ≠ d := fun e => h o d ho rfl (by subst e; simp [Oper.looksAt, hg, ht])
            simp [CEnv.put, hne]
    rw [hw]
    have ha : (o.op.operands.all fun x => ((e.put d v).opd x).isSome) = (o.op.operands.all fun x => (e.opd x).isSome) := by
      rw [Bool.eq_iff_iff, Array.all_eq_true_iff_forall_mem, Array.all_eq_true_iff_forall_mem]
      exact ⟨fun hh x hxm => by rw [← hx x hxm]; exact hh x hxm, fun hh x hxm => by rw [hx x hxm]; exact hh x hxm⟩
    rw [ha]
    split
    · cases hwc : wantedC ops e o with
      | none => rfl
      | some b =>
        cases b with
        | false => rfl
        | true =>
          dsimp only
          by_cases hno : o.op.cls = .no
          · rw [hno]
          · have hex : execOp (e.put d v).rho o = execOp e.rho o := execOp_congr o (Op.cls_not_select hno) fun x hxm => by unfold CEnv.rho; rw [hx x hxm]
            rw [hex]
    · rfl

/-! ### Finite heaps -/
def PHeap.ok (H : PHeap) : Prop := ∃ N, ∀ b, N ≤ b → H b = none
theorem PHeap.sub.ok {H : PHeap} {w : World} (h : H.sub w) : H.ok := ⟨w.heap.size, fun _ hb => h.none_of_ge hb⟩
theorem PHeap.ok.world {H : PHeap} (h : H.ok) : ∃ w, H.sub w := by
  obtain ⟨N, hN⟩ := h
  refine ⟨{ (default : World) with heap := Array.ofFn (n := N) fun i => (H i).getD default }, fun b o hb => ?_⟩
  have hlt : b < N := Nat.lt_of_not_le fun hle => by rw [hN b hle] at hb; cases hb
  simp [hlt, hb]
theorem PHeap.ok.put {H : PHeap} (h : H.ok) (b : Nat) (o : Obj) : (H.put b o).ok := by
  obtain ⟨N, hN⟩ := h
  refine ⟨max N (b + 1), fun c hc => ?_⟩
  rw [PHeap.put_other _ _ (by omega)]
  exact hN c (by omega)
theorem PHeap.ok.setCell {H : PHeap} (h : H.ok) (a : Addr) (v : Value) : (H.setCell a v).ok := by
  obtain ⟨N, hN⟩ := h
  refine ⟨N, fun c hc => ?_⟩
  simp [PHeap.setCell, hN c hc]
theorem PHeap.ok.fresh {H : PHeap} (h : H.ok) (r : Nat) : ∃ b, H b = none ∧ b ≠ r := by
  obtain ⟨N, hN⟩ := h
  exact ⟨max N (r + 1), hN _ (by omega), by omega⟩

theorem Sem.exH_ok {α : Type} {P : Program} : ∀ (s : Sem α) (H : PHeap) (Q : α → PHeap → Prop), s.exH P H Q → H.ok → s.exH P H (fun a H' => Q a H' ∧ H'.ok) := by
  intro s
  induction s with
  | pure a => exact fun H Q h hb => ⟨h, hb⟩
  | load m a k ih => exact fun H Q ⟨v, h1, h2⟩ hb => ⟨v, h1, ih _ _ _ h2 hb⟩
  | store m a v k ih => exact fun H Q ⟨h1, h2, h3, h4⟩ hb => ⟨h1, h2, h3, ih _ _ h4 (hb.setCell _ _)⟩
  | new o' k ih => exact fun H Q h hb c hc => ih _ _ _ (h c hc) (hb.put _ _)
  | shape r k ih => exact fun H Q ⟨v, h1, h2⟩ hb => ⟨v, h1, ih _ _ _ h2 hb⟩
  | freeze => exact fun H Q h _ => h
  | frozen a k ih => exact fun H Q ⟨v, h1, h2⟩ hb => ⟨v, h1, ih _ _ _ h2 hb⟩
  | getObj r k ih => exact fun H Q ⟨v, h1, h2, h3⟩ hb => ⟨v, h1, h2, ih _ _ _ h3 hb⟩
  | setObj r o' k ih => exact fun H Q ⟨v, h1, h2, h3⟩ hb => ⟨v, h1, h2, ih _ _ h3 (hb.put _ _)⟩
  | choose q k ih =>
    intro H Q h hb
    simp only [exH] at h ⊢
    split
    · rename_i hf; rw [if_pos hf] at h; exact ih _ _ _ h hb
    · rename_i hf; rw [if_neg hf] at h; exact fun t => ih _ _ _ (h t) hb
  | sys => exact fun H Q h _ => h
  | program k ih => exact fun H Q h hb => ih _ _ _ h hb
  | mark m k ih => exact fun H Q h hb => ih _ _ h hb
  | halt => exact fun H Q h _ => h
theorem CallP.withOk {f : FuncId} {args : Array Value} {H : PHeap} {K : Value → PHeap → Prop} (h : CallP P f args H K) : CallP P f args H fun v H' => K v H' ∧ H'.ok :=
  fun w hw => (h w hw).mono fun _ _ ⟨v, H', e, hs, hk⟩ => ⟨v, H', e, hs, hk, hs.sub.ok⟩
theorem RoundP.withOk {l : Nat} {f : FuncId} {tmps : Array Value} {assign body : Code} {H : PHeap} {K : Value → PHeap → Prop} (h : RoundP P l f tmps assign body H K) :
    RoundP P l f tmps assign body H fun v H' => K v H' ∧ H'.ok :=
  fun r w hw => (h r w hw).mono fun _ _ ⟨v, H', e, hs, hk⟩ => ⟨v, H', e, hs, hk, hs.sub.ok⟩
theorem nextP.withOk {K : Value → PHeap → Prop} {x : Next} {H : PHeap} (h : nextP P K x H) (hok : H.ok) : nextP P (fun v H' => K v H' ∧ H'.ok) x H := by
  cases x <;> first | exact h.elim | exact ⟨h, hok⟩ | exact CallP.withOk h | exact RoundP.withOk h

theorem stepC_mono_ok {i : Nat} {F F' : RState → Prop} {s : RState} (hF : ∀ s', s'.H.ok → F s' → F' s') (hok : s.H.ok) (h : stepC P n ops ord i F s) : stepC P n ops ord i F' s := by
  cases hc : semC n ops s.e i with
  | none => exact (stepC_none hc h).elim
  | some x =>
    obtain ⟨c, m, d⟩ := x
    rw [stepC_of hc] at h
    rw [stepC_of hc]
    cases c with
    | no => exact h.elim
    | rd =>
      obtain ⟨v, h1, h2, h3⟩ := h
      exact ⟨v, h1, h2, hF _ hok h3⟩
    | al =>
      obtain ⟨o, g, h1, h2⟩ := h
      exact ⟨o, g, h1, fun b hb => hF _ (hok.put _ _) (h2 b hb)⟩
    | ef =>
      refine Sem.exH_mono (fun x H1 hx => nextP.mono (fun v H2 hv => ?_) (nextP.withOk hx.1 hx.2)) _ _ (Sem.exH_ok _ _ _ h hok)
      exact ⟨hv.1.1, hF _ hv.2 hv.1.2⟩

/-! ### Two neighbours that hang on no path may change places -/
def pairOk (ops : Array Oper) (x i : Nat) : Bool :=
  match ops[x]?, ops[i]? with
  | some ox, some oi => ox.apart ops oi && !(oi.op.cls == .ef && (ox.op.cls == .ef || ox.op.cls == .al))
  | _, _ => false

theorem semC_spec {e : CEnv} {i : Nat} {c : OpCls} {m : Sem Next} {d : Option Nat} (h : semC n ops e i = some (c, m, d)) :
    ∃ o, ops[i]? = some o ∧ d = o.dst ∧ dstOk n d = true ∧ ((c = .rd ∧ m = .pure (.value undef) ∧ wantedC ops e o = some false) ∨ (c = o.op.cls ∧ c ≠ .no ∧ m = execOp e.rho o ∧ wantedC ops e o = some true ∧ ∀ x ∈ o.op.operands, (e.opd x).isSome = true)) := by
  unfold semC at h
  cases ho : ops[i]? with
  | none => rw [ho] at h; cases h
  | some o =>
    rw [ho] at h
    dsimp only at h
    by_cases hd : dstOk n o.dst = true
    · rw [if_pos hd] at h
      cases hw : wantedC ops e o with
      | none => rw [hw] at h; cases h
      | some b =>
        rw [hw] at h
        cases b with
        | false =>
          simp only [Option.some.injEq, Prod.mk.injEq] at h
          obtain ⟨rfl, rfl, rfl⟩ := h
          exact ⟨o, rfl, rfl, hd, .inl ⟨rfl, rfl, hw⟩⟩
        | true =>
          dsimp only at h
          by_cases hall : (o.op.operands.all fun x => (e.opd x).isSome) = true
          · refine ⟨o, rfl, ?_⟩
            cases hcl : o.op.cls <;> rw [hcl] at h <;> simp only [hall, if_true, Option.some.injEq, Prod.mk.injEq, reduceCtorEq] at h <;>
              (obtain ⟨rfl, rfl, rfl⟩ := h; exact ⟨rfl, hd, .inr ⟨rfl, by simp, rfl, hw, fun x hx => (Array.all_eq_true_iff_forall_mem.1 hall) x hx⟩⟩)
          · cases hcl : o.op.cls <;> rw [hcl] at h <;> simp [hall] at h
    · rw [if_neg hd] at h; cases h

theorem CEnv.put_comm {e : CEnv} {d c : Option Nat} {v u : Value} (h : ∀ t, d = some t → c ≠ some t) : (e.put d v).put c u = (e.put c u).put d v := by
  cases d with
  | none => rfl
  | some t =>
    cases c with
    | none => rfl
    | some r =>
      have hne : r ≠ t := fun he => h t rfl (by rw [he])
      funext i
      simp only [CEnv.put]
      by_cases h1 : i = r
      · by_cases h2 : i = t
        · exact absurd (h1.symm.trans h2) hne
        · simp [h1, hne]
      · simp [h1]

theorem swapC {x i : Nat} {F : RState → Prop} {s : RState} (hp : pairOk ops x i = true) (ho : ord x i = false) (hF : ∀ s s', RState.le s s' → F s → F s') (hok : s.H.ok)
    (h : stepC P n ops ord x (stepC P n ops ord i F) s) : stepC P n ops ord i (stepC P n ops ord x F) s := by
  obtain ⟨e, H, rs, sn⟩ := s
  dsimp only at hok
  have hap : ∃ ox oi, ops[x]? = some ox ∧ ops[i]? = some oi ∧ ox.apart ops oi = true ∧ ¬ (oi.op.cls = .ef ∧ (ox.op.cls = .ef ∨ ox.op.cls = .al)) := by
    unfold pairOk at hp
    cases h1 : ops[x]? with
    | none => simp [h1] at hp
    | some ox =>
      cases h2 : ops[i]? with
      | none => simp [h1, h2] at hp
      | some oi =>
        simp only [h1, h2, Bool.and_eq_true, Bool.not_eq_true', Bool.and_eq_false_iff, Bool.or_eq_false_iff] at hp
        refine ⟨ox, oi, rfl, rfl, hp.1, fun ⟨a, b⟩ => ?_⟩
        rcases hp.2 with q | ⟨q1, q2⟩
        · simp [a] at q
        · rcases b with b | b
          · simp [b] at q1
          · simp [b] at q2
  obtain ⟨ox, oi, hox, hoi, hapart, hcls⟩ := hap
  obtain ⟨a1, a2, a3⟩ := Oper.apart_spec hapart
  cases hsx : semC n ops e x with
  | none => exact (stepC_none hsx h).elim
  | some tx =>
    obtain ⟨cx, mx, dx⟩ := tx
    rw [stepC_of hsx] at h
    dsimp only [bodyC] at h
    obtain ⟨ox', hox', hdx, hdxn, hcx⟩ := semC_spec hsx
    rw [hox] at hox'; cases hox'
    have hi : ∀ v, semC n ops (e.put dx v) i = semC n ops e i := fun v => semC_put fun o t hot hd => by rw [hoi] at hot; cases hot; exact a1 t (hdx ▸ hd)
    have hnoi : semC n ops e i ≠ none → ∃ ci mi di, semC n ops e i = some (ci, mi, di) ∧ di = oi.dst ∧ ((ci = .rd) ∨ ci = oi.op.cls) := by
      intro hne
      cases hsi : semC n ops e i with
      | none => exact absurd hsi hne
      | some ti =>
        obtain ⟨ci, mi, di⟩ := ti
        obtain ⟨oi', hoi', hdi, _, hci⟩ := semC_spec hsi
        rw [hoi] at hoi'; cases hoi'
        exact ⟨ci, mi, di, rfl, hdi, hci.imp (·.1) (·.1)⟩
    -- what i is at e
    have hsi : semC n ops e i ≠ none := by
      intro hne
      cases cx with
      | no => exact h.elim
      | rd => obtain ⟨v, _, _, h3⟩ := h; exact stepC_none ((hi v).trans hne) h3
      | al =>
        obtain ⟨o, g, _, h2⟩ := h
        obtain ⟨b, hb, _⟩ := hok.fresh 0
        exact stepC_none ((hi _).trans hne) (h2 b hb)
      | ef =>
        obtain ⟨w, hw⟩ := hok.world
        obtain ⟨v, H', _, h3⟩ := Sem.exH_out h hw
        exact stepC_none ((hi v).trans hne) h3
    obtain ⟨ci, mi, di, hsi, hdi, hci⟩ := hnoi hsi
    have hx' : ∀ v, semC n ops (e.put di v) x = some (cx, mx, dx) := fun v => by
      rw [← hsx]; exact semC_put fun o t hot hd => by rw [hox] at hot; cases hot; exact a3 t (hdi ▸ hd)
    have hi' : ∀ v, semC n ops (e.put dx v) i = some (ci, mi, di) := fun v => by rw [hi, hsi]
    have hcomm : ∀ v u, (e.put dx v).put di u = (e.put di u).put dx v := fun v u => CEnv.put_comm fun t ht hc => a2 t (hdx ▸ ht) (hdi ▸ hc)
    rw [stepC_of hsi]
    dsimp only [bodyC]
    cases cx with
    | no => exact h.elim
    | rd =>
      obtain ⟨vx, x1, x2, h3⟩ := h
      rw [stepC_of (hi' _)] at h3; dsimp only [bodyC] at h3
      cases ci with
      | no => exact h3.elim
      | rd =>
        obtain ⟨vi, i1, i2, h4⟩ := h3
        refine ⟨vi, i1, i2, ?_⟩
        rw [stepC_of (hx' _)]
        dsimp only [bodyC]
        refine ⟨vx, x1, x2, hF _ _ ?_ h4⟩
        exact ⟨hcomm vx vi, rfl, fun q hq => by simp only [List.mem_cons] at hq ⊢; rcases hq with hq | hq | hq <;> simp [hq], fun p hp => ⟨p, hp, rfl, .refl _⟩⟩
      | al =>
        obtain ⟨o, g, i1, h4⟩ := h3
        refine ⟨o, g, i1, fun b hb => ?_⟩
        rw [stepC_of (hx' _)]
        dsimp only [bodyC]
        refine ⟨vx, Sem.rdH_le (PHeap.le_put o hb) _ x1, x2, ?_⟩
        have h5 := h4 b hb
        rw [hcomm] at h5
        exact h5
      | ef =>
        refine Sem.exH_mono (fun y H1 hy => nextP.mono (fun vi H2 hv => ⟨fun q hq => hv.1 q (List.mem_cons_of_mem _ hq), ?_⟩) hy) _ _ h3
        rw [stepC_of (hx' _)]
        dsimp only [bodyC]
        refine ⟨vx, hv.1 (x, mx, vx) (List.mem_cons_self ..) ho, fun p hp hpo => ?_, ?_⟩
        · simp only [List.mem_cons] at hp
          rcases hp with rfl | hp
          · exact x1
          · exact x2 p hp hpo
        · have h5 := hv.2
          rw [hcomm] at h5
          exact h5
    | al =>
      obtain ⟨o, g, ⟨f, x1, x2⟩, h3⟩ := h
      have hxal : ox.op.cls = .al := by
        rcases hcx with ⟨q, _⟩ | ⟨q, _⟩
        · cases q
        · exact q.symm
      cases ci with
      | no =>
        obtain ⟨b, hb, _⟩ := hok.fresh 0
        have h4 := h3 b hb
        rw [stepC_of (hi' _)] at h4; exact h4
      | rd =>
        have hval : ∀ b, H b = none → ∃ vi, mi.rdH P (H.put b o) = some (.value vi) ∧ (∀ p ∈ sn, ord p.1 i = false → mi.rdH P p.2 = some (.value vi)) ∧
            F { e := (e.put dx (g b)).put di vi, H := H.put b o, reads := (i, mi, vi) :: rs, snaps := sn } := fun b hb => by
          have h4 := h3 b hb
          rw [stepC_of (hi' _)] at h4; dsimp only [bodyC] at h4; exact h4
        cases hr : mi.rdH P H with
        | none =>
          obtain ⟨r, hr'⟩ := Sem.rdH_anti mi hr
          obtain ⟨b, hb, hbr⟩ := hok.fresh r
          obtain ⟨vi, q1, _⟩ := hval b hb
          rw [hr' b o hbr hb] at q1; cases q1
        | some y =>
          obtain ⟨b0, hb0, _⟩ := hok.fresh 0
          obtain ⟨vi, q1, q2, _⟩ := hval b0 hb0
          have hy := Sem.rdH_le (PHeap.le_put o hb0) _ hr
          rw [q1] at hy
          cases hy
          refine ⟨vi, rfl, q2, ?_⟩
          rw [stepC_of (hx' _)]
          dsimp only [bodyC]
          refine ⟨o, g, ⟨f, x1, x2⟩, fun b hb => ?_⟩
          obtain ⟨vi', q1', _, q3⟩ := hval b hb
          have hy := Sem.rdH_le (PHeap.le_put o hb) _ hr
          rw [q1'] at hy
          cases hy
          rw [hcomm] at q3
          exact q3
      | al =>
        have hval : ∀ b, H b = none → ∃ (o' : Obj) (g' : Nat → Value), (∃ f, mi.alH P = some (o', f) ∧ ∀ b, f b = some (.value (g' b))) ∧ ∀ c, (H.put b o) c = none →
            F { e := (e.put dx (g b)).put di (g' c), H := (H.put b o).put c o', reads := rs, snaps := sn } := fun b hb => by
          have h4 := h3 b hb
          rw [stepC_of (hi' _)] at h4; dsimp only [bodyC] at h4; exact h4
        obtain ⟨b0, hb0, _⟩ := hok.fresh 0
        obtain ⟨o', g', ⟨f', y1, y2⟩, _⟩ := hval b0 hb0
        refine ⟨o', g', ⟨f', y1, y2⟩, fun c hc => ?_⟩
        rw [stepC_of (hx' _)]
        dsimp only [bodyC]
        refine ⟨o, g, ⟨f, x1, x2⟩, fun b hb => ?_⟩
        have hbc : b ≠ c := by intro q; rw [q, PHeap.put_same] at hb; cases hb
        rw [PHeap.put_other _ _ hbc] at hb
        obtain ⟨o'', g'', ⟨f'', z1, z2⟩, z3⟩ := hval b hb
        rw [y1] at z1
        cases z1
        have hg : g'' = g' := by funext k; have q1 := y2 k; rw [z2 k] at q1; simpa using q1
        subst hg
        have h5 := z3 c (by rw [PHeap.put_other _ _ (fun q => hbc q.symm)]; exact hc)
        rw [hcomm, PHeap.put_comm _ _ _ hbc] at h5
        exact h5
      | ef =>
        exfalso
        rcases hci with q | q
        · cases q
        · exact hcls ⟨q.symm, .inr hxal⟩
    | ef =>
      have hxef : ox.op.cls = .ef := by
        rcases hcx with ⟨q, _⟩ | ⟨q, _⟩
        · cases q
        · exact q.symm
      cases ci with
      | no =>
        obtain ⟨w, hw⟩ := hok.world
        obtain ⟨v, H', _, h4⟩ := Sem.exH_out h hw
        rw [stepC_of (hi' _)] at h4; exact h4
      | rd =>
        have hK : ∀ vx H', (∀ q ∈ rs, ord q.1 x = false → q.2.1.rdH P H' = some (.value q.2.2)) ∧ stepC P n ops ord i F { e := e.put dx vx, H := H', reads := rs, snaps := (x, H) :: sn } →
            (∀ q ∈ rs, ord q.1 x = false → q.2.1.rdH P H' = some (.value q.2.2)) ∧ ∃ vi, mi.rdH P H' = some (.value vi) ∧ mi.rdH P H = some (.value vi) ∧ (∀ p ∈ sn, ord p.1 i = false → mi.rdH P p.2 = some (.value vi)) ∧
              F { e := (e.put dx vx).put di vi, H := H', reads := (i, mi, vi) :: rs, snaps := (x, H) :: sn } := by
          rintro vx H' ⟨k1, k2⟩
          rw [stepC_of (hi' _)] at k2; dsimp only [bodyC] at k2
          obtain ⟨vi, i1, i2, h4⟩ := k2
          exact ⟨k1, vi, i1, i2 (x, H) (List.mem_cons_self ..) ho, fun p hp => i2 p (List.mem_cons_of_mem _ hp), h4⟩
        obtain ⟨w, hw⟩ := hok.world
        obtain ⟨vx0, H0, hk0⟩ := Sem.exH_out h hw
        obtain ⟨_, vi, _, j2, j3, _⟩ := hK vx0 H0 hk0
        refine ⟨vi, j2, j3, ?_⟩
        rw [stepC_of (hx' _)]
        dsimp only [bodyC]
        refine Sem.exH_mono (fun y H1 hy => nextP.mono (fun vx H2 hv => ?_) hy) _ _ h
        obtain ⟨k1, vi', k2, k3, _, k5⟩ := hK vx H2 hv
        rw [j2] at k3
        cases k3
        refine ⟨fun q hq hqo => ?_, ?_⟩
        · simp only [List.mem_cons] at hq
          rcases hq with rfl | hq
          · exact k2
          · exact k1 q hq hqo
        · rw [hcomm] at k5
          exact k5
      | al =>
        have hK : ∀ vx H', (∀ q ∈ rs, ord q.1 x = false → q.2.1.rdH P H' = some (.value q.2.2)) ∧ stepC P n ops ord i F { e := e.put dx vx, H := H', reads := rs, snaps := (x, H) :: sn } →
            (∀ q ∈ rs, ord q.1 x = false → q.2.1.rdH P H' = some (.value q.2.2)) ∧ ∃ (o : Obj) (g : Nat → Value), (∃ f, mi.alH P = some (o, f) ∧ ∀ b, f b = some (.value (g b))) ∧ ∀ b, H' b = none →
              F { e := (e.put dx vx).put di (g b), H := H'.put b o, reads := rs, snaps := (x, H) :: sn } := by
          rintro vx H' ⟨k1, k2⟩
          rw [stepC_of (hi' _)] at k2; dsimp only [bodyC] at k2
          exact ⟨k1, k2⟩
        obtain ⟨w, hw⟩ := hok.world
        obtain ⟨vx0, H0, hk0⟩ := Sem.exH_out h hw
        obtain ⟨_, o, g, ⟨f, y1, y2⟩, _⟩ := hK vx0 H0 hk0
        refine ⟨o, g, ⟨f, y1, y2⟩, fun b hb => ?_⟩
        rw [stepC_of (hx' _)]
        dsimp only [bodyC]
        refine Sem.exH_mono (fun y H2 hy => ?_) _ _ (Sem.exH_frame (o := o) _ _ _ h hb)
        obtain ⟨H1, rfl, hb1, hy⟩ := hy
        refine nextP.mono (fun vx H3 hv => ?_) (nextP.frame o hy hb1)
        obtain ⟨H4, rfl, hb4, hv⟩ := hv
        obtain ⟨k1, o', g', ⟨f', z1, z2⟩, k3⟩ := hK vx H4 hv
        rw [y1] at z1
        cases z1
        have hg : g' = g := by funext k; have q1 := y2 k; rw [z2 k] at q1; simpa using q1
        subst hg
        refine ⟨fun q hq hqo => Sem.rdH_le (PHeap.le_put o hb4) _ (k1 q hq hqo), hF _ _ ?_ (k3 b hb4)⟩
        refine ⟨hcomm _ _, rfl, fun q hq => hq, fun p hp => ?_⟩
        simp only [List.mem_cons] at hp ⊢
        rcases hp with rfl | hp
        · exact ⟨(x, H), .inl rfl, rfl, PHeap.le_put o hb⟩
        · exact ⟨p, .inr hp, rfl, .refl _⟩
      | ef =>
        exfalso
        rcases hci with q | q
        · cases q
        · exact hcls ⟨q.symm, .inl hxef⟩

theorem frontC {i : Nat} {r : List Nat} : ∀ (pre : List Nat) {s : RState}, (∀ x ∈ pre, pairOk ops x i = true ∧ ord x i = false) → s.H.ok →
    runC P n ops ord K (pre ++ i :: r) s → stepC P n ops ord i (runC P n ops ord K (pre ++ r)) s
  | [], _, _, _, h => h
  | x :: pre, _, hp, hok, h => by
    obtain ⟨h1, h2⟩ := hp x (List.mem_cons_self ..)
    exact swapC h1 h2 (fun _ _ hl hr => runC_mono _ hl hr) hok (stepC_mono_ok (fun _ hok' hr => frontC pre (fun y hy => hp y (List.mem_cons_of_mem _ hy)) hok' hr) hok h)
end
end Go
