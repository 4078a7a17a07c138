/- A function's code, as a plain formula, and that the formula stands for the code. -/
import Derived.Test.YtbhggmghelmnhaaClNiceRun
import Derived.Test.YtbhggmghelmnhaaClIter
namespace Go

/-! ### The formula -/
def hasNatF (l : List Nat) (d : Nat) : Bool := hasNat l d
def dedupN : List Nat → List Nat → List Nat
  | [], _ => []
  | a :: l, seen => match hasNat seen a with
    | true => dedupN l seen
    | false => a :: dedupN l (a :: seen)
def dstsC : List Oper → List Nat
  | [] => []
  | o :: l => match o.dst with
    | some d => d :: dstsC l
    | none => dstsC l
/-- What code assigns. -/
def asg : Code → List Nat
  | .region _ ops _ => dstsC ops.toList
  | .seq a b => asg a ++ asg b
  | .cond _ a b => asg a ++ asg b
  | .block _ c => asg c
  | .loop c => asg c
  | .scope c => asg c
  | .rangeFunc _ _ a b => asg a ++ asg b
  | _ => []
def keepThere (e : CEnv) : List Nat → List Nat
  | [] => []
  | w :: l => match (e w).isSome with
    | true => w :: keepThere e l
    | false => keepThere e l
def wOf (e : CEnv) (c : Code) : List Nat := keepThere e (dedupN (asg c) [])
/-- keepThere, and what comes then. -/
def keepK (e : CEnv) : List Nat → (List Nat → Prop) → Prop
  | [], K => K []
  | w :: l, K => match (e w).isSome with
    | true => keepK e l fun r => K (w :: r)
    | false => keepK e l K
theorem keepK_eq {e : CEnv} : ∀ {l : List Nat} {K : List Nat → Prop}, keepK e l K ↔ K (keepThere e l)
  | [], K => Iff.rfl
  | w :: l, K => by
    unfold keepK keepThere
    cases (e w).isSome with
    | true => exact keepK_eq (K := fun r => K (w :: r))
    | false => exact keepK_eq
def ofL (l : List (Nat × Value)) : CEnv := fun i =>
  match l with
  | [] => none
  | p :: r => match Nat.beq i p.1 with
    | true => some p.2
    | false => ofL r i
/-- The environment, written out. -/
def flatK (e : CEnv) : Nat → List (Nat × Value) → (CEnv → Prop) → Prop
  | 0, acc, K => K (ofL acc)
  | i + 1, acc, K => match e i with
    | some v => flatK e i ((i, v) :: acc) K
    | none => flatK e i acc K
theorem keepK_wOf {e : CEnv} {c : Code} {K : List Nat → Prop} : keepK e (dedupN (asg c) []) K ↔ K (wOf e c) := keepK_eq
def setW (e : CEnv) : List Nat → List Value → CEnv
  | w :: ws, v :: vs => (setW e ws vs).put (some w) v
  | _, _ => e
def getW (e : CEnv) : List Nat → List Value
  | [] => []
  | w :: ws => (e w).getD undef :: getW e ws
def thereW (e : CEnv) : List Nat → Bool
  | [] => true
  | w :: ws => (e w).isSome && thereW e ws
def allLikes : List Value → (List Value → Prop) → Prop
  | [], K => K []
  | z :: zs, K => allLike z fun v => allLikes zs fun vs => K (v :: vs)
def likeB : Value → Value → Bool
  | .bool _, .bool _ => true
  | .bool _, _ => false
  | .int k _, .int k' _ => decide (k = k')
  | .int _ _, _ => false
  | .string _, .string _ => true
  | .string _, _ => false
  | .pointer _, .pointer _ => true
  | .pointer _, _ => false
  | .slice _ _ _, .slice _ _ _ => true
  | .slice _ _ _, _ => false
  | .map _, .map _ => true
  | .map _, _ => false
  | _, _ => true
def fitsW (e : CEnv) : List Nat → List Value → Bool
  | w :: ws, z :: zs => match e w with
    | some v => likeB z v && fitsW e ws zs
    | none => false
  | [], [] => true
  | _, _ => false
def sameMs (ms ms1 : List Nat) (X : Prop) : Prop :=
  match ms, ms1 with
  | [], [] => X
  | _, _ => ms1 = ms ∧ X

def exitsN (id : Nat) : Code → Nat
  | .exit k => match Nat.beq k id with
    | true => 1
    | false => 0
  | .seq a b => exitsN id a + exitsN id b
  | .cond _ a b => exitsN id a + exitsN id b
  | .block _ c => exitsN id c
  | .loop c => exitsN id c
  | .scope c => exitsN id c
  | _ => 0
/-- The ways in which code ends at its end. -/
def waysN : Code → Nat
  | .region _ _ _ => 1
  | .seq a b => match waysN a with
    | 0 => 0
    | 1 => waysN b
    | k => k * waysN b
  | .cond _ a b => waysN a + waysN b
  | .block id c => waysN c + exitsN id c
  | .loop _ => 0
  | .skip => 1
  | .label _ => 1
  | .scope c => waysN c
  | .rangeFunc _ _ _ _ => 1
  | _ => 0
def weighN : Code → Nat
  | .region _ ops _ => ops.size
  | .seq a b => weighN a + weighN b
  | .cond _ a b => 2 + weighN a + weighN b
  | .block _ c => weighN c
  | .scope c => weighN c
  | .loop c => 50 + weighN c
  | .rangeFunc _ _ a b => 50 + weighN a + weighN b
  | _ => 0
def joinsN (a b : Code) : Bool := Nat.ble 2 (waysN a) && Nat.ble 12 (weighN b)

def nv (P : Program) (n : Nat) (tp : Bool) : Code → CEnv → List Nat → PHeap → CPost → Prop
  | .skip, e, ms, H, Q => Q .normal e ms H
  | .exit id, e, ms, H, Q => Q (.exit id) e ms H
  | .ret, e, ms, H, Q => Q .ret e ms H
  | .cond x c d, e, ms, H, Q =>
    match e.opd x with
    | some (.bool b) => bCase b (nv P n tp c e ms H Q) (nv P n tp d e ms H Q)
    | _ => False
  | .block id c, e, ms, H, Q => nv P n tp c e ms H (blockP id Q)
  | .label _, e, ms, H, Q => Q .normal e ms H
  | .scope c, e, ms, H, Q => nv P n tp c e ms H (scopeP Q)
  | .seq c d, e, ms, H, Q =>
    match joinsN c d with
    | false => nv P n tp c e ms H (thenP (fun e1 ms1 H1 => nv P n tp d e1 ms1 H1 Q) Q)
    | true => keepK e (dedupN (asg c) []) fun W => ∀ J : List Value → PHeap → Prop, (allLikes (getW e W) fun vs => ∀ H1, nv P n tp d (setW e W vs) ms H1 Q → J vs H1) →
        nv P n tp c e ms H (thenP (fun e1 ms1 H1 => onlyIf (thereW e1 W) (sameMs ms ms1 (J (getW e1 W) H1))) Q)
  | .region _ ops draw, e, ms, H, Q =>
    match draw with
    | false => runNs P n ops (fun _ _ => true) (fun e1 H1 => flatK e1 n [] fun e2 => Q .normal e2 ms H1) (List.range ops.size) ⟨NEnv.lift e, H, [], [], []⟩
    | true => onlyIf (P.follows .mixedOrders && regionOk ops (masksOf ops.toList [])) (runNs P n ops (ordM (masksOf ops.toList [])) (fun e1 H1 => flatK e1 n [] fun e2 => Q .normal e2 ms H1) (List.range ops.size) ⟨NEnv.lift e, H, [], [], []⟩)
  | .loop c, e, ms, H, Q =>
    keepK e (dedupN (asg c) []) fun W => ∃ (I : List Value → PHeap → Prop) (μ : List Value → PHeap → Nat), I (getW e W) H ∧
      allLikes (getW e W) fun vs => ∀ H1, I vs H1 → nv P n tp c (setW e W vs) ms H1 (thenP (fun e1 ms1 H2 => onlyIf (fitsW e1 W (getW e W)) (sameMs ms ms1 (I (getW e1 W) H2 ∧ μ (getW e1 W) H2 < μ vs H1))) Q)
  | .rangeFunc g ps assign body, e, ms, H, Q =>
    match e.opd g with
    | some (.func (.func gf) first cap) => onlyIf (tp && entersB P gf) (∀ fn tmps d l, (∀ i v, e i = some v → tmps[i]?.getD undef = v) → tmps.size = n → H d = none → H l = none → d ≠ l →
      CallP P gf (first ++ #[.func (.yield l) #[] #[]] ++ cap) ((H.put d (.deferred (some []))).put l (loopObj fn tmps ps assign body d .ready none)) fun _ H2 =>
        ∃ st pend, H2 l = some (loopObj fn tmps ps assign body d st pend) ∧ (st == LoopState.busy) = false ∧ jumpP Q e (d :: ms) (H2.put l (loopObj fn tmps ps assign body d .exhausted pend)) pend)
    | _ => False
  | _, _, _, _, _ => False

def resVals (e : CEnv) : List ResultVar → Option (List Value)
  | [] => some []
  | .tmp t :: l => match e t, resVals e l with
    | some v, some vs => some (v :: vs)
    | _, _ => none
  | .cell _ _ :: _ => none
/-- The function's end. -/
def endN (P : Program) (fn : Func) (K : Value → PHeap → Prop) (e : CEnv) (ms : List Nat) (H : PHeap) : Prop :=
  match ms, resVals e fn.results.toList with
  | [], some [v] => K v H
  | [], some vs => K (.tuple vs.toArray) H
  | ms, _ => (∀ y ∈ fn.results, (e y.at).isSome = true) ∧ (∀ d ∈ ms, ∃ x, H d = some (.deferred (some x)) ∧ x = []) ∧ ms.Nodup ∧
      ∃ v, (resSem fn fun t => (e t).getD undef).rdH P (H.drop ms) = some v ∧ K v (H.drop ms)
def endP (P : Program) (fn : Func) (K : Value → PHeap → Prop) : CPost
  | .normal, e, ms, H => endN P fn K e ms H
  | .ret, e, ms, H => endN P fn K e ms H
  | _, _, _, _ => False
def callN (P : Program) (f : FuncId) (args : Array Value) (H : PHeap) (K : Value → PHeap → Prop) : Prop :=
  match P.funcs[f]? with
  | some fn => match fn.body with
    | some c => onlyIf (Nat.ble args.size fn.ntmps) (nv P fn.ntmps true c (argsEnv args) [] H (endP P fn K))
    | none => False
  | none => False
/-- A round of a range over a function. -/
def roundN (P : Program) (n : Nat) (l : Nat) (fn : FuncId) (tmps0 : Array Value) (ps : Array Tmp) (assign body : Code) (d : Nat) (pend : Option Code) (e : CEnv) (H : PHeap) (K : Value → PHeap → Prop) : Prop :=
  nv P n false assign e [] H fun x e1 ms1 H1 => x = .normal ∧ ms1 = [] ∧ H1 l = some (loopObj fn tmps0 ps assign body d .ready pend) ∧
    nv P n false body e1 [] (H1.put l (loopObj fn tmps0 ps assign body d .busy pend)) (roundEnd l (loopObj fn tmps0 ps assign body d) K)

/-! ### It stands -/
section
variable {P : Program} {n : Nat} {r : Option Nat} {ops : Array Oper} {ord : Nat → Nat → Bool} {i : Nat}

def CEnv.sub (e e' : CEnv) : Prop := ∀ i v, e i = some v → e' i = some v
theorem CEnv.sub.opd {e e' : CEnv} (h : e.sub e') {x : Operand} {v : Value} (hx : e.opd x = some v) : e'.opd x = some v := by
  cases x with
  | tmp t => exact h t v hx
  | _ => exact hx
theorem CEnv.sub.trans {e e' e'' : CEnv} (h : e.sub e') (h' : e'.sub e'') : e.sub e'' := fun i v hv => h' i v (h i v hv)
theorem flatK_spec {e : CEnv} : ∀ {n : Nat} {acc : List (Nat × Value)} {K : CEnv → Prop}, flatK e n acc K → (∀ i v, ofL acc i = some v → e i = some v) → ∃ e2 : CEnv, e2.sub e ∧ K e2
  | 0, _, _, h, ha => ⟨_, ha, h⟩
  | i + 1, acc, K, h, ha => by
    unfold flatK at h
    split at h
    · rename_i v hv
      refine flatK_spec h fun j u hj => ?_
      unfold ofL at hj
      split at hj
      · rename_i hb
        rw [Nat.eq_of_beq_eq_true hb]
        cases hj
        exact hv
      · exact ha j u hj
    · exact flatK_spec h ha
theorem mem_dstsC {l : List Oper} {o : Oper} {d : Nat} (ho : o ∈ l) (hd : o.dst = some d) : d ∈ dstsC l := by
  induction l with
  | nil => cases ho
  | cons a l ih =>
    unfold dstsC
    rcases List.mem_cons.1 ho with rfl | ho
    · rw [hd]; exact List.mem_cons_self ..
    · split
      · exact List.mem_cons_of_mem _ (ih ho)
      · exact ih ho

theorem stepC_keep {F F' : RState → Prop} {s : RState} (h : stepC P n ops ord i F s) (hF : ∀ s', (∀ j, j ∉ dstsC ops.toList → s'.e j = s.e j) → F s' → F' s') : stepC P n ops ord i F' s := by
  cases hc : semC n ops s.e i with
  | none => exact (stepC_none hc h).elim
  | some x =>
    obtain ⟨c, m, d⟩ := x
    rw [stepC_of hc] at h ⊢
    have hput : ∀ v j, j ∉ dstsC ops.toList → (s.e.put d v) j = s.e j := by
      intro v j hj
      refine CEnv.put_ne fun hd => ?_
      unfold semC at hc
      cases ho : ops[i]? with
      | none => rw [ho] at hc; cases hc
      | some o =>
        rw [ho] at hc
        have hdo : o.dst = d := by
          dsimp only at hc
          split at hc
          · split at hc
            · cases hc
            · cases hc; rfl
            · split at hc
              · cases hc
              · split at hc
                · cases hc; rfl
                · cases hc
          · cases hc
        have hmem : o ∈ ops.toList := by
          have := Array.mem_of_getElem? ho
          simpa using this
        exact hj (mem_dstsC hmem (by rw [hdo, hd]))
    cases c with
    | no => exact h
    | rd =>
      obtain ⟨v, h1, h2, h3⟩ := h
      exact ⟨v, h1, h2, hF _ (hput v) h3⟩
    | al =>
      obtain ⟨o, g, h1, h2⟩ := h
      exact ⟨o, g, h1, fun b hb => hF _ (hput _) (h2 b hb)⟩
    | ef =>
      refine Sem.exH_mono (fun y H1 hy => nextP.mono (fun v H' hv => ⟨hv.1, hF _ (hput v) hv.2⟩) hy) _ _ h
theorem runC_keep {K : CEnv → PHeap → Prop} : ∀ (l : List Nat) {s : RState} {e0 : CEnv}, (∀ j, j ∉ dstsC ops.toList → s.e j = e0 j) → runC P n ops ord K l s → runC P n ops ord (fun e1 H1 => K e1 H1 ∧ ∀ j, j ∉ dstsC ops.toList → e1 j = e0 j) l s
  | [], _, _, h0, h => ⟨h, h0⟩
  | _ :: l, _, _, h0, h => stepC_keep h fun _ hk h' => runC_keep l (fun j hj => (hk j hj).trans (h0 j hj)) h'

theorem lift_rel {e e' : CEnv} (h : e.sub e') (H : PHeap) : SRel P ⟨NEnv.lift e, H, [], [], []⟩ ⟨e', H, [], []⟩ := by
  refine ⟨⟨fun j x hx => ?_, fun j x g b hx hg => ?_⟩, ⟨rfl, fun q hq => (by cases hq), rfl⟩⟩
  · simp only [NEnv.lift] at hx
    cases he : e j with
    | none => rw [he] at hx; cases hx
    | some v =>
      rw [he] at hx
      cases hx
      exact h j v he
  · simp only [NEnv.lift] at hx
    cases he : e j with
    | none => rw [he] at hx; cases hx
    | some v =>
      rw [he] at hx
      cases hx
      cases hg
theorem strip_sub {s : NState} {sc : RState} (h : SRel P s sc) : s.e.strip.sub sc.e := by
  intro j v hv
  unfold NEnv.strip at hv
  split at hv
  · rename_i u lit hx
    cases hv
    exact h.e.ent j _ hx
  · cases hv

theorem mem_dedupN {l seen : List Nat} {a : Nat} (h : a ∈ l) (hs : a ∉ seen) : a ∈ dedupN l seen := by
  induction l generalizing seen with
  | nil => cases h
  | cons b l ih =>
    unfold dedupN
    cases hb : hasNat seen b with
    | true =>
      have : b ∈ seen := hasNat_spec.1 hb
      rcases List.mem_cons.1 h with rfl | h
      · exact absurd this hs
      · exact ih h hs
    | false =>
      by_cases hab : a = b
      · subst hab; exact List.mem_cons_self ..
      · rcases List.mem_cons.1 h with h | h
        · exact absurd h hab
        · exact List.mem_cons_of_mem _ (ih h (by simp [hab, hs]))
theorem mem_of_dedupN {l seen : List Nat} {a : Nat} (h : a ∈ dedupN l seen) : a ∈ l := by
  induction l generalizing seen with
  | nil => exact h
  | cons b l ih =>
    unfold dedupN at h
    split at h
    · exact List.mem_cons_of_mem _ (ih h)
    · rcases List.mem_cons.1 h with rfl | h
      · exact List.mem_cons_self ..
      · exact List.mem_cons_of_mem _ (ih h)
theorem mem_keepThere {e : CEnv} {l : List Nat} {a : Nat} : a ∈ keepThere e l ↔ a ∈ l ∧ (e a).isSome = true := by
  induction l with
  | nil => simp [keepThere]
  | cons b l ih =>
    unfold keepThere
    cases hb : (e b).isSome with
    | true =>
      simp only [List.mem_cons, ih]
      constructor
      · rintro (rfl | h)
        · exact ⟨.inl rfl, hb⟩
        · exact ⟨.inr h.1, h.2⟩
      · rintro ⟨rfl | h, h2⟩
        · exact .inl rfl
        · exact .inr ⟨h, h2⟩
    | false =>
      simp only [List.mem_cons, ih]
      constructor
      · rintro h; exact ⟨.inr h.1, h.2⟩
      · rintro ⟨rfl | h, h2⟩
        · rw [hb] at h2; cases h2
        · exact ⟨h, h2⟩
theorem mem_wOf {e : CEnv} {c : Code} {a : Nat} (h : a ∈ asg c) (he : (e a).isSome = true) : a ∈ wOf e c := mem_keepThere.2 ⟨mem_dedupN h (by simp), he⟩
theorem wOf_mem {e : CEnv} {c : Code} {a : Nat} (h : a ∈ wOf e c) : a ∈ asg c := mem_of_dedupN (mem_keepThere.1 h).1

theorem setW_out {e : CEnv} {ws : List Nat} {vs : List Value} {i : Nat} (h : i ∉ ws) : setW e ws vs i = e i := by
  induction ws generalizing vs with
  | nil => cases vs <;> rfl
  | cons w ws ih =>
    cases vs with
    | nil => rfl
    | cons v vs =>
      simp only [List.mem_cons, not_or] at h
      unfold setW
      rw [CEnv.put_ne (by intro e; cases e; exact h.1 rfl)]
      exact ih h.2
theorem setW_indep {e e' : CEnv} {ws : List Nat} {vs : List Value} {i : Nat} (hl : vs.length = ws.length) (h : i ∈ ws) : setW e ws vs i = setW e' ws vs i := by
  induction ws generalizing vs with
  | nil => cases h
  | cons w ws ih =>
    cases vs with
    | nil => simp at hl
    | cons v vs =>
      unfold setW
      by_cases hw : i = w
      · subst hw; rw [CEnv.put_self, CEnv.put_self]
      · rw [CEnv.put_ne (by intro e; cases e; exact hw rfl), CEnv.put_ne (by intro e; cases e; exact hw rfl)]
        exact ih (by simpa using hl) ((List.mem_cons.1 h).resolve_left hw)
theorem setW_get {e e1 : CEnv} {ws : List Nat} {i : Nat} (ht : thereW e1 ws = true) (h : i ∈ ws) : setW e ws (getW e1 ws) i = e1 i := by
  induction ws with
  | nil => cases h
  | cons w ws ih =>
    simp only [thereW, Bool.and_eq_true] at ht
    unfold getW setW
    by_cases hw : i = w
    · subst hw
      rw [CEnv.put_self]
      obtain ⟨v, hv⟩ := Option.isSome_iff_exists.1 ht.1
      rw [hv]; rfl
    · rw [CEnv.put_ne (by intro e; cases e; exact hw rfl)]
      exact ih ht.2 ((List.mem_cons.1 h).resolve_left hw)
theorem getW_len {e : CEnv} {ws : List Nat} : (getW e ws).length = ws.length := by
  induction ws with
  | nil => rfl
  | cons w ws ih => simp [getW, ih]

theorem allLike_out {z : Value} {K : Value → Prop} (h : ∀ v, K v) : allLike z K := by
  cases z <;> simp only [allLike] <;> first
    | (intro a l c; exact h _)
    | (intro a; exact h _)
theorem allLikes_out {zs : List Value} {K : List Value → Prop} (h : ∀ vs, vs.length = zs.length → K vs) : allLikes zs K := by
  induction zs generalizing K with
  | nil => exact h [] rfl
  | cons z zs ih => exact allLike_out fun v => ih fun vs hvs => h (v :: vs) (by simp [hvs])
theorem allLike_in {z v : Value} {K : Value → Prop} (hb : likeB z v = true) (h : allLike z K) : K v := by
  cases z <;> simp only [allLike] at h <;> first
    | exact h v
    | (cases v <;> first
        | (exfalso; simp [likeB] at hb; done)
        | exact h _
        | exact h _ _ _
        | (have hk : _ = _ := of_decide_eq_true hb; rw [← hk]; exact h _))
theorem fitsW_there {e : CEnv} {ws : List Nat} {zs : List Value} (h : fitsW e ws zs = true) : thereW e ws = true := by
  induction ws generalizing zs with
  | nil => rfl
  | cons w ws ih =>
    cases zs with
    | nil => cases h
    | cons z zs =>
      unfold fitsW at h
      unfold thereW
      cases he : e w with
      | none => rw [he] at h; cases h
      | some v =>
        rw [he] at h
        simp only [Bool.and_eq_true] at h
        simp [ih h.2]
theorem allLikes_in {e : CEnv} {ws : List Nat} {zs : List Value} {K : List Value → Prop} (hf : fitsW e ws zs = true) (h : allLikes zs K) : K (getW e ws) := by
  induction ws generalizing zs K with
  | nil => cases zs with
    | nil => exact h
    | cons z zs => cases hf
  | cons w ws ih =>
    cases zs with
    | nil => cases hf
    | cons z zs =>
      unfold fitsW at hf
      cases he : e w with
      | none => rw [he] at hf; cases hf
      | some v =>
        rw [he] at hf
        simp only [Bool.and_eq_true] at hf
        have h1 := allLike_in hf.1 h
        have h2 := ih hf.2 h1
        unfold getW
        rw [he]
        exact h2
theorem fits_self {e : CEnv} {ws : List Nat} (h : thereW e ws = true) : fitsW e ws (getW e ws) = true := by
  induction ws with
  | nil => rfl
  | cons w ws ih =>
    simp only [thereW, Bool.and_eq_true] at h
    obtain ⟨v, hv⟩ := Option.isSome_iff_exists.1 h.1
    unfold getW fitsW
    rw [hv]
    simp only [Option.getD_some, Bool.and_eq_true]
    refine ⟨?_, ih h.2⟩
    cases v <;> simp [likeB]
theorem there_keep {e : CEnv} {l : List Nat} : thereW e (keepThere e l) = true := by
  induction l with
  | nil => rfl
  | cons w l ih =>
    unfold keepThere
    cases h : (e w).isSome with
    | true => simp [thereW, h, ih]
    | false => exact ih
theorem sameMs_iff {ms ms1 : List Nat} {X : Prop} : sameMs ms ms1 X ↔ ms1 = ms ∧ X := by
  unfold sameMs
  split
  · simp
  · exact Iff.rfl

def fitsC (zs vs : List Value) : Prop := ∀ K : List Value → Prop, allLikes zs K → K vs
theorem fitsC_of {e : CEnv} {ws : List Nat} {zs : List Value} (h : fitsW e ws zs = true) : fitsC zs (getW e ws) := fun _ hk => allLikes_in h hk
theorem fitsC_self {e : CEnv} {ws : List Nat} (h : thereW e ws = true) : fitsC (getW e ws) (getW e ws) := fitsC_of (fits_self h)
theorem runC_imp {K K' : CEnv → PHeap → Prop} (hK : ∀ e H, K e H → K' e H) : ∀ (l : List Nat) {s : RState}, runC P n ops ord K l s → runC P n ops ord K' l s
  | [], _, h => hK _ _ h
  | _ :: l, _, h => stepC_keep h fun _ _ h' => runC_imp hK l h'

/-- What the run of code shows. -/
def NPost (c : Code) (e : CEnv) (Q : CPost) : CPost := fun x e1 ms1 H1 => (∃ e2, e2.sub e1 ∧ Q x e2 ms1 H1) ∧ ∀ i v, i ∉ asg c → e i = some v → e1 i = some v

theorem CodeP.weaken {c : Code} {e : CEnv} {ms : List Nat} {H : PHeap} {Q : CPost} (h : CodeP P n r c e ms H fun x e1 ms1 H1 => ∃ e2 : CEnv, e2.sub e1 ∧ Q x e2 ms1 H1) : CodeP P n r c e ms H Q :=
  fun a w he hd hs => wpIn_mono (h a w he hd hs) fun _ _ _ ⟨_, ms', H', a1, a2, a3, e2, hsub, hq⟩ => ⟨e2, ms', H', ⟨a1.size, fun i v hv => a1.val i v (hsub i v hv)⟩, a2, a3, hq⟩
theorem CodeP.anti {c : Code} {e e' : CEnv} {ms : List Nat} {H : PHeap} {Q : CPost} (hs' : e'.sub e) (h : CodeP P n r c e' ms H Q) : CodeP P n r c e ms H Q :=
  fun a w he hd hs => h a w ⟨he.size, fun i v hv => he.val i v (hs' i v hv)⟩ hd hs

theorem NPost.up {c : Code} {e e1 : CEnv} {Q Q' : CPost} {x : Exit} {ms : List Nat} {H : PHeap} (h : NPost c e Q x e1 ms H) (hq : ∀ e2, Q x e2 ms H → Q' x e2 ms H) : NPost c e Q' x e1 ms H :=
  ⟨let ⟨e2, a, b⟩ := h.1; ⟨e2, a, hq _ b⟩, h.2⟩
theorem NPost.asg {c d : Code} {e e0 e1 : CEnv} {Q : CPost} {x : Exit} {ms : List Nat} {H : PHeap} (h : NPost c e Q x e1 ms H) (hc : ∀ i, i ∉ Go.asg d → i ∉ Go.asg c) (he : ∀ i v, i ∉ Go.asg d → e0 i = some v → e i = some v) : NPost d e0 Q x e1 ms H :=
  ⟨h.1, fun i v hi hv => h.2 i v (hc i hi) (he i v hi hv)⟩

theorem nv_sound {tp : Bool} (htp : tp = true → r = none) : ∀ (c : Code) {e e' : CEnv} {ms : List Nat} {H : PHeap} {Q : CPost}, e.sub e' → nv P n tp c e ms H Q → CodeP P n r c e' ms H (NPost c e' Q) := by
  intro c
  induction c with
  | skip => exact fun hs h => CodeP.skip ⟨⟨_, hs, h⟩, fun _ _ _ hv => hv⟩
  | exit id => exact fun hs h => CodeP.exit ⟨⟨_, hs, h⟩, fun _ _ _ hv => hv⟩
  | ret => exact fun hs h => CodeP.ret ⟨⟨_, hs, h⟩, fun _ _ _ hv => hv⟩
  | cond x c d ihc ihd =>
    intro e e' ms H Q hs h
    unfold nv at h
    split at h
    · rename_i b hx
      refine CodeP.cond (hs.opd hx) ?_
      rcases bCase_spec h with ⟨rfl, h⟩ | ⟨rfl, h⟩
      · exact CodeP.mono (ihc hs h) fun _ _ _ _ hq => hq.asg (fun i hi => by simp only [asg, List.mem_append, not_or] at hi; exact hi.1) fun _ _ _ hv => hv
      · exact CodeP.mono (ihd hs h) fun _ _ _ _ hq => hq.asg (fun i hi => by simp only [asg, List.mem_append, not_or] at hi; exact hi.2) fun _ _ _ hv => hv
    · exact h.elim
  | block id c ih =>
    intro e e' ms H Q hs h
    refine CodeP.block (CodeP.mono (ih hs h) ?_)
    rintro x e1 ms1 H1 ⟨⟨e2, h1, h2⟩, h3⟩
    cases x with
    | exit id' =>
      simp only [blockP] at h2 ⊢
      split
      · rename_i hid; rw [if_pos hid] at h2; exact ⟨⟨e2, h1, h2⟩, h3⟩
      · rename_i hid; rw [if_neg hid] at h2; exact ⟨⟨e2, h1, h2⟩, h3⟩
    | _ => exact ⟨⟨e2, h1, h2⟩, h3⟩
  | region id ops draw =>
    intro e e' ms H Q hs h
    unfold nv at h
    have hfin : ∀ {ord : Nat → Nat → Bool}, runNs P n ops ord (fun e1 H1 => flatK e1 n [] fun e2 => Q .normal e2 ms H1) (List.range ops.size) ⟨NEnv.lift e, H, [], [], []⟩ →
        runC P n ops ord (fun e1 H1 => NPost (.region id ops draw) e' Q .normal e1 ms H1) (List.range ops.size) ⟨e', H, [], []⟩ := fun h => by
      have h1 := runNs_ok (Kc := fun e1 H1 => ∃ e2 : CEnv, e2.sub e1 ∧ Q .normal e2 ms H1) (fun s sc hr hq => let ⟨e2, k1, k2⟩ := flatK_spec hq (fun i v hi => by cases hi); ⟨e2, k1.trans (strip_sub hr), hr.m.H ▸ k2⟩) _ (lift_rel (P := P) hs H) h
      have h2 := runC_keep (e0 := e') _ (fun _ _ => rfl) h1
      refine runC_imp (fun e1 H1 hq => ⟨hq.1, fun i v hi hv => by rw [hq.2 i hi]; exact hv⟩) _ h2
    split at h
    · exact CodeP.region (hfin h)
    · rw [onlyIf_iff] at h
      obtain ⟨h1, h2⟩ := h
      simp only [Bool.and_eq_true] at h1
      exact CodeP.draw h1.1 h1.2 (hfin h2)
  | seq c d ihc ihd =>
    intro e e' ms H Q hs h
    have hl : ∀ i, i ∉ asg (.seq c d) → i ∉ asg c ∧ i ∉ asg d := fun i hi => by simpa only [asg, List.mem_append, not_or] using hi
    have hout : ∀ {x : Exit} {e1 : CEnv} {ms1 : List Nat} {H1 : PHeap} {N : CEnv → List Nat → PHeap → Prop}, x ≠ .normal → NPost c e' (thenP N Q) x e1 ms1 H1 → NPost (.seq c d) e' Q x e1 ms1 H1 := by
      intro x e1 ms1 H1 N hx hq
      refine NPost.asg (c := c) (e := e') (hq.up fun e2 h2 => ?_) (fun i hi => (hl i hi).1) fun _ _ _ hv => hv
      cases x <;> first | exact h2 | exact absurd rfl hx
    unfold nv at h
    split at h
    · refine CodeP.seq (CodeP.mono (ihc hs h) ?_)
      intro x e1 ms1 H1 hq
      cases x with
      | normal =>
        obtain ⟨⟨e2, h1, h2⟩, h3⟩ := hq
        exact CodeP.mono (ihd h1 h2) fun _ _ _ _ hq => hq.asg (fun i hi => (hl i hi).2) fun i v hi hv => h3 i v (hl i hi).1 hv
      | _ => exact hout (by simp) hq
    · rw [keepK_wOf] at h
      have h := h (fun vs H1 => ∀ e0 : CEnv, (setW e (wOf e c) vs).sub e0 → CodeP P n r d e0 ms H1 (NPost d e0 Q)) (allLikes_out fun vs _ H1 hd e0 h0 => ihd h0 hd)
      refine CodeP.seq (CodeP.mono (ihc hs h) ?_)
      intro x e1 ms1 H1 hq
      cases x with
      | normal =>
        obtain ⟨⟨e2, h1, h2⟩, h3⟩ := hq
        simp only [thenP, onlyIf_iff, sameMs_iff] at h2
        obtain ⟨h4, rfl, h5⟩ := h2
        refine CodeP.mono (h5 e1 fun i v hv => ?_) fun _ _ _ _ hq => hq.asg (fun i hi => (hl i hi).2) fun i v hi hv => h3 i v (hl i hi).1 hv
        by_cases hw : i ∈ wOf e c
        · rw [setW_get h4 hw] at hv; exact h1 i v hv
        · rw [setW_out hw] at hv
          exact h3 i v (fun hi => hw (mem_wOf hi (by rw [hv]; rfl))) (hs i v hv)
      | _ => exact hout (by simp) hq
  | loop c ih =>
    intro e e' ms H Q hs h
    unfold nv at h
    rw [keepK_wOf] at h
    obtain ⟨I, μ, h0, hB⟩ := h
    have hW : thereW e (wOf e c) = true := there_keep
    let E : { vs : List Value // fitsC (getW e (wOf e c)) vs } → CEnv := fun s i => if i ∈ wOf e c then setW e (wOf e c) s.1 i else if i ∈ asg c then none else e' i
    refine CodeP.loop E (fun s H1 => I s.1 H1) (fun s H1 => μ s.1 H1) ⟨getW e (wOf e c), fitsC_self hW⟩ ?_ h0 ?_
    · intro i v hv
      simp only [E] at hv
      split at hv
      · rename_i hw
        rw [setW_get hW hw] at hv
        exact hs i v hv
      · split at hv
        · cases hv
        · exact hv
    · intro s H1 hI
      have hb := s.2 _ hB H1 hI
      have hsub : (setW e (wOf e c) s.1).sub (E s) := by
        intro i v hv
        simp only [E]
        by_cases hw : i ∈ wOf e c
        · rw [if_pos hw]; exact hv
        · rw [if_neg hw]
          rw [setW_out hw] at hv
          rw [if_neg (fun hi => hw (mem_wOf hi (by rw [hv]; rfl)))]
          exact hs i v hv
      have hE : ∀ i v, i ∉ asg c → e' i = some v → E s i = some v := by
        intro i v hi hv
        simp only [E]
        rw [if_neg (fun hw => hi (wOf_mem hw)), if_neg hi]
        exact hv
      refine CodeP.mono (ih hsub hb) ?_
      intro x e1 ms1 H2 hq
      cases x with
      | normal =>
        obtain ⟨⟨e2, h1, h2⟩, h3⟩ := hq
        simp only [thenP, onlyIf_iff, sameMs_iff] at h2
        obtain ⟨h4, rfl, h5, h6⟩ := h2
        refine ⟨rfl, ⟨getW e2 (wOf e c), fitsC_of h4⟩, fun i v hv => ?_, h5, h6⟩
        simp only [E] at hv
        split at hv
        · rename_i hw
          rw [setW_get (fitsW_there h4) hw] at hv
          exact h1 i v hv
        · split at hv
          · cases hv
          · rename_i hw hi
            exact h3 i v hi (hE i v hi hv)
      | _ =>
        refine NPost.asg (c := c) (e := E s) (NPost.up hq fun e2 h2 => h2) (fun i hi => hi) hE
  | rangeFunc g ps assign body =>
    intro e e' ms H Q hs h
    unfold nv at h
    split at h
    · rename_i gf first cap hg
      rw [onlyIf_iff] at h
      obtain ⟨h1, h2⟩ := h
      simp only [Bool.and_eq_true] at h1
      obtain ⟨h0, h1⟩ := h1
      refine CodeP.rangeFunc (htp h0) (hs.opd hg) (entersB_spec h1) fun fn tmps d l ht hn hd hl hdl => CallP.mono (h2 fn tmps d l (fun i v hv => ht i v (hs i v hv)) hn hd hl hdl) ?_
      rintro v H2 ⟨st, pend, k1, k2, k3⟩
      refine ⟨st, pend, k1, k2, ?_⟩
      unfold jumpP at k3 ⊢
      split at k3
      · exact ⟨⟨e, hs, k3⟩, fun _ _ _ hv => hv⟩
      · exact ⟨⟨e, hs, k3⟩, fun _ _ _ hv => hv⟩
      · exact ⟨⟨e, hs, k3⟩, fun _ _ _ hv => hv⟩
      · exact k3.elim
    · exact h.elim
  | scope c ih =>
    intro e e' ms H Q hs h
    refine CodeP.scope (CodeP.mono (ih hs h) ?_)
    rintro x e1 ms1 H1 ⟨⟨e2, h1, h2⟩, h3⟩
    cases x with
    | goto l => exact h2.elim
    | _ => exact ⟨⟨e2, h1, h2⟩, h3⟩
  | label l => exact fun hs h => CodeP.label ⟨⟨_, hs, h⟩, fun _ _ _ hv => hv⟩
  | goto l => exact fun _ h => h.elim
  | refuse w => exact fun _ h => h.elim

theorem CodeP.of_nv {tp : Bool} {c : Code} {e : CEnv} {ms : List Nat} {H : PHeap} {Q : CPost} (htp : tp = true → r = none) (h : nv P n tp c e ms H Q) : CodeP P n r c e ms H Q :=
  CodeP.weaken (CodeP.mono (nv_sound htp c (fun _ _ hv => hv) h) fun _ _ _ _ hq => hq.1)

def resOne (ρ : Nat → Value) : ResultVar → Sem Value
  | .tmp t => pure (ρ t)
  | .cell a t => do loadVar t (← asAddr (ρ a))
theorem resVals_there {e : CEnv} : ∀ {l : List ResultVar} {vs : List Value}, resVals e l = some vs → ∀ y ∈ l, (e y.at).isSome = true
  | [], _, _, _, hy => by cases hy
  | .tmp t :: l, vs, h, y, hy => by
    simp only [resVals] at h
    split at h
    · rename_i v us h1 h2
      rcases List.mem_cons.1 hy with rfl | hy
      · simp [ResultVar.at, h1]
      · exact resVals_there h2 y hy
    · cases h
  | .cell _ _ :: _, _, h, _, _ => by cases h
theorem resVals_spec {e : CEnv} {f : ResultVar → Sem Value} (hf : ∀ x, f x = resOne (fun t => (e t).getD undef) x) {H : PHeap} : ∀ {l : List ResultVar} {vs : List Value}, resVals e l = some vs → (l.mapM f).rdH P H = some vs
  | [], vs, h => by
    simp only [resVals, Option.some.injEq] at h
    subst h
    rfl
  | .tmp t :: l, vs, h => by
    simp only [resVals] at h
    split at h
    · rename_i v us h1 h2
      cases h
      have ih := resVals_spec hf (H := H) h2
      rw [List.mapM_cons, hf]
      simp only [rdH_bind, resOne, rdH_pure, Option.bind_some, h1, Option.getD_some, ih]
    · cases h
  | .cell _ _ :: _, _, h => by cases h
theorem resSem_spec {fn : Func} {e : CEnv} {vs : List Value} (h : resVals e fn.results.toList = some vs) {H : PHeap} :
    (resSem fn fun t => (e t).getD undef).rdH P H = some (if h : vs.toArray.size = 1 then vs.toArray[0] else .tuple vs.toArray) := by
  unfold resSem
  rw [Array.mapM_eq_mapM_toList]
  simp only [rdH_bind, rdH_map]
  rw [resVals_spec (e := e) (fun x => by cases x <;> rfl) h]
  rfl

theorem endN_spec {fn : Func} {K : Value → PHeap → Prop} {e : CEnv} {ms : List Nat} {H : PHeap} (h : endN P fn K e ms H) :
    (∀ y ∈ fn.results, (e y.at).isSome = true) ∧ (∀ d ∈ ms, ∃ x, H d = some (.deferred (some x)) ∧ x = []) ∧ ms.Nodup ∧
      ∃ v, (resSem fn fun t => (e t).getD undef).rdH P (H.drop ms) = some v ∧ K v (H.drop ms) := by
  have hd : PHeap.drop H [] = H := by funext i; simp [PHeap.drop]
  unfold endN at h
  split at h
  · rename_i v hv
    refine ⟨fun y hy => resVals_there hv y (by simpa using hy), by simp, by simp, v, ?_, by rw [hd]; exact h⟩
    rw [resSem_spec hv]; rfl
  · rename_i vs hne hv
    refine ⟨fun y hy => resVals_there hv y (by simpa using hy), by simp, by simp, .tuple vs.toArray, ?_, by rw [hd]; exact h⟩
    rw [resSem_spec hv]
    rw [dif_neg]
    intro h1
    match vs, h1, hne with
    | [v], _, hne => exact hne v rfl
  · exact h

theorem CallP.of_nv {f : FuncId} {args : Array Value} {H : PHeap} {K : Value → PHeap → Prop} (h : callN P f args H K) : CallP P f args H K := by
  unfold callN at h
  split at h
  · rename_i fn hf
    split at h
    · rename_i c hb
      rw [onlyIf_iff] at h
      refine CallP.of_code hf hb (Nat.le_of_ble_eq_true h.1) (CodeP.mono (CodeP.of_nv (fun _ => rfl) h.2) ?_)
      intro x e1 ms1 H1 hq
      cases x with
      | normal => exact ⟨.inl rfl, endN_spec hq⟩
      | ret => exact ⟨.inr rfl, endN_spec hq⟩
      | _ => exact hq.elim
    · exact h.elim
  · exact h.elim

theorem RoundP.of_nv {l : Nat} {fn : FuncId} {tmps0 tmps : Array Value} {ps : Array Tmp} {assign body : Code} {d : Nat} {pend : Option Code} {K : Value → PHeap → Prop} {e : CEnv} {H : PHeap}
    (hl : H l = some (loopObj fn tmps0 ps assign body d .ready pend)) (he : ∀ i v, e i = some v → tmps[i]?.getD undef = v) (hn : tmps.size = n)
    (h : roundN P n l fn tmps0 ps assign body d pend e H K) : RoundP P l fn tmps assign body H K := by
  refine RoundP.of_code hl he hn (CodeP.mono (CodeP.of_nv (fun hq => by cases hq) h) ?_)
  rintro x e1 ms1 H1 ⟨h1, h2, h3, h4⟩
  exact ⟨h1, h2, h3, CodeP.of_nv (fun hq => by cases hq) h4⟩
end
end Go
