/- What a region's formula says stands for the region: each operation. -/
import Derived.Test.YtbhggmghelmnhaaClNice
import Derived.Laws.Cells
import Derived.Laws.StructEq
import Derived.IntWalk
namespace Go
section
variable {P : Program} {H : PHeap}

/-! ### Readers, step by step -/
@[simp] theorem rdH_pure {α : Type} (a : α) : (Pure.pure a : Sem α).rdH P H = some a := rfl
theorem rdH_bind {α β : Type} (f : α → Sem β) : ∀ (s : Sem α), (s >>= f).rdH P H = (s.rdH P H).bind fun a => (f a).rdH P H := by
  intro s
  show (s.bind f).rdH P H = _
  induction s with
  | pure a => rfl
  | load m a k ih => simp only [Sem.bind, Sem.rdH]; cases H.cell? a with | none => rfl | some v => exact ih v
  | shape r k ih => simp only [Sem.bind, Sem.rdH]; cases H r with | none => rfl | some v => exact ih _
  | frozen a k ih => simp only [Sem.bind, Sem.rdH]; cases H a.block with | none => rfl | some v => exact ih _
  | getObj r k ih =>
    simp only [Sem.bind, Sem.rdH]
    cases H r with
    | none => rfl
    | some v =>
      dsimp only
      by_cases h : v.isRow = true
      · rw [if_pos h, if_pos h]; rfl
      · rw [if_neg h, if_neg h]; exact ih _
  | program k ih => exact ih P
  | mark m k ih => exact ih
  | store => rfl
  | new => rfl
  | freeze => rfl
  | setObj => rfl
  | choose => rfl
  | sys => rfl
  | halt => rfl
theorem rdH_underlying {t : TypeId} {d : TypeDesc} (h : P.underlying t = some d) : (underlying t).rdH P H = some d := by
  unfold underlying
  simp only [rdH_bind]
  show (Option.bind (some P) _) = _
  simp [h]
theorem rdH_typeInfo {t : TypeId} {i : TypeInfo} (h : P.info? t = some i) : (typeInfo t).rdH P H = some i := by
  unfold typeInfo
  simp only [rdH_bind]
  show (Option.bind (some P) _) = _
  simp [h]
theorem rdH_sizeOf {t : TypeId} {i : TypeInfo} (h : P.info? t = some i) : (sizeOf t).rdH P H = some i.size := by
  unfold sizeOf
  simp only [rdH_bind, rdH_typeInfo h]
  rfl
theorem rdH_isAgg {t : TypeId} {b : Bool} (h : isAggT P t = some b) : (isAgg t).rdH P H = some b := by
  unfold isAggT at h
  cases hd : P.underlying t with
  | none => rw [hd] at h; cases h
  | some d =>
    rw [hd] at h
    unfold isAgg
    simp only [rdH_bind, rdH_underlying hd, Option.bind_some]
    cases d <;> simp_all

theorem rdH_loadCellsFrom (p : Addr) : ∀ (n i : Nat) (acc : Array Value) (cs : List Value), cs.length = n → (∀ j v, cs[j]? = some v → H.cell? (p.add (i + j)) = some v) →
    (loadCellsFrom p i n acc).rdH P H = some (acc ++ cs.toArray)
  | 0, i, acc, cs, hl, _ => by
    have : cs = [] := List.eq_nil_of_length_eq_zero hl
    subst this
    simp [loadCellsFrom]
  | n + 1, i, acc, cs, hl, h => by
    cases cs with
    | nil => simp at hl
    | cons c cs =>
      unfold loadCellsFrom
      have h0 := h 0 c rfl
      simp only [Nat.add_zero] at h0
      simp only [rdH_bind]
      have hld : (load (p.add i)).rdH P H = some c := by simp [load, Sem.rdH, h0]
      rw [hld]
      simp only [Option.bind_some]
      rw [rdH_loadCellsFrom p n (i + 1) (acc.push c) cs (by simpa using hl) fun j v hj => by
        have := h (j + 1) v (by simpa using hj)
        rw [show i + 1 + j = i + (j + 1) from by omega]; exact this]
      simp

theorem rdH_loadVar {t : TypeId} {a v : Value} (h : ldAt P H t a v) : (Instr.loadAt t a).rdH P H = some v := by
  unfold ldAt at h
  split at h
  · rename_i p cs hagg
    have hq := h
    rw [onlyIf_iff] at hq
    obtain ⟨hsi, hhas⟩ := hq
    simp only [Bool.and_eq_true] at hsi
    have hsz := Nat.eq_of_beq_eq_true hsi.1
    have hi := hsi.2
    obtain ⟨i, hi⟩ := Option.isSome_iff_exists.1 hi
    unfold Instr.loadAt Instr.sureAddr loadVar
    simp only [rdH_bind, rdH_pure, Option.bind_some, rdH_isAgg hagg, if_true, rdH_sizeOf hi]
    have hc : P.cellsOf t = i.size := by unfold Program.cellsOf; rw [hi]; rfl
    have := rdH_loadCellsFrom (P := P) (H := H) p i.size 0 #[] cs.toList (by simp [hsz, hc]) (by simpa [PHeap.has] using hhas)
    unfold loadCells
    rw [this]
    simp
  · rename_i hagg
    have hc := h
    unfold Instr.loadAt Instr.sureAddr loadVar
    simp only [rdH_bind, rdH_pure, Option.bind_some, rdH_isAgg hagg]
    simp [load, Sem.rdH, hc]
  · exact h.elim

/-! ### The operations that need no memory -/
theorem totN_of {s : Sem Next} {v : Value} {K : Value → Prop} (h : s.rdH P .empty = some (.value v)) (hk : K v) : totN P s K := by
  unfold totN; rw [h]; exact hk
theorem totN_out {s : Sem Next} {K : Value → Prop} (h : totN P s K) : ∃ v, s.rdH P .empty = some (.value v) ∧ K v := by
  unfold totN at h
  split at h
  · rename_i v hv; exact ⟨v, hv, h⟩
  · exact h.elim
theorem rdH_value {s : Sem Value} {v : Value} (h : s.rdH P H = some v) : (do pure (.value (← s)) : Sem Next).rdH P H = some (.value v) := by
  rw [rdH_bind, h]; rfl

theorem idxN_tot {t : TypeId} {x ix : Value} {K : Value → Prop} (h : idxN P t x ix K) : totN P (do pure (.value (← Instr.indexAt t x ix))) K := by
  unfold idxN at h
  split at h
  · rename_i elem a l c k n hu
    cases hi : P.info? elem with
    | none => rw [hi] at h; exact h.elim
    | some e =>
      rw [hi] at h
      obtain ⟨p, rfl, h0, h1, hk⟩ := h
      refine totN_of (rdH_value ?_) hk
      unfold Instr.indexAt
      simp only [rdH_bind, asIntOf, rdH_pure, Option.bind_some, rdH_underlying hu]
      rw [if_pos ⟨h0, h1⟩]
      simp only [rdH_bind, rdH_sizeOf hi, rdH_pure, Option.bind_some]
  · rename_i len elem a k n hu
    cases hi : P.info? elem with
    | none => rw [hi] at h; exact h.elim
    | some e =>
      rw [hi] at h
      obtain ⟨p, rfl, h0, h1, hk⟩ := h
      refine totN_of (rdH_value ?_) hk
      unfold Instr.indexAt
      simp only [rdH_bind, asIntOf, rdH_pure, Option.bind_some, rdH_underlying hu, Instr.sureAddr]
      rw [if_pos ⟨h0, h1⟩]
      simp only [rdH_bind, rdH_sizeOf hi, rdH_pure, Option.bind_some]
  · exact h.elim

theorem rdH_sliceBound {k : IntKind} {i : Int} {y : Nat} {code : BoundsCode} (h0 : 0 ≤ i) (h1 : i ≤ y) : (Instr.sliceBound (.int k i) y code).rdH P H = some i.toNat := by
  unfold Instr.sliceBound
  simp only [rdH_bind, asIntOf, rdH_pure, Option.bind_some]
  rw [if_pos ⟨h0, h1⟩]; rfl

theorem map_addO {a : Option Addr} {k : Nat} : Option.map (fun x => x.add k) a = addO a k := by cases a <;> rfl
theorem slN_tot {t : TypeId} {x : Value} {lo hi mx : Option Value} {K : Value → Prop} (h : slN P t x lo hi mx K) : totN P (do pure (.value (← Instr.sliceAt t x lo hi mx))) K := by
  unfold slN at h
  split at h
  · rename_i elem a len cap l hu hl
    cases hh : bndN len hi with
    | none => rw [hh] at h; exact h.elim
    | some hv =>
      cases hinfo : P.info? elem with
      | none => rw [hh, hinfo] at h; exact h.elim
      | some e =>
        rw [hh, hinfo] at h
        obtain ⟨h0, h1, h2, hk⟩ := h
        refine totN_of (rdH_value ?_) hk
        unfold Instr.sliceAt Instr.slice Instr.sliceBounds
        cases hi with
        | none =>
          simp only [bndN, Option.some.injEq] at hh
          subst hh
          cases lo with
          | none =>
            simp only [bndN, Option.some.injEq] at hl; subst hl
            simp only [rdH_bind, rdH_pure, Option.bind_some, rdH_underlying hu, rdH_sizeOf hinfo, map_addO, Int.toNat_natCast]
            try rfl
          | some v =>
            cases v <;> simp only [bndN, Option.some.injEq, reduceCtorEq] at hl
            subst hl
            simp only [rdH_bind, rdH_pure, Option.bind_some, rdH_underlying hu, rdH_sizeOf hinfo, map_addO, Option.isSome_none, Bool.false_eq_true, if_false, rdH_sliceBound h0 h1, Int.toNat_natCast]
        | some v =>
          cases v <;> simp only [bndN, Option.some.injEq, reduceCtorEq] at hh
          subst hh
          have hcast : (l : Int) ≤ ((Int.toNat _ : Nat) : Int) := Int.le_trans h1 (Int.self_le_toNat _)
          cases lo with
          | none =>
            simp only [bndN, Option.some.injEq] at hl; subst hl
            simp only [rdH_bind, rdH_pure, Option.bind_some, rdH_underlying hu, rdH_sizeOf hinfo, map_addO, Option.isSome_none, Bool.false_eq_true, if_false, if_true, rdH_sliceBound (Int.le_trans h0 h1) h2, Int.toNat_zero]
            rfl
          | some v =>
            cases v <;> simp only [bndN, Option.some.injEq, reduceCtorEq] at hl
            subst hl
            simp only [rdH_bind, rdH_pure, Option.bind_some, rdH_underlying hu, rdH_sizeOf hinfo, map_addO, Option.isSome_none, Bool.false_eq_true, if_false, if_true, rdH_sliceBound (Int.le_trans h0 h1) h2, rdH_sliceBound h0 hcast]
  · rename_i elem a len cap l k m hu hl
    cases hinfo : P.info? elem with
    | none => rw [hinfo] at h; split at h <;> simp_all
    | some e =>
      rw [hinfo] at h
      split at h
      · rename_i kh hv e' heq
        cases heq
        obtain ⟨h0, h1, h2, h3, hk⟩ := h
        refine totN_of (rdH_value ?_) hk
        unfold Instr.sliceAt Instr.slice Instr.sliceBounds
        have hc1 : hv ≤ ((m.toNat : Nat) : Int) := by omega
        have hc2 : l ≤ ((hv.toNat : Nat) : Int) := by omega
        cases lo with
        | none =>
          simp only [bndN, Option.some.injEq] at hl; subst hl
          simp only [rdH_bind, rdH_pure, Option.bind_some, rdH_underlying hu, rdH_sizeOf hinfo, map_addO, if_true, rdH_sliceBound (show (0 : Int) ≤ m from by omega) h3, rdH_sliceBound (show (0 : Int) ≤ hv from by omega) hc1, Int.toNat_zero]
          rfl
        | some v =>
          cases v <;> simp only [bndN, Option.some.injEq, reduceCtorEq] at hl
          subst hl
          simp only [rdH_bind, rdH_pure, Option.bind_some, rdH_underlying hu, rdH_sizeOf hinfo, map_addO, Option.isSome_some, if_true, rdH_sliceBound (show (0 : Int) ≤ m from by omega) h3, rdH_sliceBound (show (0 : Int) ≤ hv from by omega) hc1, rdH_sliceBound h0 hc2]
      · exact h.elim
  · exact h.elim

def plainPair : Value → Value → Bool
  | .nilIface, .nilIface => false
  | .agg _, .agg _ => false
  | _, _ => true
theorem rdH_eqGuard_other {op : BinOp} {t : TypeId} {x y : Operand} {a b : Value} (h : plainPair a b = true) : (eqGuard op t x y a b).rdH P H = some () := by
  unfold eqGuard
  cases op <;> first
    | rfl
    | (rw [if_neg (by decide)]
       split
       · simp [plainPair] at h
       · simp [plainPair] at h
       · rfl)

theorem divN_tot {op : BinOp} {t : TypeId} {x y : Operand} {a b : Value} {K : Value → Prop} (h : divN op a b K) : totN P (do pure (.value (← (do eqGuard op t x y a b; binOp op t a b)))) K := by
  unfold divN at h
  split at h
  · rename_i k n k' m
    obtain ⟨rfl, hm, h⟩ := h
    cases op <;> first
      | exact h.elim
      | (refine totN_of (rdH_value ?_) h
         simp only [rdH_bind]
         rw [rdH_eqGuard_other rfl]
         simp [binOp, Op.intDiv, hm])
  · exact h.elim
theorem shN_tot {op : BinOp} {t : TypeId} {x y : Operand} {a b : Value} {K : Value → Prop} (h : shN op a b K) : totN P (do pure (.value (← (do eqGuard op t x y a b; binOp op t a b)))) K := by
  unfold shN at h
  split at h
  · rename_i k n k' m
    obtain ⟨hm, h⟩ := h
    have hm' : ¬ m < 0 := by omega
    cases op <;> first
      | exact h.elim
      | (refine totN_of (rdH_value ?_) h
         simp only [rdH_bind]
         rw [rdH_eqGuard_other rfl]
         simp [binOp, Op.shift, hm'])
  · exact h.elim

theorem rdH_equalIn_scalar {d : Nat} {t : TypeId} {dd : TypeDesc} {x y : Value} {b : Bool} (hu : P.underlying t = some dd) (hx : kindScalar dd x = true) (hy : kindScalar dd y = true) (h : eqScalar x y = some b) :
    (Op.equalIn (d + 1) t x y).rdH P H = some b := by
  unfold Op.equalIn
  simp only [rdH_bind, rdH_underlying hu, Option.bind_some]
  cases dd <;> cases x <;> simp [kindScalar] at hx <;> cases y <;> simp [kindScalar] at hy <;> simp only [eqScalar, Option.some.injEq] at h
  · subst h; rfl
  · rename_i k j n j' m
    cases hj : decide (j = j') with
    | false => rw [hj] at h; cases h
    | true =>
      rw [hj] at h
      have hjj : j = j' := by simpa using hj
      subst hjj
      simp only [cond_true, Option.some.injEq] at h
      subst h
      simp
  · subst h; rfl

theorem rdH_part_scalar {t : TypeId} {dd : TypeDesc} {cs : Array Value} {n : Nat} {v : Value} (hu : P.underlying t = some dd) (hx : kindScalar dd v = true) (hc : cs[n]? = some v) : (part t cs n).rdH P H = some v := by
  unfold part
  have hagg : isAggT P t = some false := by unfold isAggT; rw [hu]; cases dd <;> simp [kindScalar] at hx <;> rfl
  simp only [rdH_bind, rdH_isAgg hagg, Option.bind_some, Bool.false_eq_true, if_false, hc]
  rfl

theorem rdH_ite {α : Type} {c : Prop} [Decidable c] {s u : Sem α} : (if c then s else u).rdH P H = if c then s.rdH P H else u.rdH P H := by split <;> rfl
theorem rdH_program : program.rdH P H = some P := rfl

theorem rdH_equalIn_struct {d : Nat} {t : TypeId} {xs ys : Array Value} {fs : Array Field} (ht : P.underlying t = some (.struct fs)) (hp : P.stoodInHeld t = false) :
    (Op.equalIn (d + 1) t (.agg xs) (.agg ys)).rdH P H = (Op.eqFields d xs ys fs.toList).rdH P H := by
  simp only [Op.equalIn, rdH_bind, rdH_underlying ht, Option.bind_some, rdH_program, hp, Bool.false_eq_true, if_false]
  rw [← Array.forIn_toList]
  generalize fs.toList = l
  clear ht
  induction l with
  | nil => simp [Op.eqFields]
  | cons f l ih =>
    simp only [List.forIn_cons, Op.eqFields, rdH_bind, rdH_ite]
    split
    · cases (part f.type xs f.offset).rdH P H with
      | none => rfl
      | some a =>
        simp only [Option.bind_some]
        cases (part f.type ys f.offset).rdH P H with
        | none => rfl
        | some b =>
          simp only [Option.bind_some]
          cases (Op.equalIn d f.type a b).rdH P H with
          | none => rfl
          | some r =>
            cases r
            · simp
            · simp only [Option.bind_some, Bool.not_true, Bool.false_eq_true, if_false, rdH_pure]
              exact ih
    · simp only [rdH_pure, Option.bind_some]
      exact ih

theorem rdH_eqFields {d : Nat} {xs ys : Array Value} : ∀ (fs : List Field) (n : Nat) (b : Bool), plainFields P fs n (xs.toList.drop n) = true → plainFields P fs n (ys.toList.drop n) = true →
    eqCells (xs.toList.drop n) (ys.toList.drop n) = some b → (Op.eqFields (d + 1) xs ys fs).rdH P H = some b
  | [], n, b, hx, hy, he => by
    have e1 : xs.toList.drop n = [] := by cases hq : xs.toList.drop n with | nil => rfl | cons v vs => rw [hq] at hx; simp [plainFields] at hx
    have e2 : ys.toList.drop n = [] := by cases hq : ys.toList.drop n with | nil => rfl | cons v vs => rw [hq] at hy; simp [plainFields] at hy
    rw [e1, e2] at he
    simp only [eqCells, Option.some.injEq] at he
    subst he
    rfl
  | f :: fs, n, b, hx, hy, he => by
    cases hqx : xs.toList.drop n with
    | nil => rw [hqx] at hx; simp [plainFields] at hx
    | cons v vs =>
      cases hqy : ys.toList.drop n with
      | nil => rw [hqy] at hy; simp [plainFields] at hy
      | cons u us =>
        have hdx : xs.toList.drop (n + 1) = vs := by rw [← List.drop_drop, hqx]; rfl
        have hdy : ys.toList.drop (n + 1) = us := by rw [← List.drop_drop, hqy]; rfl
        have hvx : xs[n]? = some v := by
          have := congrArg (fun l : List Value => l[0]?) hqx
          simpa using this
        have hvy : ys[n]? = some u := by
          have := congrArg (fun l : List Value => l[0]?) hqy
          simpa using this
        rw [hqx] at hx he
        rw [hqy] at hy he
        simp only [plainFields, Bool.and_eq_true] at hx hy
        obtain ⟨⟨⟨hx1, hx2⟩, hx3⟩, hx4⟩ := hx
        obtain ⟨⟨⟨_, _⟩, hy3⟩, hy4⟩ := hy
        have hoff : f.offset = n := Nat.eq_of_beq_eq_true hx1
        cases hu : P.underlying f.type with
        | none => rw [hu] at hx3; cases hx3
        | some dd =>
          rw [hu] at hx3 hy3
          simp only [eqCells] at he
          cases hs : eqScalar v u with
          | none => rw [hs] at he; cases he
          | some b1 =>
            cases hr : eqCells vs us with
            | none => rw [hs, hr] at he; cases he
            | some b2 =>
              rw [hs, hr] at he
              simp only [Option.some.injEq] at he
              subst he
              have hname : f.name ≠ "_" := by simpa using hx2
              simp only [Op.eqFields]
              rw [if_pos hname]
              simp only [rdH_bind, hoff, rdH_part_scalar hu hx3 hvx, rdH_part_scalar hu hy3 hvy, Option.bind_some, rdH_equalIn_scalar hu hx3 hy3 hs]
              cases b1
              · simp
              · simp only [Bool.not_true, Bool.false_eq_true, if_false, Bool.true_and]
                exact rdH_eqFields fs (n + 1) b2 (by rw [hdx]; exact hx4) (by rw [hdy]; exact hy4) (by rw [hdx, hdy]; exact hr)

theorem rdH_map {α β : Type} (f : α → β) (s : Sem α) : (f <$> s).rdH P H = (s.rdH P H).map f := by
  rw [map_eq_pure_bind, rdH_bind]
  cases s.rdH P H <;> rfl

theorem eqN_tot {neg : Bool} {t : TypeId} {x y : Operand} {a b : Value} {tot : Prop} {K : Value → Prop} (h : eqN P neg t a b tot K) :
    totN P (do pure (.value (← (do eqGuard (if neg then .neq else .eql) t x y a b; binOp (if neg then .neq else .eql) t a b)))) K ∨ tot := by
  unfold eqN at h
  split at h
  · rename_i a
    split at h
    · rename_i e hu
      refine .inl (totN_of (rdH_value ?_) h)
      simp only [rdH_bind]
      rw [rdH_eqGuard_other rfl]
      have he : (Op.equal t (.pointer a) (.pointer none)).rdH P .empty = some a.isNone := by
        unfold Op.equal Op.maxDepth Op.equalIn
        simp only [rdH_bind, rdH_underlying hu, Option.bind_some]
        cases a <;> rfl
      cases neg <;> simp [binOp, rdH_map, he]
    · exact h.elim
  · rename_i a l c l' c'
    split at h
    · rename_i e hu
      refine .inl (totN_of (rdH_value ?_) h)
      simp only [rdH_bind]
      rw [rdH_eqGuard_other rfl]
      have he : (Op.equal t (.slice a l c) (.slice none l' c')).rdH P .empty = some a.isNone := by
        unfold Op.equal Op.maxDepth Op.equalIn
        simp only [rdH_bind, rdH_underlying hu, Option.bind_some]
        cases a <;> rfl
      cases neg <;> simp [binOp, rdH_map, he]
    · exact h.elim
  · rename_i a
    split at h
    · rename_i k e hu
      refine .inl (totN_of (rdH_value ?_) h)
      simp only [rdH_bind]
      rw [rdH_eqGuard_other rfl]
      have he : (Op.equal t (.map a) (.map none)).rdH P .empty = some a.isNone := by
        unfold Op.equal Op.maxDepth Op.equalIn
        simp only [rdH_bind, rdH_underlying hu, Option.bind_some]
        cases a <;> rfl
      cases neg <;> simp [binOp, rdH_map, he]
    · exact h.elim
  · rename_i xs ys
    split at h
    · rename_i fs hu
      rw [onlyIf_iff] at h
      obtain ⟨hc, h⟩ := h
      simp only [Bool.and_eq_true, Bool.not_eq_true'] at hc
      obtain ⟨⟨⟨c1, c2⟩, c3⟩, c4⟩ := hc
      split at h
      · rename_i r hr
        refine .inl (totN_of (rdH_value ?_) h)
        have hg : (eqGuard (if neg = true then BinOp.neq else BinOp.eql) t x y (.agg xs) (.agg ys)).rdH P .empty = some () := by
          cases neg <;> simp [eqGuard, rdH_bind, rdH_program, c4]
        have he : (Op.equal t (.agg xs) (.agg ys)).rdH P .empty = some r := by
          unfold Op.equal Op.maxDepth
          rw [rdH_equalIn_struct hu c3]
          exact rdH_eqFields fs.toList 0 r (by simpa using c1) (by simpa using c2) (by simpa using hr)
        simp only [rdH_bind, hg, Option.bind_some]
        cases neg <;> simp [binOp, rdH_map, he]
      · exact h.elim
    · exact h.elim
  · exact .inr h

/-! ### A store -/
theorem exH_storeCells {p : Addr} {elem : TypeId} {lo hi : Nat} (hsp : p.spot = none) : ∀ (vs : List Value) (i : Nat) (H : PHeap) (c : Array Value) (Q : Unit → PHeap → Prop), H p.block = some (.cells c elem (lo, hi)) →
    p.off + i + vs.length ≤ c.size → (hi ≤ p.off + i ∨ p.off + i + vs.length ≤ lo ∨ hi ≤ lo) → singles vs = true → Q () (H.put p.block (.cells (writeAt c (p.off + i) vs) elem (lo, hi))) → (storeCells p vs i).exH P H Q
  | [], i, H, c, Q, hH, _, _, _, hq => by
    have : H.put p.block (.cells (writeAt c (p.off + i) []) elem (lo, hi)) = H := by
      funext b
      unfold PHeap.put
      by_cases hb : b = p.block
      · rw [if_pos hb, hb, hH]; rfl
      · rw [if_neg hb]
    rw [this] at hq
    exact hq
  | v :: vs, i, H, c, Q, hH, hl, hfr, hs, hq => by
    simp only [singles, Bool.and_eq_true] at hs
    simp only [List.length_cons] at hl hfr
    have hadd : p.add i = ⟨p.block, p.off + i, none⟩ := by
      unfold Addr.add
      by_cases h0 : i = 0
      · subst h0; rw [if_pos rfl]; cases p; simp_all
      · rw [if_neg h0]
    have hlt : p.off + i < c.size := by omega
    refine Sem.exH_bind _ _ _ ?_
    show v.single = true ∧ (H.cell? (p.add i)).isSome = true ∧ H.frozen? (p.add i) = false ∧ _
    refine ⟨hs.1, ?_, ?_, ?_⟩
    · rw [hadd]; simp [PHeap.cell?, hH, hlt]
    · rw [hadd]; simp only [PHeap.frozen?, hH]
      simp only [Bool.and_eq_false_iff, decide_eq_false_iff_not]
      omega
    · have hset : H.setCell (p.add i) v = H.put p.block (.cells (c.setIfInBounds (p.off + i) v) elem (lo, hi)) := by
        rw [hadd]
        funext b
        unfold PHeap.setCell PHeap.put
        by_cases hb : b = p.block
        · subst hb; simp [hH, PHeap.setObj]
        · simp [hb]
      rw [hset]
      show (storeCells p vs (i + 1)).exH P _ Q
      refine exH_storeCells hsp vs (i + 1) _ (c.setIfInBounds (p.off + i) v) Q (PHeap.put_same _ _ _) (by simp; omega) (by omega) hs.2 ?_
      have hput : ∀ (o o' : Obj), (H.put p.block o).put p.block o' = H.put p.block o' := by
        intro o o'; funext b; unfold PHeap.put; by_cases hb : b = p.block <;> simp [hb]
      rw [hput, show p.off + (i + 1) = p.off + i + 1 from by omega]
      exact hq

theorem stN_exH {H : PHeap} {t : TypeId} {a v : Value} {K : PHeap → Prop} {Q : Unit → PHeap → Prop} (h : stN P H t a v K) (hq : ∀ H', K H' → Q () H') : (Instr.storeAt t a v).exH P H Q := by
  unfold stN at h
  split at h
  · rw [onlyIf_iff] at h
    obtain ⟨hc, H', ⟨c, elem, lo, hi, h1, h2, h3, h4, rfl⟩, hk⟩ := h
    simp only [Bool.and_eq_true] at hc
    cases hi' : P.info? t with
    | none => rw [hi'] at hc; cases hc.1
    | some i =>
      rw [hi'] at hc
      have hsz : v.cells.size = i.size := Nat.eq_of_beq_eq_true hc.1
      unfold Instr.storeAt Instr.sureAddr storeVar
      show (Sem.bind _ _ : Sem Unit).exH P H Q
      refine Sem.exH_bind _ _ _ ?_
      show (Sem.bind _ _ : Sem Unit).exH P H Q
      refine Sem.exH_bind _ _ _ (Sem.rdH_exH _ (rdH_sizeOf hi') ?_)
      rw [if_neg (by simp [hsz])]
      refine exH_storeCells h2 _ 0 H c Q h1 (by simpa using h3) (by simpa using h4) hc.2 ?_
      exact hq _ hk
  · exact h.elim

theorem nilN_tot {x : Value} {ρ : Operand → Value} {o : Oper} {y : Operand} {tot : Prop} {K : Value → Prop} (ho : o.op = .nilCheck y) (hx : ρ y = x) (h : nilN x tot K) : totN P (execOp ρ o) K ∨ tot := by
  unfold nilN at h
  split at h
  · obtain ⟨p, rfl, h⟩ := h
    refine .inl (totN_of ?_ h)
    unfold execOp
    rw [ho]
    simp only [hx]
    rfl
  · exact .inr h
theorem fldN_tot {t : TypeId} {x : Value} {f : Nat} {K : Value → Prop} (h : fldN P t x f K) : totN P (do pure (.value (← Instr.fieldAt t x f))) K := by
  unfold fldN at h
  split at h
  · rename_i fields a hu
    cases hf : fields[f]? with
    | none => rw [hf] at h; exact h.elim
    | some fd =>
      rw [hf] at h
      dsimp only at h
      cases hi : P.info? fd.type with
      | none => rw [hi] at h; exact h.elim
      | some i =>
        rw [hi] at h
        dsimp only at h
        split at h
        · rename_i p hb
          refine totN_of (rdH_value ?_) h
          unfold Instr.fieldAt Instr.sureAddr fieldPlace
          simp only [rdH_bind, rdH_underlying hu, Option.bind_some, hf, rdH_pure, rdH_sizeOf hi]
          rw [if_neg]
          · rfl
          · intro h0; rw [h0] at hb; cases hb
        · exact h.elim
  · exact h.elim
theorem rdH_mapM {α β : Type} {f : α → Sem β} {g : α → Option β} (hf : ∀ x b, g x = some b → (f x).rdH P H = some b) : ∀ {l : List α} {bs : List β}, l.mapM g = some bs → (l.mapM f).rdH P H = some bs
  | [], bs, h => by simp at h; subst h; rfl
  | a :: l, bs, h => by
    rw [List.mapM_cons] at h ⊢
    simp only [Option.pure_def, Option.bind_eq_bind, Option.bind_eq_some_iff] at h
    obtain ⟨b, h1, bs', h2, h3⟩ := h
    simp only [Option.some.injEq] at h3
    subst h3
    simp only [rdH_bind, hf a b h1, Option.bind_some, rdH_mapM hf h2, rdH_pure]
theorem placesOf_mapM : ∀ {l : List Field} {ps : List (Nat × Nat)}, placesOf P l = some ps → (l.mapM fun f => (P.info? f.type).map fun i => (f.offset, i.size)) = some ps
  | [], ps, h => by simp [placesOf] at h; subst h; rfl
  | f :: l, ps, h => by
    simp only [placesOf] at h
    split at h
    · rename_i i ps' h1 h2
      cases h
      rw [List.mapM_cons]
      simp [h1, placesOf_mapM h2]
    · cases h
theorem writeAt_size : ∀ (vs : List Value) (c : Array Value) (off : Nat), (writeAt c off vs).size = c.size
  | [], _, _ => rfl
  | v :: vs, c, off => by unfold writeAt; rw [writeAt_size vs]; simp
theorem writeAt_list : ∀ (vs : List Value) (c : Array Value) (off : Nat), off + vs.length ≤ c.size → (writeAt c off vs).toList = c.toList.take off ++ vs ++ c.toList.drop (off + vs.length)
  | [], c, off, _ => by simp [writeAt]
  | v :: vs, c, off, h => by
    simp only [List.length_cons] at h
    unfold writeAt
    rw [writeAt_list vs _ _ (by simp; omega)]
    have hlt : off < c.toList.length := by simp; omega
    simp only [Array.toList_setIfInBounds, List.length_cons]
    rw [List.take_succ_eq_append_getElem (by simpa using hlt), List.drop_set]
    simp only [List.getElem_set_self, List.take_set]
    rw [if_pos (by omega)]
    rw [List.set_eq_of_length_le (by simp; omega)]
    simp [show off + (vs.length + 1) = off + 1 + vs.length from by omega]
theorem zipIdx_write (off : Nat) : ∀ (l : List Value) (k : Nat) (c : Array Value), (l.zipIdx k).foldl (fun cs (p : Value × Nat) => cs.setIfInBounds (off + p.2) p.1) c = writeAt c (off + k) l
  | [], _, _ => rfl
  | v :: l, k, c => by
    rw [List.zipIdx_cons, List.foldl_cons, zipIdx_write off l (k + 1)]
    rfl
theorem fill_step {place : Nat → Option (Nat × Nat)} {cells : Array Value} {i off sz : Nat} {v : Value} {rest : List (Nat × Value)} (hp : place i = some (off, sz)) (hv : v.cells.size = sz) (hsz : off + sz ≤ cells.size) :
    Instr.fill place cells ((i, v) :: rest) = Instr.fill place (writeAt cells off v.cells.toList) rest := by
  rw [Instr.fill, hp]
  dsimp only
  rw [if_neg (by simp [hv]; omega)]
  rw [← Array.foldl_toList, Array.toList_zipIdx]
  exact congrArg (fun c => Instr.fill place c rest) (zipIdx_write off v.cells.toList 0 cells)

theorem buildCells_fill {z : List Value} {place : Nat → Option (Nat × Nat)} : ∀ (ps : List (Nat × Nat)) (i off : Nat) (parts : List (Nat × Value)) (l pre : List Value) (cells : Array Value),
    (∀ k, k < ps.length → place (i + k) = ps[k]?) → off + sumSizes ps = z.length → pre.length = off → cells.toList = pre ++ z.drop off → buildCells z ps i off parts = some l →
    ∃ cells', Instr.fill place cells parts = some cells' ∧ cells'.toList = pre ++ l := by
  intro ps
  induction ps with
  | nil =>
    intro i off parts l pre cells _ hs _ hc hb
    cases parts with
    | nil =>
      simp only [buildCells, Option.some.injEq] at hb
      subst hb
      refine ⟨cells, rfl, ?_⟩
      simp only [sumSizes, Nat.add_zero] at hs
      rw [hc, List.drop_eq_nil_of_le (by omega)]
    | cons p parts => simp [buildCells] at hb
  | cons q ps ih =>
    obtain ⟨o, sz⟩ := q
    intro i off parts l pre cells hpl hs hpre hc hb
    simp only [sumSizes] at hs
    have hpl' : ∀ k, k < ps.length → place (i + 1 + k) = ps[k]? := fun k hk => by
      have := hpl (k + 1) (by simp; omega)
      rw [show i + 1 + k = i + (k + 1) from by omega]
      simpa using this
    have hskip : z.drop off = (z.drop off).take sz ++ z.drop (off + sz) := by
      rw [← List.drop_drop, List.take_append_drop]
    have htk : ((z.drop off).take sz).length = sz := by simp; omega
    have hgo : ∀ parts l', buildCells z ps (i + 1) (off + sz) parts = some l' → ∃ cells', Instr.fill place cells parts = some cells' ∧ cells'.toList = pre ++ ((z.drop off).take sz ++ l') := by
      intro parts l' hb'
      obtain ⟨c', h1, h2⟩ := ih (i + 1) (off + sz) parts l' (pre ++ (z.drop off).take sz) cells hpl' (by omega) (by simp only [List.length_append, htk]; omega) (by rw [hc, List.append_assoc, ← hskip]) hb'
      exact ⟨c', h1, by rw [h2, List.append_assoc]⟩
    cases parts with
    | nil =>
      simp only [buildCells] at hb
      split at hb
      · rename_i l' _ hb'
        cases hb
        rw [appL_eq]
        exact hgo _ _ hb'
      · cases hb
    | cons p parts =>
      obtain ⟨j, v⟩ := p
      simp only [buildCells] at hb
      split at hb
      · rename_i ho hj
        split at hb
        · rename_i l' hv hb'
          cases hb
          rw [appL_eq]
          have ho' := Nat.eq_of_beq_eq_true ho
          have hj' := Nat.eq_of_beq_eq_true hj
          have hv' := Nat.eq_of_beq_eq_true hv
          subst ho' hj'
          have hsz : cells.size = z.length := by
            rw [← Array.length_toList, hc]; simp [hpre]; omega
          have hp0 : place i = some (o, sz) := by
            have := hpl 0 (by simp)
            simpa using this
          rw [fill_step hp0 hv' (by omega)]
          obtain ⟨c', h1, h2⟩ := ih (i + 1) (o + sz) parts l' (pre ++ v.cells.toList) (writeAt cells o v.cells.toList) hpl' (by omega) (by simp [hv', hpre]) (by
            rw [writeAt_list _ _ _ (by simp [hv']; omega), hc]
            have e1 : (pre ++ z.drop o).take o = pre := by rw [List.take_append_of_le_length (by omega), List.take_of_length_le (by omega)]
            have e2 : (pre ++ z.drop o).drop (o + v.cells.toList.length) = z.drop (o + sz) := by
              have hl : v.cells.toList.length = sz := by simp [hv']
              rw [hl, List.drop_append, hpre, List.drop_of_length_le (by omega), Nat.add_sub_cancel_left, List.drop_drop]
              rfl
            rw [e1, e2]) hb'
          · exact ⟨c', h1, by rw [h2, List.append_assoc]⟩
        · cases hb
      · split at hb
        · rename_i l' hb'
          cases hb
          rw [appL_eq]
          exact hgo _ _ hb'
        · cases hb
      · cases hb

theorem rowCells_fill {sz : Nat} : ∀ (parts : List (Nat × Value)) (i : Nat) (l pre : List Value) (cells : Array Value), pre.length = i * sz → cells.size = (i + parts.length) * sz → cells.toList.take (i * sz) = pre → rowCells sz i parts = some l →
    Instr.fill (fun i => some (i * sz, sz)) cells parts = some (pre ++ l).toArray
  | [], i, l, pre, cells, hpre, hsz, hc, h => by
    simp only [rowCells, Option.some.injEq] at h
    subst h
    simp only [Instr.fill, List.append_nil]
    rw [← hc, List.take_of_length_le (by simp [hsz])]
  | (j, v) :: parts, i, l, pre, cells, hpre, hsz, hc, h => by
    simp only [rowCells] at h
    split at h
    · rename_i l' hb hr
      cases h
      rw [appL_eq]
      simp only [Bool.and_eq_true] at hb
      have hj := Nat.eq_of_beq_eq_true hb.1
      have hv := Nat.eq_of_beq_eq_true hb.2
      subst hj
      simp only [List.length_cons] at hsz
      have hle : (i + 1) * sz ≤ (i + (parts.length + 1)) * sz := Nat.mul_le_mul_right _ (by omega)
      have hsucc : (i + 1) * sz = i * sz + sz := Nat.succ_mul i sz
      rw [fill_step (off := i * sz) rfl hv (by omega)]
      rw [rowCells_fill parts (i + 1) l' (pre ++ v.cells.toList) _ (by simp [hpre, hv]; omega) (by rw [writeAt_size, hsz]; congr 1; omega) ?_ hr]
      · simp
      · rw [writeAt_list _ _ _ (by simp [hv]; omega), hc, List.take_append_of_le_length (by simp [hpre, hv]; omega), List.take_of_length_le (by simp [hpre, hv]; omega)]
    · cases h

theorem buildN_tot {t : TypeId} {parts : List (Nat × Value)} {K : Value → Prop} (h : buildN P t parts K) : totN P (do pure (.value (← Instr.build t parts.toArray))) K := by
  unfold buildN at h
  split at h
  · rename_i fields z hu hz
    split at h
    · rename_i ps hps
      split at h
      · rename_i cells hsum hc
        refine totN_of (rdH_value ?_) h
        obtain ⟨i, hi, hz⟩ := Option.bind_eq_some_iff.1 hz
        have hzero : ∀ H : PHeap, (zeroValue t).rdH P H = some z := fun H => by
          unfold zeroValue
          simp only [rdH_bind, rdH_typeInfo hi, Option.bind_some, hz]
          rfl
        have hpl : ∀ H : PHeap, (fields.mapM fun f => do pure (f.offset, ← sizeOf f.type) : Sem (Array (Nat × Nat))).rdH P H = some ps.toArray := fun H => by
          rw [Array.mapM_eq_mapM_toList, rdH_map]
          rw [rdH_mapM (g := fun f => (P.info? f.type).map fun i => (f.offset, i.size)) (fun f b hb => ?_) (placesOf_mapM hps)]
          · rfl
          · obtain ⟨i, h1, h2⟩ := Option.map_eq_some_iff.1 hb
            subst h2
            simp only [rdH_bind, rdH_sizeOf h1]
            rfl
        obtain ⟨c', h1, h2⟩ := buildCells_fill (place := (ps.toArray[·]?)) ps 0 0 parts cells [] z.cells (fun k _ => by simp) (by have := Nat.eq_of_beq_eq_true hsum; simp; omega) rfl (by simp) hc
        have hc' : c' = cells.toArray := by
          apply Array.toList_inj.1
          simpa using h2
        subst hc'
        unfold Instr.build
        simp only [rdH_bind, hzero, rdH_underlying hu, hpl, Option.bind_some]
        rw [h1]
        rfl
      · exact h.elim
    · exact h.elim
  · exact h.elim

theorem alH_bind_rd {α β : Type} {k : α → Sem β} : ∀ {s : Sem α} {a : α}, s.rdH P .empty = some a → (s >>= k).alH P = (k a).alH P := by
  intro s
  show ∀ {a : α}, s.rdH P .empty = some a → (s.bind k).alH P = (k a).alH P
  induction s with
  | pure a => intro x h; cases h; rfl
  | program k ih => exact fun h => ih P h
  | mark m k ih => exact fun h => ih h
  | load => exact fun h => by cases h
  | shape => exact fun h => by cases h
  | frozen => exact fun h => by cases h
  | getObj => exact fun h => by cases h
  | store => exact fun h => by cases h
  | new => exact fun h => by cases h
  | freeze => exact fun h => by cases h
  | setObj => exact fun h => by cases h
  | choose => exact fun h => by cases h
  | sys => exact fun h => by cases h
  | halt => exact fun h => by cases h
theorem rowN_alH {t : TypeId} {len : Nat} {parts : List (Nat × Value)} {K : Value → PHeap → Prop} (h : rowN P H t len parts K) :
    ∃ (elem : TypeId) (cells : List Value), (do pure (.value (← Instr.buildSlice t len parts.toArray)) : Sem Next).alH P = some (.cells cells.toArray elem (0, 0), fun b => some (.value (.slice (some ⟨b, 0, none⟩) len len))) ∧
      ∀ b, H b = none → K (.slice (some ⟨b, 0, none⟩) len len) (H.put b (.cells cells.toArray elem (0, 0))) := by
  unfold rowN at h
  split at h
  · rename_i elem hu
    split at h
    · rename_i e hi
      rw [onlyIf_iff] at h
      obtain ⟨hg, h⟩ := h
      simp only [Bool.and_eq_true] at hg
      obtain ⟨⟨hg1, hg2⟩, hg3⟩ := hg
      have hle := Nat.le_of_ble_eq_true hg1
      have hlen := Nat.eq_of_beq_eq_true hg2
      obtain ⟨z, hz⟩ := Option.isSome_iff_exists.1 hg3
      split at h
      · rename_i cells hc
        refine ⟨elem, cells, ?_, h⟩
        show ((Instr.buildSlice t len parts.toArray) >>= fun a => (pure (.value a) : Sem Next)).alH P = _
        unfold Instr.buildSlice
        have hassoc : ∀ {α β γ : Type} (s : Sem α) (f : α → Sem β) (g : β → Sem γ), ((s >>= f) >>= g) = (s >>= fun a => f a >>= g) := fun s f g => bind_assoc s f g
        rw [hassoc, alH_bind_rd (rdH_underlying hu)]
        dsimp only
        rw [hassoc, alH_bind_rd (rdH_sizeOf hi)]
        rw [if_neg (by omega)]
        have hfin : ∀ zc : Array Value, Instr.fill (fun i => some (i * e.size, e.size)) ((Array.range (len * e.size)).map (zc[· % zc.size]!)) parts.toArray.toList = some cells.toArray := fun zc => by
          have := rowCells_fill (sz := e.size) parts 0 cells [] ((Array.range (len * e.size)).map (zc[· % zc.size]!)) (by simp) (by simp [hlen]) (by simp) hc
          simpa using this
        by_cases h0 : len * e.size = 0
        · rw [if_pos h0]
          rw [hassoc, alH_bind_rd (a := #[]) rfl]
          rw [hfin]
          rfl
        · rw [if_neg h0]
          have hzv : (zeroValue elem).rdH P .empty = some z := by
            unfold zeroValue; simp only [rdH_bind, rdH_typeInfo hi, Option.bind_some, hz]; rfl
          rw [hassoc, alH_bind_rd hzv, hassoc]
          rw [alH_bind_rd (a := z.cells) rfl, hfin]
          rfl
      · exact h.elim
    · exact h.elim
  · exact h.elim

theorem execL_eq {ρ : Operand → Value} {o : Oper} : execL ρ o = execOp ρ o := by
  unfold execL
  split
  · rename_i t parts hop; unfold execOp; rw [hop]; simp only [← List.map_toArray, Array.toArray_toList]
  · rename_i t len parts hop; unfold execOp; rw [hop]; simp only [← List.map_toArray, Array.toArray_toList]
  · rename_i fn first cap hop; unfold execOp; rw [hop]; simp only [← List.map_toArray, Array.toArray_toList]
  · rename_i b args tys hop
    unfold execOp; rw [hop]
    show _ = builtin b tys o.type (args.map fun | .const _ => true | _ => false) (args.map ρ)
    simp only [← List.map_toArray, Array.toArray_toList]
    exact congrArg (fun z => builtin b tys o.type (Array.map z args) (Array.map ρ args)) (funext fun x => by cases x <;> rfl)
  · rfl

/-! ### Append, and make -/
theorem rdH_loadCells {p : Addr} {cs : List Value} (h : H.has p cs) {n : Nat} (hn : cs.length = n) : (loadCells p n).rdH P H = some cs.toArray := by
  unfold loadCells
  rw [rdH_loadCellsFrom p n 0 #[] cs hn (by simpa [PHeap.has] using h)]
  simp
theorem rdH_firstCells {a : Option Addr} {size n l c : Nat} {cs : List Value} (h : H.rowAt a cs) (hn : cs.length = n * size) : (Builtin.firstCells size n (.slice a l c)).rdH P H = some cs.toArray := by
  cases a with
  | none =>
    have : cs = [] := h
    subst this
    rfl
  | some p => exact rdH_loadCells h hn
theorem exH_putRow {a : Option Addr} {vs : List Value} {H' : PHeap} {Q : Unit → PHeap → Prop} (hs : singles vs = true) (h : putRow H a vs H') (hq : Q () H') :
    (match a with | some a => storeCells a vs | none => pure () : Sem Unit).exH P H Q := by
  cases a with
  | none =>
    have : H' = H := h
    subst this
    exact hq
  | some p =>
    obtain ⟨c, elem, lo, hi, h1, h2, h3, h4, rfl⟩ := h
    exact exH_storeCells h2 _ 0 H c Q h1 (by simpa using h3) (by simpa using h4) hs hq
theorem exH_bind_rd {α β : Type} {s : Sem α} {a : α} {k : α → Sem β} {Q : β → PHeap → Prop} (h : s.rdH P H = some a) (hk : (k a).exH P H Q) : (s >>= k).exH P H Q :=
  Sem.exH_bind _ _ _ (Sem.rdH_exH _ h hk)
theorem choose_exH {q : Question} {β : Type} {k : Nat → Sem β} {Q : β → PHeap → Prop} (hf : q.forced = false) (h : ∀ t, (k (q.cut t)).exH P H Q) : (choose q >>= k).exH P H Q := by
  show (if q.forced then (k 0).exH P H Q else ∀ t, (k (q.cut t)).exH P H Q)
  rw [hf]
  simpa using h

theorem appN_exH {t t2 ty : TypeId} {s x : Value} {K : Value → PHeap → Prop} {Q : Value → PHeap → Prop} (h : appN P H t t2 s x K) (hq : ∀ v H', K v H' → Q v H') : (Builtin.append_ #[t, t2] ty #[s, x]).exH P H Q := by
  unfold appN at h
  split at h
  · rename_i elem elem2 base sLen sCap xb n xc hu hu2
    cases hi : P.info? elem with
    | none => rw [hi] at h; exact h.elim
    | some e =>
      rw [hi] at h
      dsimp only at h
      cases hz : e.zero with
      | none => rw [hz] at h; exact h.elim
      | some z =>
        rw [hz] at h
        obtain ⟨xs, hx1, hx2, hx3, ⟨hin, hnew⟩, hk⟩ := h
        unfold Builtin.append_
        simp only [List.getElem?_toArray, List.getElem?_cons_zero, List.getElem?_cons_succ]
        refine Sem.exH_bind _ _ _ (Sem.rdH_exH _ (rdH_underlying hu) ?_)
        dsimp only
        refine Sem.exH_bind _ _ _ (Sem.rdH_exH _ (rdH_sizeOf hi) ?_)
        refine Sem.exH_bind _ _ _ (Sem.rdH_exH (a := TypeDesc.slice elem2) _ (rdH_underlying hu2) ?_)
        refine exH_bind_rd (a := false) rfl ?_
        simp only [Bool.false_eq_true, if_false, Bool.not_false, if_true]
        refine exH_bind_rd (a := n) rfl ?_
        by_cases hcap : sLen + n ≤ sCap
        · rw [if_pos hcap]
          obtain ⟨H', h1⟩ := hin hcap
          have h2 := hk base sCap H' (.inl ⟨hcap, rfl, rfl, h1⟩)
          refine exH_bind_rd (rdH_firstCells hx2 hx1) ?_
          cases base with
          | none =>
            have : H' = H := h1
            subst this
            exact hq _ _ h2
          | some p =>
            refine Sem.exH_bind _ _ _ (exH_putRow (a := some (p.add (sLen * e.size))) hx3 h1 ?_)
            exact hq _ _ h2
        · rw [if_neg hcap]
          obtain ⟨hb, hmax, ss, hs1, hs2⟩ := hnew (by omega)
          refine exH_bind_rd (rdH_typeInfo hi) ?_
          rw [if_neg (by have : IntKind.i64.max = 2 ^ 63 - 1 := rfl; omega)]
          refine exH_bind_rd (rdH_typeInfo hi) ?_
          rw [if_neg (by omega)]
          refine choose_exH rfl fun tp => ?_
          refine exH_bind_rd (rdH_typeInfo hi) ?_
          refine exH_bind_rd (a := ()) (by unfold askRoom; split <;> rfl) ?_
          refine exH_bind_rd (rdH_firstCells hs2 hs1) ?_
          refine exH_bind_rd (rdH_firstCells hx2 hx1) ?_
          refine exH_bind_rd (a := z) (by unfold zeroValue; simp only [rdH_bind, rdH_typeInfo hi, Option.bind_some, hz]; rfl) ?_
          intro b hb'
          exact hq _ _ (hk _ _ _ (.inr ⟨by omega, by show sLen + n ≤ sLen + n + tp % _; omega, b, ss, hb', rfl, hs1, hs2, rfl⟩))
  · exact h.elim

theorem mkN_exH {t : TypeId} {l c : Value} {K : Value → PHeap → Prop} {Q : Value → PHeap → Prop} (h : mkN P H t l c K) (hq : ∀ v H', K v H' → Q v H') : (Instr.makeSlice t l c).exH P H Q := by
  unfold mkN at h
  split at h
  · rename_i elem k l k' c hu
    cases hi : P.info? elem with
    | none => rw [hi] at h; exact h.elim
    | some e =>
      rw [hi] at h
      dsimp only at h
      cases hz : e.zero with
      | none => rw [hz] at h; exact h.elim
      | some z =>
        rw [hz] at h
        obtain ⟨h0, h1, h2, h3, hk⟩ := h
        have hwl : IntKind.i64.wrap l = l := IntWalk.i64_in _ (by omega)
        have hwc : IntKind.i64.wrap c = c := IntWalk.i64_in _ (by omega)
        unfold Instr.makeSlice
        refine exH_bind_rd (rdH_underlying hu) ?_
        dsimp only
        refine exH_bind_rd (a := l) rfl ?_
        refine exH_bind_rd (a := c) rfl ?_
        refine exH_bind_rd (rdH_typeInfo hi) ?_
        rw [hwl, hwc]
        rw [if_neg (by simp; omega)]
        refine exH_bind_rd (a := ()) (by unfold askRoom; split <;> rfl) ?_
        refine exH_bind_rd (rdH_sizeOf hi) ?_
        by_cases hn : c.toNat * e.size = 0
        · rw [if_pos hn]
          refine exH_bind_rd (a := #[]) rfl ?_
          intro b hb
          refine hq _ _ ?_
          have := hk b hb
          rw [hn] at this ⊢
          have h0 : ∀ f : Nat → Value, (Array.range 0).map f = #[] := fun f => by simp
          unfold zeroRow at this
          rw [h0] at this ⊢
          exact this
        · rw [if_neg hn]
          have hzv : (zeroValue elem).rdH P H = some z := by
            unfold zeroValue; simp only [rdH_bind, rdH_typeInfo hi, Option.bind_some, hz]; rfl
          refine exH_bind_rd hzv ?_
          refine exH_bind_rd (a := z.cells) rfl ?_
          intro b hb
          exact hq _ _ (hk b hb)
  · exact h.elim

theorem entersB_spec {f : FuncId} (h : entersB P f = true) : EntersC P f := by
  unfold entersB at h
  cases hf : P.funcs[f]? with
  | none => rw [hf] at h; cases h
  | some fn =>
    rw [hf] at h
    simp only [Bool.and_eq_true, Bool.not_eq_true'] at h
    exact ⟨fn, hf, h.1, h.2⟩
end
end Go
