/- The run over abstract states is sound: regions whose order is drawn. -/
import Derived.Test.YtkcoepeeamooiaaAb13
set_option linter.unusedVariables false
set_option linter.unusedSimpArgs false
namespace Go.Ab
open Go Classical

section
variable {P : Program} {ty : TypeId → Option TI} {tb n0 : Nat} {o : Oper} {fr : Fr} {H : Hp} {K : AV → Fr → Hp → Prop}

theorem Hle.refl (H : Hp) : Hle H H := fun _ _ h => h
theorem Hle.trans {H1 H2 H3 : Hp} (h : Hle H1 H2) (k : Hle H2 H3) : Hle H1 H3 := fun i B hB => k i B (h i B hB)
theorem Hle.snoc (H : Hp) (x : Option Blk) : Hle H (H ++ [x]) := fun i B hB => by
  rw [List.getElem?_append_left (List.getElem?_eq_some_iff.1 hB).1]; exact hB

/-- What a reading operation comes to: one value, and the same one in any frame that holds the same for it, over any heap that holds no less. -/
def Det (P : Program) (ty : TypeId → Option TI) (tb n0 : Nat) (o : Oper) (fr : Fr) (H : Hp) (K : AV → Fr → Hp → Prop) : Prop :=
  ∃ v, K v fr H ∧ ∀ (fr' : Fr) (H' : Hp) (K' : AV → Fr → Hp → Prop), (∀ x ∈ o.op.operands, aeval fr' x = aeval fr x) → Hle H H' → K' v fr' H' → opx P ty tb n0 o fr' H' K'

theorem bcase_if (b : Bool) (A B : Prop) : (@Bool.rec (fun _ => Prop) B A b) = (if b = true then A else B) := by cases b <;> rfl

theorem det_binx {op : BinOp} {x y : AV} {K : AV → Prop} (h : binx op x y K) : ∃ v, K v ∧ ∀ K' : AV → Prop, K' v → binx op x y K' := by
  unfold binx at h ⊢
  split at h
  · split at h
    · exact ⟨_, h.2, fun K' hk => ⟨h.1, hk⟩⟩
    · exact ⟨_, h.2, fun K' hk => ⟨h.1, hk⟩⟩
    · split at h
      · rename_i hkk
        subst hkk
        simp only [if_true]
        split at h
        all_goals first
          | exact ⟨_, h, fun K' hk => hk⟩
          | exact ⟨_, h.2, fun K' hk => ⟨h.1, hk⟩⟩
          | exact h.elim
      · exact h.elim
  · split at h
    · exact ⟨_, h, fun K' hk => hk⟩
    · exact ⟨_, h, fun K' hk => hk⟩
    · exact h.elim
  · exact h.elim
theorem det_eqx {t : TI} {x y : AV} {K : Bool → Prop} (h : eqx t x y K) : ∃ v, K v ∧ ∀ K' : Bool → Prop, K' v → eqx t x y K' := by
  unfold eqx at h ⊢
  split at h
  all_goals first
    | exact ⟨_, h, fun K' hk => hk⟩
    | exact h.elim
theorem det_eqa {t : TypeId} {ie : Option TI} {n : Nat} {x y : AV} {K : Bool → Prop} (h : eqa P t ie n x y K) : ∃ v, K v ∧ ∀ K' : Bool → Prop, K' v → eqa P t ie n x y K' := by
  unfold eqa at h ⊢
  split at h
  · split at h
    · split at h
      · obtain ⟨hc, hK⟩ := h
        refine ⟨_, hK, fun K' hk => ?_⟩
        exact ⟨hc, hk⟩
      · exact h.elim
    · exact h.elim
  · exact h.elim
theorem det_binv {op : BinOp} {t : TypeId} {x y : AV} {K : AV → Prop} (h : binv P ty op t x y K) : ∃ v, K v ∧ ∀ K' : AV → Prop, K' v → binv P ty op t x y K' := by
  unfold binv at h ⊢
  split at h
  · exact det_binx h
  · exact det_binx h
  · split at h
    · obtain ⟨r, h1, h2⟩ := det_eqa h
      exact ⟨_, h1, fun K' hk => h2 (fun r => K' (.d (.bool r))) hk⟩
    · obtain ⟨r, h1, h2⟩ := det_eqa h
      exact ⟨_, h1, fun K' hk => h2 (fun r => K' (.d (.bool !r))) hk⟩
    · obtain ⟨r, h1, h2⟩ := det_eqx h
      exact ⟨_, h1, fun K' hk => h2 (fun r => K' (.d (.bool r))) hk⟩
    · obtain ⟨r, h1, h2⟩ := det_eqx h
      exact ⟨_, h1, fun K' hk => h2 (fun r => K' (.d (.bool !r))) hk⟩
    · exact h.elim
theorem det_lenx {x : AV} {K : AV → Prop} (h : lenx x K) : ∃ v, K v ∧ ∀ K' : AV → Prop, K' v → lenx x K' := by
  unfold lenx at h ⊢
  simp only [lenL_eq] at h ⊢
  split at h
  all_goals first
    | exact ⟨_, h, fun K' hk => hk⟩
    | exact h.elim
theorem det_foldx {mx : Bool} : ∀ {x : AV} {l : List AV} {K : AV → Prop} (h : foldx mx x l K), ∃ v, K v ∧ ∀ K' : AV → Prop, K' v → foldx mx x l K' := by
  intro x l
  induction l generalizing x with
  | nil => intro K h; unfold foldx at h ⊢; exact ⟨_, h, fun K' hk => hk⟩
  | cons y l ih =>
    intro K h
    unfold foldx at h ⊢
    split at h
    · simp at *
    · rename_i e1 e2
      cases e2
      split at h
      · rename_i hk
        obtain ⟨v, h1, h2⟩ := ih h
        exact ⟨v, h1, fun K' hk' => by simp only [hk, if_true]; simpa [hk] using h2 K' hk'⟩
      · exact h.elim
    · exact h.elim
theorem det_bounds {n : Nat} {lo hi : Option AV} {K : Option Nat → Option Nat → Prop} (h : bounds n lo hi K) : ∃ a b, K a b ∧ ∀ K' : Option Nat → Option Nat → Prop, K' a b → bounds n lo hi K' := by
  unfold bounds at h ⊢
  split at h
  all_goals first
    | exact ⟨_, _, h, fun K' hk => hk⟩
    | exact ⟨_, _, h.2, fun K' hk => ⟨h.1, hk⟩⟩
    | exact h.elim
theorem forceL_eq' (l : L) (K : L → Prop) : forceL l K = K l := by cases l <;> rfl
theorem det_slice {i : TI} {u : AV} {lo hi mx : Option AV} {fr : Fr} {H : Hp} {K : AV → Fr → Hp → Prop} (hn : ∀ n e id off, i.k = .array n e → u ≠ .ptr id off) (h : slicex ty n0 i u lo hi mx fr H K) :
    ∃ v, K v fr H ∧ ∀ (fr' : Fr) (H' : Hp) (K' : AV → Fr → Hp → Prop), K' v fr' H' → slicex ty n0 i u lo hi mx fr' H' K' := by
  unfold slicex at h ⊢
  simp only [lenL_eq] at h ⊢
  split at h
  · rename_i n e hik
    split at h
    · exact absurd rfl (hn n e _ _ hik)
    · rename_i ie cs hei
      split at h
      · rename_i l hl
        exact ⟨_, h.2, fun fr' H' K' hk => ⟨h.1, hk⟩⟩
      · exact h.elim
    · exact h.elim
  · rename_i e hik
    split at h
    · rename_i ie l hei hul
      obtain ⟨hs, h⟩ := h
      split at h
      · obtain ⟨a, b, h1, h2⟩ := det_bounds h
        rw [forceL_eq'] at h1
        exact ⟨_, h1, fun fr' H' K' hk => ⟨hs, h2 _ (by rw [forceL_eq']; exact hk)⟩⟩
      · split at h
        · obtain ⟨hb, h⟩ := h
          obtain ⟨a, b, h1, h2⟩ := det_bounds h
          rw [forceL_eq'] at h1
          exact ⟨_, h1, fun fr' H' K' hk => ⟨hs, hb, h2 _ (by rw [forceL_eq']; exact hk)⟩⟩
        · exact h.elim
      · exact h.elim
    · exact h.elim
  · exact h.elim
theorem map_agree {fr fr' : Fr} {xs : List Operand} (h : ∀ x ∈ xs, aeval fr' x = aeval fr x) : xs.map (aeval fr') = xs.map (aeval fr) := List.map_congr_left h
theorem parts_agree {fr fr' : Fr} {xs : List (Nat × Operand)} (h : ∀ x ∈ xs.map (·.2), aeval fr' x = aeval fr x) : xs.map (fun x => (x.1, aeval fr' x.2)) = xs.map (fun x => (x.1, aeval fr x.2)) :=
  List.map_congr_left fun x hx => by rw [h x.2 (List.mem_map.2 ⟨x, hx, rfl⟩)]

theorem op_det (hp : pureB o = true) (hv : ∀ f as ts, o.op ≠ .call { callee := .value f, args := as, argTypes := ts }) (hs : ∀ t x lo hi mx i n e id off, o.op = .slice t x lo hi mx → ty t = some i → i.k = .array n e → aeval fr x ≠ .ptr id off)
    (h : opx P ty tb n0 o fr H K) : Det P ty tb n0 o fr H K := by
  cases ho : o.op with
  | move x =>
    unfold opx at h; rw [ho] at h
    exact ⟨_, h, fun fr' H' K' ha hle hk => by unfold opx; rw [ho]; simp only; rw [ha x (by simp [ho, Op.operands])]; exact hk⟩
  | assign x =>
    unfold opx at h; rw [ho] at h
    exact ⟨_, h, fun fr' H' K' ha hle hk => by unfold opx; rw [ho]; simp only; rw [ha x (by simp [ho, Op.operands])]; exact hk⟩
  | pick c x y =>
    unfold opx at h; rw [ho] at h
    simp only at h
    split at h
    · rename_i t he
      cases t with
      | true => exact ⟨_, h, fun fr' H' K' ha hle hk => by unfold opx; rw [ho]; simp only; rw [ha c (by simp [ho, Op.operands]), ha x (by simp [ho, Op.operands]), he]; exact hk⟩
      | false => exact ⟨_, h, fun fr' H' K' ha hle hk => by unfold opx; rw [ho]; simp only; rw [ha c (by simp [ho, Op.operands]), ha y (by simp [ho, Op.operands]), he]; exact hk⟩
    · exact h.elim
  | build t ps =>
    unfold opx at h; rw [ho] at h
    simp only at h
    split at h
    · rename_i fs z _ _ hi
      split at h
      · rename_i cs hc
        rw [seqA_eq] at h
        refine ⟨_, h, fun fr' H' K' ha hle hk => ?_⟩
        unfold opx; rw [ho]; simp only [hi]
        rw [parts_agree (fun x hx => ha x (by simpa [ho, Op.operands] using hx)), hc]
        simp only [seqA_eq]; exact hk
      · exact h.elim
    · rename_i e z _ _ hi
      split at h
      · rename_i ie hie
        split at h
        · rename_i cs hc
          rw [seqA_eq] at h
          refine ⟨_, h, fun fr' H' K' ha hle hk => ?_⟩
          unfold opx; rw [ho]; simp only [hi, hie]
          rw [parts_agree (fun x hx => ha x (by simpa [ho, Op.operands] using hx)), hc]
          simp only [seqA_eq]; exact hk
        · exact h.elim
      · exact h.elim
    · exact h.elim
  | buildSlice t n ps =>
    unfold opx at h; rw [ho] at h
    simp only at h
    split at h
    · rename_i e _ _ _ hi
      split at h
      · rename_i ie hie
        split at h
        · rename_i cs hc
          split at h
          · rename_i l hl
            refine ⟨_, h.2, fun fr' H' K' ha hle hk => ?_⟩
            unfold opx; rw [ho]; simp only [hi, hie]
            rw [parts_agree (fun x hx => ha x (by simpa [ho, Op.operands] using hx)), hc]
            simp only [hl]; exact ⟨h.1, hk⟩
          · exact h.elim
        · exact h.elim
      · exact h.elim
    · exact h.elim
  | load t x =>
    unfold opx at h; rw [ho] at h
    simp only at h
    split at h
    · rename_i i id off hi he
      split at h
      · rename_i B hB
        split at h
        · rename_i hag
          obtain ⟨h1, h⟩ := h
          rw [seqA_eq] at h
          refine ⟨_, h, fun fr' H' K' ha hle hk => ?_⟩
          unfold opx; rw [ho]; simp only [hi, ha x (by simp [ho, Op.operands]), he, hle _ _ hB, hag, seqA_eq]
          exact ⟨h1, hk⟩
        · rename_i hag
          split at h
          · rename_i c hc
            refine ⟨_, h, fun fr' H' K' ha hle hk => ?_⟩
            unfold opx; rw [ho]; simp only [hi, ha x (by simp [ho, Op.operands]), he, hle _ _ hB, hag, hc]
            exact hk
          · exact h.elim
      · exact h.elim
    · rename_i i cs hi he
      split at h
      · rename_i hag
        obtain ⟨h1, h⟩ := h
        rw [seqD_eq] at h
        refine ⟨_, h, fun fr' H' K' ha hle hk => ?_⟩
        unfold opx; rw [ho]; simp only [hi, ha x (by simp [ho, Op.operands]), he, hag, seqD_eq]
        exact ⟨h1, hk⟩
      · rename_i hag
        split at h
        · refine ⟨_, h, fun fr' H' K' ha hle hk => ?_⟩
          unfold opx; rw [ho]; simp only [hi, ha x (by simp [ho, Op.operands]), he, hag]
          exact hk
        · exact h.elim
    · exact h.elim
  | nilCheck x =>
    unfold opx at h; rw [ho] at h
    simp only at h
    split at h
    · rename_i he
      exact ⟨_, h, fun fr' H' K' ha hle hk => by unfold opx; rw [ho]; simp only [ha x (by simp [ho, Op.operands]), he]; exact hk⟩
    · rename_i he
      exact ⟨_, h, fun fr' H' K' ha hle hk => by unfold opx; rw [ho]; simp only [ha x (by simp [ho, Op.operands]), he]; exact hk⟩
    · exact h.elim
  | binOp op t x y yt =>
    unfold opx at h; rw [ho] at h
    simp only at h
    obtain ⟨r, h1, h2⟩ := det_binv h
    refine ⟨r, h1, fun fr' H' K' ha hle hk => ?_⟩
    unfold opx; rw [ho]; simp only
    rw [ha x (by simp [ho, Op.operands]), ha y (by simp [ho, Op.operands])]
    exact h2 (fun r => K' r fr' H') hk
  | unOp op t x =>
    unfold opx at h; rw [ho] at h
    simp only at h
    split at h
    all_goals first
      | exact h.elim
      | (rename_i he
         exact ⟨_, h, fun fr' H' K' ha hle hk => by unfold opx; rw [ho]; simp only [ha x (by simp [ho, Op.operands]), he]; exact hk⟩)
  | convert t' t x =>
    unfold opx at h; rw [ho] at h
    simp only at h
    split at h
    · rename_i h1 h2 he
      exact ⟨_, h, fun fr' H' K' ha hle hk => by unfold opx; rw [ho]; simp only [ha x (by simp [ho, Op.operands]), h1, h2, he]; exact hk⟩
    · rename_i h1 h2
      split at h
      · rename_i h3 h4
        refine ⟨_, h, fun fr' H' K' ha hle hk => ?_⟩
        unfold opx; rw [ho]; simp only [ha x (by simp [ho, Op.operands]), h1, h2, h3, h4]; exact hk
      · exact h.elim
    · exact h.elim
  | makeFunc fn first caps =>
    cases fn with
    | func f =>
      unfold opx at h; rw [ho] at h
      simp only at h
      split at h
      · rename_i hf
        rw [seqA_eq] at h
        refine ⟨_, h, fun fr' H' K' ha hle hk => ?_⟩
        unfold opx; rw [ho]; simp only [hf, if_true, seqA_eq]
        rw [map_agree (fun x hx => ha x (by simp [ho, Op.operands]; exact .inr (by simpa using hx)))]; exact hk
      · exact h.elim
    | _ => unfold opx at h; rw [ho] at h; exact h.elim
  | fieldAddr t x f =>
    unfold opx at h; rw [ho] at h
    simp only at h
    split at h
    · rename_i h1 he
      split at h
      · rename_i h3
        exact ⟨_, h, fun fr' H' K' ha hle hk => by unfold opx; rw [ho]; simp only [ha x (by simp [ho, Op.operands]), h1, he, h3]; exact hk⟩
      · exact h.elim
    · rename_i h1 he
      split at h
      · rename_i h3
        rw [seqD_eq] at h
        exact ⟨_, h, fun fr' H' K' ha hle hk => by unfold opx; rw [ho]; simp only [ha x (by simp [ho, Op.operands]), h1, he, h3, seqD_eq]; exact hk⟩
      · exact h.elim
    · exact h.elim
  | indexAddr t x ix =>
    unfold opx at h; rw [ho] at h
    simp only [lenL_eq] at h
    split at h
    · rename_i h1 he hx
      split at h
      · rename_i h3
        exact ⟨_, h.2, fun fr' H' K' ha hle hk => by unfold opx; rw [ho]; simp only [lenL_eq, ha x (by simp [ho, Op.operands]), ha ix (by simp [ho, Op.operands]), h1, he, hx, h3]; exact ⟨h.1, hk⟩⟩
      · exact h.elim
    · rename_i h1 hx no1
      split at h
      · rename_i h3 h4
        obtain ⟨hc, h⟩ := h
        rw [seqD_eq] at h
        refine ⟨_, h, fun fr' H' K' ha hle hk => ?_⟩
        unfold opx; rw [ho]; simp only [lenL_eq, ha x (by simp [ho, Op.operands]), ha ix (by simp [ho, Op.operands]), h1, hx]
        cases hu : aeval fr x with
        | os id off s n => exact absurd hu (no1 _ _ _ _)
        | _ => rw [hu] at h4; simp only [h3, h4, seqD_eq, lenL_eq]; exact ⟨hc, hk⟩
      · exact h.elim
    · rename_i h1 he hx
      split at h
      · rename_i h3
        exact ⟨_, h.2, fun fr' H' K' ha hle hk => by unfold opx; rw [ho]; simp only [lenL_eq, ha x (by simp [ho, Op.operands]), ha ix (by simp [ho, Op.operands]), h1, he, hx, h3]; exact ⟨h.1, hk⟩⟩
      · exact h.elim
    · exact h.elim
  | slice t x lo hi mx =>
    unfold opx at h; rw [ho] at h
    simp only at h
    split at h
    · rename_i i hi'
      obtain ⟨v, h1, h2⟩ := det_slice (fun n e id off hik => hs t x lo hi mx i n e id off ho hi' hik) h
      refine ⟨v, h1, fun fr' H' K' ha hle hk => ?_⟩
      unfold opx; rw [ho]; simp only [hi']
      have e1 : lo.map (aeval fr') = lo.map (aeval fr) := by
        cases he1 : lo with
        | none => rfl
        | some y => simp only [Option.map_some]; rw [ha y (by simp [ho, Op.operands, he1])]
      have e2 : hi.map (aeval fr') = hi.map (aeval fr) := by
        cases he2 : hi with
        | none => rfl
        | some y => simp only [Option.map_some]; rw [ha y (by simp [ho, Op.operands, he2])]
      have e3 : mx.map (aeval fr') = mx.map (aeval fr) := by
        cases he3 : mx with
        | none => rfl
        | some y => simp only [Option.map_some]; rw [ha y (by simp [ho, Op.operands, he3])]
      rw [e1, e2, e3, ha x (by simp [ho, Op.operands])]
      exact h2 fr' H' K' hk
    · exact h.elim
  | extract x i =>
    unfold opx at h; rw [ho] at h
    simp only at h
    split at h
    · rename_i he
      split at h
      · rename_i h3
        exact ⟨_, h, fun fr' H' K' ha hle hk => by unfold opx; rw [ho]; simp only [ha x (by simp [ho, Op.operands]), he, h3]; exact hk⟩
      · exact h.elim
    · exact h.elim
  | call c =>
    obtain ⟨callee, args, ts⟩ := c
    cases callee with
    | builtin b =>
      cases b with
      | len =>
        unfold opx at h; rw [ho] at h
        simp only at h
        split at h
        · rename_i x t hx ht
          have hxm : x ∈ o.op.operands := by
            have := Array.mem_of_getElem? hx
            simpa [ho, Op.operands, Call.operands] using this
          split at h
          · rename_i hi
            obtain ⟨v, h1, h2⟩ := det_lenx h
            exact ⟨v, h1, fun fr' H' K' ha hle hk => by unfold opx; rw [ho]; simp only [hx, ht, hi, ha x hxm]; exact h2 (fun r => K' r fr' H') hk⟩
          · rename_i hi
            exact ⟨_, h, fun fr' H' K' ha hle hk => by unfold opx; rw [ho]; simp only [hx, ht, hi]; exact hk⟩
          · exact h.elim
        · exact h.elim
      | max =>
        unfold opx at h; rw [ho] at h
        simp only at h
        split at h
        · rename_i he
          obtain ⟨v, h1, h2⟩ := det_foldx h
          refine ⟨v, h1, fun fr' H' K' ha hle hk => ?_⟩
          unfold opx; rw [ho]; simp only
          rw [map_agree (fun x hx => ha x (by simpa [ho, Op.operands, Call.operands] using hx)), he]
          exact h2 (fun r => K' r fr' H') hk
        · exact h.elim
      | min =>
        unfold opx at h; rw [ho] at h
        simp only at h
        split at h
        · rename_i he
          obtain ⟨v, h1, h2⟩ := det_foldx h
          refine ⟨v, h1, fun fr' H' K' ha hle hk => ?_⟩
          unfold opx; rw [ho]; simp only
          rw [map_agree (fun x hx => ha x (by simpa [ho, Op.operands, Call.operands] using hx)), he]
          exact h2 (fun r => K' r fr' H') hk
        · exact h.elim
      | _ => simp [pureB, ho] at hp
    | invoke r n => simp [pureB, ho] at hp
    | value f => exact absurd ho (hv f args ts)
  | _ => simp [pureB, ho] at hp

theorem map_putAt {fr : Fr} {d : Option Tmp} {v : AV} {x : Operand} (h : ∀ t, d = some t → x ≠ .tmp t) : aeval (match d with | some t => fr.set t v | none => fr) x = aeval fr x := by
  cases d with
  | none => rfl
  | some t =>
    cases x with
    | tmp u =>
      have : t ≠ u := fun e => h t rfl (by rw [e])
      simp [aeval, geta, List.getElem?_set_ne this]
    | _ => rfl
/-- A frame, with a value put. -/
def putF (fr : Fr) (d : Option Tmp) (v : AV) : Fr := match d with | some t => fr.set t v | none => fr
theorem putF_comm (fr : Fr) (d e : Option Tmp) (u v : AV) (h : ∀ t, d = some t → e ≠ some t) : putF (putF fr d u) e v = putF (putF fr e v) d u := by
  cases d with
  | none => rfl
  | some t =>
    cases e with
    | none => rfl
    | some s =>
      have : t ≠ s := fun e => h t rfl (by rw [e])
      simp only [putF]
      rw [List.set_comm _ _ this]

/-- What is looked at is the same. -/
def Agree (ops : Array Oper) (o : Oper) (fr fr' : Fr) : Prop := ∀ t ∈ o.looksAt ops, geta fr' t = geta fr t
theorem Agree.refl (ops : Array Oper) (o : Oper) (fr : Fr) : Agree ops o fr fr := fun _ _ => rfl
theorem Agree.ev {ops : Array Oper} {fr' : Fr} (h : Agree ops o fr fr') : ∀ x ∈ o.op.operands, aeval fr' x = aeval fr x := fun x hx => by
  cases x with
  | tmp t =>
    exact h t (List.mem_append_left _ (List.mem_filterMap.2 ⟨.tmp t, by simpa using hx, rfl⟩))
  | _ => rfl
theorem Agree.put {ops : Array Oper} {d : Option Tmp} {v : AV} (h : ∀ t, d = some t → t ∉ o.looksAt ops) : Agree ops o (putF fr d v) fr := fun t ht => by
  cases d with
  | none => rfl
  | some s =>
    have : s ≠ t := fun e => h s rfl (by rw [e]; exact ht)
    simp [putF, geta, List.getElem?_set_ne this]
theorem Agree.put' {ops : Array Oper} {d : Option Tmp} {v : AV} (h : ∀ t, d = some t → t ∉ o.looksAt ops) : Agree ops o fr (putF fr d v) := fun t ht => (Agree.put h t ht).symm

theorem opd_det {ops : Array Oper} {i : Nat} (hp : pureB o = true) (ht : tight ops i = false) (h : opd P ty tb n0 ops i o fr H K) :
    ∃ v, K v fr H ∧ ∀ (fr' : Fr) (H' : Hp) (K' : AV → Fr → Hp → Prop), (∀ x ∈ o.op.operands, aeval fr' x = aeval fr x) → Hle H H' → K' v fr' H' → opd P ty tb n0 ops i o fr' H' K' := by
  by_cases hc : ∃ f as ts, o.op = .call { callee := .value f, args := as, argTypes := ts }
  · obtain ⟨f, args, ts, ho⟩ := hc
    unfold opd at h; rw [ho] at h
    simp only at h
    split at h
    · rename_i g caps he
      obtain ⟨hen, h⟩ := h
      rw [seqA_eq] at h
      rcases h with ⟨as', v, h1, h2, h3⟩ | ⟨ht', _⟩
      · refine ⟨v, h3, fun fr' H' K' ha hle hk => ?_⟩
        unfold opd; rw [ho]; simp only
        rw [ha f (by simp [ho, Op.operands, Call.operands]), he]
        simp only
        refine ⟨hen, ?_⟩
        rw [seqA_eq, map_agree (fun x hx => ha x (by simp [ho, Op.operands, Call.operands]; exact .inr (by simpa using hx)))]
        exact .inl ⟨as', v, h1, fun fr1 H1 hh => h2 fr1 H1 (hle.trans hh), hk⟩
      · rw [ht] at ht'; cases ht'
    · exact h.elim
  · by_cases hsl : ∃ t x lo hi mx, o.op = .slice t x lo hi mx
    · obtain ⟨t, x, lo, hi, mx, ho⟩ := hsl
      have hx : x ∈ o.op.operands := by simp [ho, Op.operands]
      have hn : ∀ t' x' lo hi mx i n e id off, o.op = .slice t' x' lo hi mx → ty t' = some i → i.k = .array n e → aeval fr x' ≠ .ptr id off := by
        intro t' x' lo' hi' mx' i n e id off ho' hti hik hpt
        rw [ho] at ho'; injection ho' with e1 e2; subst e1; subst e2
        obtain ⟨ik, _, _, _⟩ := i
        simp only at hik; subst hik
        unfold opd at h; rw [ho] at h
        simp only [hti, hpt] at h
      have h' : opx P ty tb n0 o fr H K := by
        unfold opd at h; rw [ho] at h
        simp only at h
        split at h
        · exact h.elim
        · exact h
      obtain ⟨v, h1, h2⟩ := op_det hp (fun f as ts e => hc ⟨f, as, ts, e⟩) hn h'
      refine ⟨v, h1, fun fr' H' K' ha hle hk => ?_⟩
      unfold opd; rw [ho]; simp only
      split
      · rename_i hti hpt
        rw [ha x hx] at hpt
        exact absurd hpt (hn t x lo hi mx _ _ _ _ _ ho hti rfl)
      · exact h2 fr' H' K' ha hle hk
    · have e : ∀ fr H K, opd P ty tb n0 ops i o fr H K = opx P ty tb n0 o fr H K := by
        intro fr H K
        unfold opd
        split
        · rename_i f as ts ho; exact absurd ⟨_, _, _, ho⟩ hc
        · rename_i ho; exact absurd ⟨_, _, _, _, _, ho⟩ hsl
        · rfl
      rw [e] at h
      obtain ⟨v, h1, h2⟩ := op_det hp (fun f as ts e => hc ⟨f, as, ts, e⟩) (fun t x lo hi mx i n e id off ho' => absurd ⟨_, _, _, _, _, ho'⟩ hsl) h
      exact ⟨v, h1, fun fr' H' K' ha hle hk => by rw [e]; exact h2 fr' H' K' ha hle hk⟩

theorem set_same {fr : Fr} {t : Nat} {b : Bool} (h : geta fr t = .d (.bool b)) : fr.set t (.d (.bool b)) = fr := by
  apply List.ext_getElem?
  intro i
  by_cases e : t = i
  · subst e
    rcases Nat.lt_or_ge t fr.length with hl | hl
    · simp [List.getElem?_set_self hl]
      have : fr[t] = .d (.bool b) := by simpa [geta, List.getD, hl] using h
      rw [← this, List.getElem?_eq_getElem hl]
    · simp [geta, List.getElem?_eq_none hl] at h
  · rw [List.getElem?_set_ne e]
/-- Is it to be carried out, by the frame? -/
def wantF (ops : Array Oper) (o : Oper) (fr : Fr) : Option Bool :=
  match o.guard with
  | none => some true
  | some (j, want) => match (ops[j]?).bind (·.dst) with
    | some t => (match geta fr t with
      | .d (.bool b) => some (b == want)
      | .tup _ => some false
      | _ => none)
    | none => some false
theorem guardx_eq {ops : Array Oper} {yes skip : Fr → Prop} : guardx ops o fr yes skip ↔ match wantF ops o fr with | some true => yes fr | some false => skip fr | none => False := by
  unfold guardx wantF
  cases hg : o.guard with
  | none => exact Iff.rfl
  | some jw =>
    obtain ⟨j, want⟩ := jw
    simp only
    cases ht : (ops[j]?).bind (·.dst) with
    | none => exact Iff.rfl
    | some t =>
      simp only
      cases he : geta fr t with
      | d x =>
        cases x with
        | bool b =>
          simp only [setF_eq]
          cases b <;> cases want <;> simp [bcase, set_same he]
        | _ => exact Iff.rfl
      | _ => exact Iff.rfl
theorem wantF_agree {ops : Array Oper} {fr' : Fr} (h : Agree ops o fr fr') : wantF ops o fr' = wantF ops o fr := by
  unfold wantF
  split
  · rfl
  · rename_i j want hg
    split
    · rename_i t ht
      rw [h t (List.mem_append_right _ (by simp [hg, ht]))]
    · rfl

theorem stepd_eq {ops : Array Oper} {i : Nat} {K : Fr → Hp → Prop} : stepd P ty tb n0 ops i o fr H K ↔ match wantF ops o fr with
    | some true => opd P ty tb n0 ops i o fr H fun v fr' H' => K (putF fr' o.dst v) H'
    | some false => K (putF fr o.dst (.tup [])) H
    | none => False := by
  unfold stepd
  rw [guardx_eq]
  simp only [forceA_eq, putx_eq]
  exact Iff.rfl

theorem stepd_det {ops : Array Oper} {i : Nat} {K : Fr → Hp → Prop} (hp : pureB o = true) (ht : tight ops i = false) (h : stepd P ty tb n0 ops i o fr H K) :
    ∃ v, K (putF fr o.dst v) H ∧ ∀ (fr' : Fr) (H' : Hp) (K' : Fr → Hp → Prop), Agree ops o fr fr' → Hle H H' → K' (putF fr' o.dst v) H' → stepd P ty tb n0 ops i o fr' H' K' := by
  rw [stepd_eq] at h
  split at h
  · rename_i hw
    obtain ⟨v, h1, h2⟩ := opd_det hp ht h
    refine ⟨v, h1, fun fr' H' K' ha hle hk => ?_⟩
    rw [stepd_eq, wantF_agree ha, hw]
    exact h2 fr' H' _ ha.ev hle hk
  · rename_i hw
    refine ⟨.tup [], h, fun fr' H' K' ha hle hk => ?_⟩
    rw [stepd_eq, wantF_agree ha, hw]
    exact hk
  · exact h.elim

theorem not_tight {ops : Array Oper} {i j : Nat} (hj : j < ops.size) (hne : j ≠ i) (h1 : ((masks ops.toList []).getD i 0).testBit j = false) (h2 : ((masks ops.toList []).getD j 0).testBit i = false) : tight ops i = false := by
  unfold tight
  simp only [List.all_eq_false]
  exact ⟨j, by simpa using hj, by rw [h1, h2]; simp [hne]⟩

theorem swap_step {ops : Array Oper} {j i : Nat} {x y : Oper} (hj : ops[j]? = some x) (hi : ops[i]? = some y) (hne : j ≠ i) (h1 : ((masks ops.toList []).getD i 0).testBit j = false) (h2 : ((masks ops.toList []).getD j 0).testBit i = false)
    (hs : swapB ops j i = true) {fr : Fr} {H : Hp} {K : Fr → Hp → Prop} (h : stepd P ty tb n0 ops j x fr H fun fr H => stepd P ty tb n0 ops i y fr H K) :
    stepd P ty tb n0 ops i y fr H fun fr H => stepd P ty tb n0 ops j x fr H K := by
  have lj := (Array.getElem?_eq_some_iff.1 hj).1
  have li := (Array.getElem?_eq_some_iff.1 hi).1
  have tj : tight ops j = false := not_tight li (Ne.symm hne) h2 h1
  have ti : tight ops i = false := not_tight lj hne h1 h2
  simp only [swapB, hj, hi, Bool.and_eq_true, Bool.or_eq_true] at hs
  obtain ⟨⟨hap, hpx⟩, hy⟩ := hs
  obtain ⟨a1, a2, a3⟩ := Oper.apart_spec hap
  obtain ⟨v, k1, k2⟩ := stepd_det hpx tj h
  rcases hy with hpy | hal
  · obtain ⟨u, m1, m2⟩ := stepd_det hpy ti k1
    refine m2 fr H _ (Agree.put a1) (Hle.refl H) (k2 _ H _ (Agree.put' a3) (Hle.refl H) ?_)
    rw [putF_comm _ _ _ _ _ (fun t ht he => a2 t he ht)]
    exact m1
  · unfold allocB at hal
    split at hal
    · rename_i e ho hg
      have red : ∀ fr H (K : Fr → Hp → Prop), stepd P ty tb n0 ops i y fr H K ↔ match ty e with
          | some t => K (putF fr y.dst (.ptr H.length 0)) (H ++ [some ⟨e, t.zero⟩])
          | none => False := by
        intro fr H K
        rw [stepd_eq]
        simp only [wantF, hg, opd, ho]
        unfold opx
        rw [ho]
        simp only [lenF_eq, snocF_eq, Nat.zero_add]
        cases ty e <;> exact Iff.rfl
      rw [red] at k1 ⊢
      split at k1
      · rename_i t hte
        refine k2 _ _ _ (Agree.put' a3) (Hle.snoc H _) ?_
        rw [putF_comm _ _ _ _ _ (fun t ht he => a2 t he ht)]
        exact k1
      · exact k1.elim
    · cases hal

/-- An operation pulled ahead of those that may follow it as well. -/
theorem pull {ops : Array Oper} {i : Nat} {y : Oper} (hi : ops[i]? = some y) : ∀ (R1 R2 : List Nat) {fr : Fr} {H : Hp} {K : Fr → Hp → Prop},
    (∀ j ∈ R1, j ≠ i ∧ ((masks ops.toList []).getD i 0).testBit j = false ∧ ((masks ops.toList []).getD j 0).testBit i = false ∧ swapB ops j i = true) →
    rd P ty tb n0 ops (R1 ++ i :: R2) fr H K → stepd P ty tb n0 ops i y fr H fun fr H => rd P ty tb n0 ops (R1 ++ R2) fr H K
  | [], R2, fr, H, K, _, h => by
    simpa [rd, hi] using h
  | j :: R1, R2, fr, H, K, hall, h => by
    obtain ⟨c1, c2, c3, c4⟩ := hall j (by simp)
    have hx : ∃ x, ops[j]? = some x := by
      simp only [swapB] at c4
      split at c4
      · rename_i x _ hx _; exact ⟨x, hx⟩
      · cases c4
    obtain ⟨x, hx⟩ := hx
    have lj := (Array.getElem?_eq_some_iff.1 hx).1
    have li := (Array.getElem?_eq_some_iff.1 hi).1
    have hpx : pureB x = true := by
      simp only [swapB, hx, hi, Bool.and_eq_true] at c4; exact c4.1.2
    simp only [List.cons_append, rd, hx] at h ⊢
    refine swap_step hx hi c1 c2 c3 c4 ?_
    obtain ⟨v, k1, k2⟩ := stepd_det hpx (not_tight li (Ne.symm c1) c3 c2) h
    exact k2 _ _ _ (Agree.refl _ _ _) (Hle.refl _) (pull hi R1 R2 (fun k hk => hall k (by simp [hk])) k1)
end
end Go.Ab
