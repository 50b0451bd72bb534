/- Abstract states: append in place; the call of a function by its contract. -/
import Derived.Test.YtkcoepeeamooiaaAb1
set_option linter.unusedVariables false
set_option linter.unusedSimpArgs false
namespace Go.Ab
open Go Classical

def weakH (tg rf : Nat → Bool) (H : Hp) : Hp := H.map (Option.map fun (B : Blk) => { B with cells := weaks tg rf B.cells })
def cleanH (tg rf : Nat → Bool) (H : Hp) : Prop := ∀ (k : Nat) (B : Blk), H[k]? = some (some B) → cleans tg rf B.cells = true
theorem weakH_at {tg rf : Nat → Bool} {H : Hp} {i : Nat} {B : Blk} (h : (weakH tg rf H)[i]? = some (some B)) : ∃ C, H[i]? = some (some C) ∧ B = { C with cells := weaks tg rf C.cells } := by
  unfold weakH at h
  rw [List.getElem?_map] at h
  cases hh : H[i]? with
  | none => rw [hh] at h; simp at h
  | some x =>
    rw [hh] at h
    cases x with
    | none => simp at h
    | some C => simp at h; exact ⟨C, rfl, h.symm⟩
theorem cleanH_weak (tg rf : Nat → Bool) (H : Hp) : cleanH tg rf (weakH tg rf H) := fun k B hB => by
  obtain ⟨C, _, rfl⟩ := weakH_at hB
  exact weaks_clean tg rf _
theorem weakH_some {tg rf : Nat → Bool} {H : Hp} {i : Nat} {C : Blk} (h : H[i]? = some (some C)) : (weakH tg rf H)[i]? = some (some { C with cells := weaks tg rf C.cells }) := by
  unfold weakH; rw [List.getElem?_map, h]; rfl
theorem Inv.weak {γ : Gh} {H : Hp} {w : World} (h : Inv γ H w) (tg rf : Nat → Bool) : Inv γ (weakH tg rf H) w := by
  refine ⟨fun i b hi => ?_, fun i B hB => ?_, h.inj, h.own, h.tag⟩
  · obtain ⟨B, hB⟩ := h.dom i b hi; exact ⟨_, weakH_some hB⟩
  · obtain ⟨C, hC, rfl⟩ := weakH_at hB
    obtain ⟨b, cs, h1, h2, h3, h4⟩ := h.blk i C hC
    refine ⟨b, cs, h1, h2, by rw [weaks_length]; exact h3, fun j j1 j2 => ?_⟩
    rw [weaks_at]; exact (h4 j (by rw [weaks_length] at j1; exact j1) j2).weak tg rf

/-- append in place: the row's block, beyond what is published. -/
theorem step_extend {γ : Gh} {H : Hp} {w w' : World} (h : Inv γ H w) {b g l m : Nat} {cs cs' : Array Value} {e : TypeId} (g' : Nat) (ho : γ.own b = some (some g, l)) (hb : w.heap[b]? = some (.cells cs e (0, 0)))
    (hb' : w'.heap[b]? = some (.cells cs' e (0, 0))) (hsz : cs'.size = cs.size) (hkeep : ∀ j, j < l → cs'[j]? = cs[j]?) (hm : l + m ≤ cs.size)
    (hoth : ∀ c, c ≠ b → w'.heap[c]? = w.heap[c]?) (hos : w'.os = w.os) (htape : w'.tape = w.tape) (hout : w'.output = w.output) (hs : w'.heap.size = w.heap.size) (hcl : cleanH (one g) no H) :
    Inv (γ.withOwn b (some g', l + m)) H w' ∧ Ext (one g) no γ w (γ.withOwn b (some g', l + m)) w' ∧ Evo γ w (γ.withOwn b (some g', l + m)) w' := by
  have hx : Ext (one g) no γ w (γ.withOwn b (some g', l + m)) w' := by
    refine ⟨fun c o v h1 h2 => ?_, fun i c _ hi => hi, fun c g1 l1 cs1 e1 hg h1 h2 => ?_⟩
    · by_cases e1 : c = b
      · subst e1
        have hol := h1.2 _ _ ho
        refine ⟨⟨h1.1, fun t l' ht => ?_⟩, ?_⟩
        · simp only [Gh.withOwn, if_true] at ht
          injection ht with ht; injection ht with _ ht; omega
        · rw [cell_of_heap hb'] ; rw [cell_of_heap hb] at h2; rw [hkeep o hol]; exact h2
      · refine ⟨⟨h1.1, fun t l' ht => ?_⟩, ?_⟩
        · simp only [Gh.withOwn] at ht; rw [if_neg e1] at ht; exact h1.2 t l' ht
        · rw [World.cell?_of_block (w := w) (a := ⟨c, o, none⟩) (hoth c e1)]; exact h2
    · have e1' : c ≠ b := fun e' => by
        subst e'; rw [ho] at h1; injection h1 with h1; injection h1 with h1 _; injection h1 with h1
        simp [one, h1] at hg
      exact ⟨by simp only [Gh.withOwn]; rw [if_neg e1']; exact h1, cs1, by rw [hoth c e1']; exact h2, rfl⟩
  have hnl : ∀ i, γ.live i ≠ some b := (h.own b _ ho).2
  refine ⟨⟨h.dom, fun i B hB => ?_, h.inj, fun c x hc => ?_, fun c g1 l1 hc => ?_⟩, hx, ⟨hos, htape, hout, by omega, fun c hc hn hno => ?_, fun c g1 l1 hc => ?_, fun _ _ h => h, fun _ _ h => .inl h, fun c x hc => ?_⟩⟩
  · obtain ⟨c, cs1, h1, h2, h3, h4⟩ := h.blk i B hB
    refine ⟨c, cs1, h1, by rw [hoth c (fun e' => hnl i (by rw [h1, e']))]; exact h2, h3, fun j j1 j2 => (h4 j j1 j2).mono hx (cleans_at (hcl i B hB) j j1)⟩
  · simp only [Gh.withOwn] at hc
    split at hc
    · rename_i e1; subst e1; exact ⟨by rw [hs]; exact (h.own _ _ ho).1, hnl⟩
    · exact ⟨by rw [hs]; exact (h.own _ _ hc).1, (h.own _ _ hc).2⟩
  · simp only [Gh.withOwn] at hc
    split at hc
    · rename_i e1; subst e1; injection hc with hc; injection hc with _ hc; subst hc; exact ⟨cs', e, hb', by omega⟩
    · rename_i e1
      obtain ⟨cs1, e2, k1, k2⟩ := h.tag c g1 l1 hc
      exact ⟨cs1, e2, by rw [hoth c e1]; exact k1, k2⟩
  · have e1 : c ≠ b := fun e' => by subst e'; exact hno _ _ ho
    exact ⟨hoth c e1, by simp only [Gh.withOwn]; rw [if_neg e1]⟩
  · by_cases e1 : c = b
    · subst e1
      rw [ho] at hc; injection hc with hc; injection hc with hg1 hl1; subst hl1
      refine ⟨fun cs1 e2 hb1 => ?_, fun t l' ht => ?_⟩
      · rw [hb] at hb1; injection hb1 with hb1; injection hb1 with hb1 hb2 _; subst hb1; subst hb2
        exact ⟨cs', hb', hsz, hkeep⟩
      · simp only [Gh.withOwn, if_true] at ht
        injection ht with ht; injection ht with _ ht; omega
    · refine ⟨fun cs1 e2 hb1 => ⟨cs1, by rw [hoth c e1]; exact hb1, rfl, fun _ _ => rfl⟩, fun t l' ht => ?_⟩
      simp only [Gh.withOwn] at ht; rw [if_neg e1, hc] at ht
      injection ht with ht; injection ht with _ ht; omega
  · simp only [Gh.withOwn] at hc
    split at hc
    · rename_i e1; subst e1; exact .inl (by rw [ho]; simp)
    · exact .inl (by rw [hc]; simp)

/-! ### Contracts -/
/-- What a function, called with these, over this heap, comes to. -/
def Trip (P : Program) (f : FuncId) (as : List AV) (H : Hp) (Q : AV → Hp → Prop) : Prop :=
  ∀ γ w vs, Inv γ H w → RAs γ w as vs → Calls P f vs w fun e w' => ∃ γ' r v H', e = .returned v ∧ Inv γ' H' w' ∧ RA γ' w' r v ∧ Evo γ w γ' w' ∧ Q r H'
/-- The same, the caller's frame beside it. -/
def CallP (P : Program) (f : FuncId) (as : List AV) (fr : Fr) (H : Hp) (K : AV → Fr → Hp → Prop) : Prop :=
  ∀ γ w vs tm, Inv γ H w → RAs γ w as vs → RAs γ w fr tm → Calls P f vs w fun e w' => ∃ γ' r v fr' H', e = .returned v ∧ Inv γ' H' w' ∧ RA γ' w' r v ∧ RAs γ' w' fr' tm ∧ Evo γ w γ' w' ∧ K r fr' H'

mutual
def AV.retag (ρ : Nat → Option Nat) : AV → AV
  | .app g l => .app ((ρ g).getD g) l
  | .fn f cs => .fn f (retags ρ cs)
  | .agg cs => .agg (retags ρ cs)
  | .tup cs => .tup (retags ρ cs)
  | a => a
def retags (ρ : Nat → Option Nat) : List AV → List AV
  | [] => []
  | c :: cs => c.retag ρ :: retags ρ cs
end
theorem retags_length (ρ : Nat → Option Nat) (cs : List AV) : (retags ρ cs).length = cs.length := by
  induction cs with
  | nil => rfl
  | cons c cs ih => simp [retags, ih]
theorem retags_at (ρ : Nat → Option Nat) : ∀ (cs : List AV) (i : Nat) (h1 : i < (retags ρ cs).length), (retags ρ cs)[i] = (cs[i]'(by rw [retags_length] at h1; exact h1)).retag ρ := by
  intro cs
  induction cs with
  | nil => intro i h1; simp [retags] at h1
  | cons c cs ih =>
    intro i h1
    cases i with
    | zero => rfl
    | succ i => simp only [retags, List.getElem_cons_succ]; exact ih i _

/-- The callee's ghost state, where it sees no local block of its caller. -/
noncomputable def Gh.pure (γ : Gh) (ρ : Nat → Option Nat) : Gh :=
  { live := fun _ => none
    own := fun b => if ∃ i, γ.live i = some b then some (none, 0) else match γ.own b with
      | some (some g, l) => some (ρ g, l)
      | x => x }
theorem Gh.pure_ok {γ : Gh} {ρ : Nat → Option Nat} {b o : Nat} (h : γ.ok b o) : (γ.pure ρ).ok b o := by
  refine ⟨fun i hi => (by cases hi), fun t l ht => ?_⟩
  simp only [Gh.pure] at ht
  rw [if_neg (fun ⟨i, hi⟩ => h.1 i hi)] at ht
  cases ho : γ.own b with
  | none => rw [ho] at ht; cases ht
  | some x =>
    obtain ⟨t', l'⟩ := x
    have := h.2 _ _ ho
    rw [ho] at ht
    cases t' <;> (injection ht with ht; injection ht with _ ht; omega)
theorem RA.pure {γ : Gh} {H : Hp} {w : World} {ρ : Nat → Option Nat} (hI : Inv γ H w) {a : AV} {v : Value} (h : RA γ w a v) : a.clean (fun g => (ρ g).isNone) (fun _ => true) = true → RA (γ.pure ρ) w (a.retag ρ) v := by
  have mono : ∀ {x : D} {v : Value}, RD γ.ok w x v → RD (γ.pure ρ).ok w x v := fun h => h.mono fun b o v h1 h2 => ⟨Gh.pure_ok h1, h2⟩
  induction h with
  | d x v h => exact fun _ => .d x v (mono h)
  | nils => exact fun _ => .nils
  | full l A h => exact fun _ => .full l A (mono h)
  | appF g l A h => exact fun _ => .appF _ l A (mono h)
  | app g l b cap cs e h ho hb hc hn hm =>
    intro hcl
    have hcl' : (ρ g).isNone = false := by simpa [AV.clean] using hcl
    obtain ⟨g', hg'⟩ : ∃ g', ρ g = some g' := by cases hr : ρ g <;> simp_all
    refine .app _ l b cap cs e (mono h) ?_ hb hc hn hm
    simp only [Gh.pure]
    rw [if_neg (fun ⟨i, hi⟩ => (hI.own _ _ ho).2 i hi), ho]; simp [hg']
  | ptr id off b h => exact fun hcl => by simp [AV.clean] at hcl
  | rp cs b o f ho hcell h => exact fun _ => .rp cs b o f ho (fun j hj => ⟨Gh.pure_ok (hcell j hj).1, (hcell j hj).2⟩) (fun j hj => mono (h j hj))
  | os id off s n b cap h hn hm => exact fun hcl => by simp [AV.clean] at hcl
  | fn f caps vs hl _ ih =>
    intro hcl
    refine .fn f _ vs (by rw [retags_length]; exact hl) fun i h1 h2 => ?_
    rw [retags_at]; exact ih i (by rw [retags_length] at h1; exact h1) h2 (cleans_at hcl i _)
  | agg cs vs hl _ ih =>
    intro hcl
    refine .agg _ vs (by rw [retags_length]; exact hl) fun i h1 h2 => ?_
    rw [retags_at]; exact ih i (by rw [retags_length] at h1; exact h1) h2 (cleans_at hcl i _)
  | tup cs vs hl _ ih =>
    intro hcl
    refine .tup _ vs (by rw [retags_length]; exact hl) fun i h1 h2 => ?_
    rw [retags_at]; exact ih i (by rw [retags_length] at h1; exact h1) h2 (cleans_at hcl i _)
  | nilp => exact fun _ => .nilp
  | nilf => exact fun _ => .nilf
  | top v => exact fun _ => .top v
theorem Inv.pure {γ : Gh} {H : Hp} {w : World} (h : Inv γ H w) (ρ : Nat → Option Nat) : Inv (γ.pure ρ) [] w := by
  refine ⟨fun i b hi => (by cases hi), fun i B hB => (by simp at hB), fun i j b hi => (by cases hi), fun b x hb => ⟨?_, fun i hi => (by cases hi)⟩, fun b g l hb => ?_⟩
  · simp only [Gh.pure] at hb
    split at hb
    · rename_i hh; obtain ⟨i, hi⟩ := hh; exact h.lt hi
    · cases ho : γ.own b with
      | none => rw [ho] at hb; cases hb
      | some y => exact (h.own b y ho).1
  · simp only [Gh.pure] at hb
    split at hb
    · cases hb
    · cases ho : γ.own b with
      | none => rw [ho] at hb; cases hb
      | some y =>
        obtain ⟨t, l'⟩ := y
        rw [ho] at hb
        cases t with
        | none => cases hb
        | some g' =>
          injection hb with hb; injection hb with _ hb; subst hb
          exact h.tag b g' l' ho

/-- The caller's ghost state behind the call. -/
noncomputable def Gh.back (γ γ' : Gh) (ρ : Nat → Option Nat) : Gh :=
  { live := γ.live
    own := fun b => if ∃ i, γ.live i = some b then none else match γ.own b with
      | some (some g, l) => if (ρ g).isSome then γ'.own b else some (some g, l)
      | some (none, l) => some (none, l)
      | none => γ'.own b }

theorem CallP.pure {P : Program} {f : FuncId} {as : List AV} {fr : Fr} {H : Hp} {K : AV → Fr → Hp → Prop} (ρ : Nat → Option Nat) {Q : AV → Prop} (hT : Trip P f (retags ρ as) [] fun r H' => H' = [] ∧ Q r)
    (hc : cleans (fun g => (ρ g).isNone) (fun _ => true) as = true) (hK : ∀ r, Q r → K r (weaks (fun g => (ρ g).isSome) no fr) (weakH (fun g => (ρ g).isSome) no H)) : CallP P f as fr H K := by
  intro γ w vs tm hI hA hF
  have hA' : RAs (γ.pure ρ) w (retags ρ as) vs := ⟨by rw [retags_length]; exact hA.1, fun i h1 h2 => by
    rw [retags_at]; exact (hA.2 i (by rw [retags_length] at h1; exact h1) h2).pure hI (cleans_at hc i _)⟩
  refine (hT (γ.pure ρ) w vs (hI.pure ρ) hA').mono fun e w' ⟨γ', r, v, H', he, hI', hr, hE, hH', hQ⟩ => ?_
  subst hH'
  have nolive' : ∀ i b, γ'.live i ≠ some b := fun i b hi => by obtain ⟨B, hB⟩ := hI'.dom i b hi; simp at hB
  -- what the callee left alone
  have own_live : ∀ i b, γ.live i = some b → (γ.pure ρ).own b = some (none, 0) := fun i b hi => by simp only [Gh.pure]; rw [if_pos ⟨i, hi⟩]
  have own_non : ∀ b, (∀ i, γ.live i ≠ some b) → (γ.pure ρ).own b = match γ.own b with | some (some g, l) => some (ρ g, l) | x => x := fun b hn => by simp only [Gh.pure]; rw [if_neg (fun ⟨i, hi⟩ => hn i hi)]
  have quiet : ∀ b, b < w.heap.size → (∀ g l, (γ.pure ρ).own b ≠ some (some g, l)) → w'.heap[b]? = w.heap[b]? ∧ γ'.own b = (γ.pure ρ).own b := fun b hb ho => hE.same b hb (fun i hi => (by cases hi)) ho
  have q_live : ∀ i b, γ.live i = some b → w'.heap[b]? = w.heap[b]? ∧ γ'.own b = some (none, 0) := fun i b hi => by
    have := quiet b (hI.lt hi) (fun g l => by rw [own_live i b hi]; simp)
    rw [own_live i b hi] at this; exact this
  have q_none : ∀ b, b < w.heap.size → (∀ i, γ.live i ≠ some b) → γ.own b = none → w'.heap[b]? = w.heap[b]? ∧ γ'.own b = none := fun b hb hn ho => by
    have h1 := own_non b hn; rw [ho] at h1
    have := quiet b hb (fun g l => by rw [h1]; simp)
    rw [h1] at this; exact this
  have q_out : ∀ b l, γ.own b = some (none, l) → w'.heap[b]? = w.heap[b]? ∧ γ'.own b = some (none, l) := fun b l ho => by
    have h1 := own_non b (hI.own _ _ ho).2; rw [ho] at h1
    have := quiet b (hI.own _ _ ho).1 (fun g l => by rw [h1]; simp)
    rw [h1] at this; exact this
  have q_keep : ∀ b g l, γ.own b = some (some g, l) → ρ g = none → w'.heap[b]? = w.heap[b]? ∧ γ'.own b = some (none, l) := fun b g l ho hg => by
    have h1 := own_non b (hI.own _ _ ho).2; rw [ho] at h1; simp only [hg] at h1
    have := quiet b (hI.own _ _ ho).1 (fun g l => by rw [h1]; simp)
    rw [h1] at this; exact this
  have q_tip : ∀ b g l g', γ.own b = some (some g, l) → ρ g = some g' → (∀ cs e, w.heap[b]? = some (.cells cs e (0, 0)) → ∃ cs', w'.heap[b]? = some (.cells cs' e (0, 0)) ∧ cs'.size = cs.size ∧ ∀ j, j < l → cs'[j]? = cs[j]?) ∧ ∀ t l', γ'.own b = some (t, l') → l ≤ l' := fun b g l g' ho hg => by
    have h1 := own_non b (hI.own _ _ ho).2; rw [ho] at h1; simp only [hg] at h1
    exact hE.tip b g' l h1
  have back_non : ∀ b, (∀ i, γ.live i ≠ some b) → (γ.back γ' ρ).own b = match γ.own b with | some (some g, l) => if (ρ g).isSome then γ'.own b else some (some g, l) | some (none, l) => some (none, l) | none => γ'.own b := fun b hn => by
    simp only [Gh.back]; rw [if_neg (fun ⟨i, hi⟩ => hn i hi)]
  have back_live : ∀ i b, γ.live i = some b → (γ.back γ' ρ).own b = none := fun i b hi => by simp only [Gh.back]; rw [if_pos ⟨i, hi⟩]
  have hx : Ext (fun g => (ρ g).isSome) no γ w (γ.back γ' ρ) w' := by
    refine ⟨fun b o v h1 h2 => ?_, fun i b _ hi => hi, fun b g l cs e hg h1 h2 => ?_⟩
    · have hb := cell_lt h2
      have hbn := back_non b h1.1
      cases ho : γ.own b with
      | none =>
        obtain ⟨k1, k2⟩ := q_none b hb h1.1 ho
        rw [ho] at hbn
        exact ⟨⟨h1.1, fun t l ht => by rw [hbn] at ht; simp only [k2] at ht; cases ht⟩, by rw [World.cell?_of_block (w := w) (a := ⟨b, o, none⟩) k1]; exact h2⟩
      | some x =>
        obtain ⟨t0, l0⟩ := x
        have hol := h1.2 _ _ ho
        rw [ho] at hbn
        cases t0 with
        | none =>
          obtain ⟨k1, k2⟩ := q_out b l0 ho
          exact ⟨⟨h1.1, fun t l ht => by rw [hbn] at ht; simp only at ht; injection ht with ht; injection ht with _ ht; omega⟩, by rw [World.cell?_of_block (w := w) (a := ⟨b, o, none⟩) k1]; exact h2⟩
        | some g =>
          cases hg : ρ g with
          | none =>
            obtain ⟨k1, k2⟩ := q_keep b g l0 ho hg
            refine ⟨⟨h1.1, fun t l ht => ?_⟩, by rw [World.cell?_of_block (w := w) (a := ⟨b, o, none⟩) k1]; exact h2⟩
            rw [hbn] at ht; simp only [hg] at ht; simp at ht; omega
          | some g' =>
            obtain ⟨k1, k2⟩ := q_tip b g l0 g' ho hg
            obtain ⟨cs, e, c1, c2⟩ := hI.tag b g l0 ho
            obtain ⟨cs', d1, d2, d3⟩ := k1 cs e c1
            refine ⟨⟨h1.1, fun t l ht => ?_⟩, ?_⟩
            · rw [hbn] at ht; simp only [hg] at ht; simp at ht
              have := k2 t l ht; omega
            · rw [cell_of_heap d1, d3 o hol]; rw [cell_of_heap c1] at h2; exact h2
    · have hg' : ρ g = none := by simpa using hg
      obtain ⟨k1, k2⟩ := q_keep b g l h1 hg'
      refine ⟨?_, cs, by rw [k1]; exact h2, rfl⟩
      rw [back_non b (hI.own _ _ h1).2, h1]; simp [hg']
  have hxr : Ext no no γ' w' (γ.back γ' ρ) w' := by
    refine ⟨fun b o v h1 h2 => ⟨⟨fun i hi => ?_, fun t l ht => ?_⟩, h2⟩, fun i b _ hi => absurd hi (nolive' i b), fun b g l cs e _ h1 h2 => ⟨?_, cs, h2, rfl⟩⟩
    · have := h1.2 _ _ (q_live i b hi).2; omega
    · by_cases hl : ∃ i, γ.live i = some b
      · obtain ⟨i, hi⟩ := hl
        rw [back_live i b hi] at ht; cases ht
      · have hn : ∀ i, γ.live i ≠ some b := fun i hi => hl ⟨i, hi⟩
        rw [back_non b hn] at ht
        cases ho : γ.own b with
        | none => rw [ho] at ht; exact h1.2 t l ht
        | some x =>
          obtain ⟨t0, l0⟩ := x
          rw [ho] at ht
          cases t0 with
          | none => simp only at ht; injection ht with ht; injection ht with _ ht; have := h1.2 _ _ (q_out b l0 ho).2; omega
          | some g =>
            cases hg : ρ g with
            | none => simp only [hg] at ht; simp at ht; have := h1.2 _ _ (q_keep b g l0 ho hg).2; omega
            | some g' => simp only [hg] at ht; simp at ht; exact h1.2 t l ht
    · have hl : ¬ ∃ i, γ.live i = some b := fun ⟨i, hi⟩ => by rw [(q_live i b hi).2] at h1; cases h1
      have hn : ∀ i, γ.live i ≠ some b := fun i hi => hl ⟨i, hi⟩
      rw [back_non b hn]
      cases ho : γ.own b with
      | none => exact h1
      | some x =>
        obtain ⟨t0, l0⟩ := x
        cases t0 with
        | none => rw [(q_out b l0 ho).2] at h1; cases h1
        | some g1 =>
          cases hg : ρ g1 with
          | none => rw [(q_keep b g1 l0 ho hg).2] at h1; cases h1
          | some g' => simp [hg]; exact h1
  refine ⟨γ.back γ' ρ, r, v, _, _, he, ⟨fun i b hi => ?_, fun i B hB => ?_, hI.inj, fun b x hb => ?_, fun b g l hb => ?_⟩, hr.mono hxr (AV.clean_no' _), (hF.weak (fun g => (ρ g).isSome) no).mono hx (weaks_clean _ _ _), ?_, hK r hQ⟩
  · obtain ⟨B, hB⟩ := hI.dom i b hi; exact ⟨_, weakH_some hB⟩
  · obtain ⟨C, hC, rfl⟩ := weakH_at hB
    obtain ⟨b, cs, h1, h2, h3, h4⟩ := hI.blk i C hC
    refine ⟨b, cs, h1, by rw [(q_live i b h1).1]; exact h2, by rw [weaks_length]; exact h3, fun j j1 j2 => ?_⟩
    rw [weaks_at]; exact ((h4 j (by rw [weaks_length] at j1; exact j1) j2).weak _ no).mono hx (AV.weak_clean _ _ _)
  · have hl : ¬ ∃ i, γ.live i = some b := fun ⟨i, hi⟩ => by rw [back_live i b hi] at hb; cases hb
    have hn : ∀ i, γ.live i ≠ some b := fun i hi => hl ⟨i, hi⟩
    refine ⟨?_, hn⟩
    rw [back_non b hn] at hb
    cases ho : γ.own b with
    | none => rw [ho] at hb; exact (hI'.own b x hb).1
    | some y => exact Nat.lt_of_lt_of_le (hI.own b y ho).1 hE.size
  · have hl : ¬ ∃ i, γ.live i = some b := fun ⟨i, hi⟩ => by rw [back_live i b hi] at hb; cases hb
    have hn : ∀ i, γ.live i ≠ some b := fun i hi => hl ⟨i, hi⟩
    rw [back_non b hn] at hb
    cases ho : γ.own b with
    | none => rw [ho] at hb; exact hI'.tag b g l hb
    | some y =>
      obtain ⟨t0, l0⟩ := y
      rw [ho] at hb
      cases t0 with
      | none => cases hb
      | some g1 =>
        cases hg : ρ g1 with
        | none =>
          simp only [hg] at hb; simp at hb; obtain ⟨rfl, rfl⟩ := hb
          obtain ⟨cs, e, c1, c2⟩ := hI.tag b g1 l0 ho
          exact ⟨cs, e, by rw [(q_keep b g1 l0 ho hg).1]; exact c1, c2⟩
        | some g' => simp only [hg] at hb; simp at hb; exact hI'.tag b g l hb
  · refine ⟨hE.os, hE.tape, hE.output, hE.size, fun b hb hn ho => ?_, fun b g l ho => ?_, fun _ _ h => h, fun _ _ h => .inl h, fun b x hb => ?_⟩
    · have hbn := back_non b hn
      cases h1 : γ.own b with
      | none => rw [h1] at hbn; obtain ⟨k1, k2⟩ := q_none b hb hn h1; exact ⟨k1, hbn.trans k2⟩
      | some y =>
        obtain ⟨t0, l0⟩ := y
        cases t0 with
        | none => rw [h1] at hbn; exact ⟨(q_out b l0 h1).1, hbn⟩
        | some g => exact absurd h1 (ho g l0)
    · have hbn := back_non b (hI.own _ _ ho).2
      rw [ho] at hbn
      cases hg : ρ g with
      | none =>
        simp only [hg] at hbn; simp at hbn
        refine ⟨fun cs e hc => ⟨cs, by rw [(q_keep b g l ho hg).1]; exact hc, rfl, fun _ _ => rfl⟩, fun t l' ht => ?_⟩
        rw [hbn] at ht; injection ht with ht; injection ht with _ ht; omega
      | some g' =>
        simp only [hg] at hbn; simp at hbn
        obtain ⟨k1, k2⟩ := q_tip b g l g' ho hg
        exact ⟨k1, fun t l' ht => k2 t l' (by rw [← hbn]; exact ht)⟩
    · by_cases h1 : γ.own b = none
      · refine .inr ?_
        rcases Nat.lt_or_ge b w.heap.size with hlt | hge
        · have hl : ¬ ∃ i, γ.live i = some b := fun ⟨i, hi⟩ => by rw [back_live i b hi] at hb; cases hb
          have hn : ∀ i, γ.live i ≠ some b := fun i hi => hl ⟨i, hi⟩
          rw [back_non b hn, h1] at hb
          rw [(q_none b hlt hn h1).2] at hb; cases hb
        · exact hge
      · exact .inl h1
end Go.Ab
