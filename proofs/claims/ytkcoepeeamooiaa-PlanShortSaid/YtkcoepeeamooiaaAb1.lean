/- Abstract states: what weakens, and what single steps keep. -/
import Derived.Test.YtkcoepeeamooiaaAb0
set_option linter.unusedVariables false
set_option linter.unusedSimpArgs false
namespace Go.Ab
open Go

mutual
/-- No tag of tg, no block of rf in it. -/
def AV.clean (tg rf : Nat → Bool) : AV → Bool
  | .app g _ => !tg g
  | .ptr i _ => !rf i
  | .os i _ _ _ => !rf i
  | .fn _ cs => cleans tg rf cs
  | .agg cs => cleans tg rf cs
  | .tup cs => cleans tg rf cs
  | _ => true
def cleans (tg rf : Nat → Bool) : List AV → Bool
  | [] => true
  | c :: cs => c.clean tg rf && cleans tg rf cs
end
theorem cleans_at {tg rf : Nat → Bool} {cs : List AV} (h : cleans tg rf cs = true) : ∀ i (h1 : i < cs.length), cs[i].clean tg rf = true := by
  induction cs with
  | nil => intro i h1; simp at h1
  | cons c cs ih =>
    simp only [cleans, Bool.and_eq_true] at h
    intro i h1
    cases i with
    | zero => exact h.1
    | succ i => exact ih h.2 i (by simpa using h1)
theorem cleans_of {tg rf : Nat → Bool} {cs : List AV} (h : ∀ i (h1 : i < cs.length), cs[i].clean tg rf = true) : cleans tg rf cs = true := by
  induction cs with
  | nil => rfl
  | cons c cs ih =>
    simp only [cleans, Bool.and_eq_true]
    exact ⟨h 0 (by simp), ih fun i h1 => h (i + 1) (by simpa using h1)⟩

mutual
/-- What is left of it where the tags of tg have no right any more, and the blocks of rf are gone. -/
def AV.weak (tg rf : Nat → Bool) : AV → AV
  | .app g l => if tg g then .d (.sl l) else .app g l
  | .ptr i o => if rf i then .top else .ptr i o
  | .os i o s n => if rf i then .top else .os i o s n
  | .fn f cs => .fn f (weaks tg rf cs)
  | .agg cs => .agg (weaks tg rf cs)
  | .tup cs => .tup (weaks tg rf cs)
  | .d x => .d x
  | .nils => .nils
  | .full l => .full l
  | .rp cs => .rp cs
  | .nilp => .nilp
  | .nilf => .nilf
  | .top => .top
def weaks (tg rf : Nat → Bool) : List AV → List AV
  | [] => []
  | c :: cs => c.weak tg rf :: weaks tg rf cs
end
theorem weaks_length (tg rf : Nat → Bool) (cs : List AV) : (weaks tg rf cs).length = cs.length := by
  induction cs with
  | nil => rfl
  | cons c cs ih => simp [weaks, ih]
theorem weaks_at (tg rf : Nat → Bool) : ∀ (cs : List AV) (i : Nat) (h1 : i < (weaks tg rf cs).length), (weaks tg rf cs)[i] = (cs[i]'(by rw [weaks_length] at h1; exact h1)).weak tg rf := by
  intro cs
  induction cs with
  | nil => intro i h1; simp [weaks] at h1
  | cons c cs ih =>
    intro i h1
    cases i with
    | zero => rfl
    | succ i => simp only [weaks, List.getElem_cons_succ]; exact ih i _
theorem weaks_eq (tg rf : Nat → Bool) (cs : List AV) : weaks tg rf cs = cs.map (·.weak tg rf) := by
  induction cs with
  | nil => rfl
  | cons c cs ih => simp [weaks, ih]

mutual
theorem AV.weak_clean (tg rf : Nat → Bool) : ∀ a : AV, (a.weak tg rf).clean tg rf = true
  | .app g l => by unfold AV.weak; split <;> simp_all [AV.clean]
  | .ptr i o => by unfold AV.weak; split <;> simp_all [AV.clean]
  | .os i o s n => by unfold AV.weak; split <;> simp_all [AV.clean]
  | .fn f cs => by simp only [AV.weak, AV.clean]; exact weaks_clean tg rf cs
  | .agg cs => by simp only [AV.weak, AV.clean]; exact weaks_clean tg rf cs
  | .tup cs => by simp only [AV.weak, AV.clean]; exact weaks_clean tg rf cs
  | .d x => rfl
  | .nils => rfl
  | .full l => rfl
  | .rp cs => rfl
  | .nilp => rfl
  | .nilf => rfl
  | .top => rfl
theorem weaks_clean (tg rf : Nat → Bool) : ∀ cs : List AV, cleans tg rf (weaks tg rf cs) = true
  | [] => rfl
  | c :: cs => by simp only [weaks, cleans, Bool.and_eq_true]; exact ⟨AV.weak_clean tg rf c, weaks_clean tg rf cs⟩
end

theorem RA.weak {γ : Gh} {w : World} (tg rf : Nat → Bool) {a : AV} {v : Value} (h : RA γ w a v) : RA γ w (a.weak tg rf) v := by
  induction h with
  | d x v h => exact .d x v h
  | nils => exact .nils
  | full l A h => exact .full l A h
  | appF g l A h =>
    unfold AV.weak
    split
    · exact .d _ _ h
    · exact .appF g l A h
  | app g l b cap cs e h ho hb hc hn hm =>
    unfold AV.weak
    split
    · exact .d _ _ h
    · exact .app g l b cap cs e h ho hb hc hn hm
  | ptr id off b h =>
    unfold AV.weak
    split
    · exact .top _
    · exact .ptr id off b h
  | rp cs b o f ho hcell h => exact .rp cs b o f ho hcell h
  | os id off s n b cap h hn hm =>
    unfold AV.weak
    split
    · exact .top _
    · exact .os id off s n b cap h hn hm
  | fn f caps vs hl _ ih =>
    refine .fn f _ vs (by rw [weaks_length]; exact hl) fun i h1 h2 => ?_
    rw [weaks_at]; exact ih i (by rw [weaks_length] at h1; exact h1) h2
  | agg cs vs hl _ ih =>
    refine .agg _ vs (by rw [weaks_length]; exact hl) fun i h1 h2 => ?_
    rw [weaks_at]; exact ih i (by rw [weaks_length] at h1; exact h1) h2
  | tup cs vs hl _ ih =>
    refine .tup _ vs (by rw [weaks_length]; exact hl) fun i h1 h2 => ?_
    rw [weaks_at]; exact ih i (by rw [weaks_length] at h1; exact h1) h2
  | nilp => exact .nilp
  | nilf => exact .nilf
  | top v => exact .top v

theorem RAs.weak {γ : Gh} {w : World} (tg rf : Nat → Bool) {as : List AV} {vs : Array Value} (h : RAs γ w as vs) : RAs γ w (weaks tg rf as) vs := by
  refine ⟨by rw [weaks_length]; exact h.1, fun i h1 h2 => ?_⟩
  rw [weaks_at]; exact (h.2 i (by rw [weaks_length] at h1; exact h1) h2).weak tg rf

/-- What a step keeps of values: of all but the tags of tg and the blocks of rf. -/
structure Ext (tg rf : Nat → Bool) (γ : Gh) (w : World) (γ' : Gh) (w' : World) : Prop where
  ok : ∀ b o v, γ.ok b o → w.cell? ⟨b, o, none⟩ = some v → γ'.ok b o ∧ w'.cell? ⟨b, o, none⟩ = some v
  live : ∀ i b, rf i = false → γ.live i = some b → γ'.live i = some b
  tip : ∀ b g l cs e, tg g = false → γ.own b = some (some g, l) → w.heap[b]? = some (.cells cs e (0, 0)) → γ'.own b = some (some g, l) ∧ ∃ cs', w'.heap[b]? = some (.cells cs' e (0, 0)) ∧ cs'.size = cs.size

theorem RA.mono {tg rf : Nat → Bool} {γ γ' : Gh} {w w' : World} (hx : Ext tg rf γ w γ' w') {a : AV} {v : Value} (h : RA γ w a v) : a.clean tg rf = true → RA γ' w' a v := by
  induction h with
  | d x v h => exact fun _ => .d x v (h.mono hx.ok)
  | nils => exact fun _ => .nils
  | full l A h => exact fun _ => .full l A (h.mono hx.ok)
  | appF g l A h => exact fun _ => .appF g l A (h.mono hx.ok)
  | app g l b cap cs e h ho hb hc hn hm =>
    intro hcl
    obtain ⟨h1, cs', h2, h3⟩ := hx.tip b g _ cs e (by simpa [AV.clean] using hcl) ho hb
    exact .app g l b cap cs' e (h.mono hx.ok) h1 h2 (by rw [h3]; exact hc) hn hm
  | ptr id off b h => exact fun hcl => .ptr id off b (hx.live _ _ (by simpa [AV.clean] using hcl) h)
  | rp cs b o f ho hcell h => exact fun _ => .rp cs b o f ho (fun j hj => hx.ok _ _ _ (hcell j hj).1 (hcell j hj).2) (fun j hj => (h j hj).mono hx.ok)
  | os id off s n b cap h hn hm => exact fun hcl => .os id off s n b cap (hx.live _ _ (by simpa [AV.clean] using hcl) h) hn hm
  | fn f caps vs hl _ ih => exact fun hcl => .fn f caps vs hl fun i h1 h2 => ih i h1 h2 (cleans_at hcl i h1)
  | agg cs vs hl _ ih => exact fun hcl => .agg cs vs hl fun i h1 h2 => ih i h1 h2 (cleans_at hcl i h1)
  | tup cs vs hl _ ih => exact fun hcl => .tup cs vs hl fun i h1 h2 => ih i h1 h2 (cleans_at hcl i h1)
  | nilp => exact fun _ => .nilp
  | nilf => exact fun _ => .nilf
  | top v => exact fun _ => .top v
theorem RAs.mono {tg rf : Nat → Bool} {γ γ' : Gh} {w w' : World} (hx : Ext tg rf γ w γ' w') {as : List AV} {vs : Array Value} (h : RAs γ w as vs) (hc : cleans tg rf as = true) : RAs γ' w' as vs :=
  ⟨h.1, fun i h1 h2 => (h.2 i h1 h2).mono hx (cleans_at hc i h1)⟩

def no : Nat → Bool := fun _ => false
mutual
theorem AV.clean_no' : ∀ a : AV, a.clean no no = true
  | .app g l => rfl
  | .ptr i o => rfl
  | .os i o s n => rfl
  | .fn f cs => by simp only [AV.clean]; exact cleans_no cs
  | .agg cs => by simp only [AV.clean]; exact cleans_no cs
  | .tup cs => by simp only [AV.clean]; exact cleans_no cs
  | .d x => rfl
  | .nils => rfl
  | .full l => rfl
  | .rp cs => rfl
  | .nilp => rfl
  | .nilf => rfl
  | .top => rfl
theorem cleans_no : ∀ cs : List AV, cleans no no cs = true
  | [] => rfl
  | c :: cs => by simp only [cleans, Bool.and_eq_true]; exact ⟨AV.clean_no' c, cleans_no cs⟩
end
/-! ### Steps -/
theorem Ext.refl (γ : Gh) (w : World) : Ext no no γ w γ w := ⟨fun _ _ _ h1 h2 => ⟨h1, h2⟩, fun _ _ _ h => h, fun b g l cs e _ h1 h2 => ⟨h1, cs, h2, rfl⟩⟩
theorem Evo.refl (γ : Gh) (w : World) : Evo γ w γ w := ⟨rfl, rfl, rfl, Nat.le_refl _, fun _ _ _ _ => ⟨rfl, rfl⟩, fun b g l h => ⟨fun cs e hb => ⟨cs, hb, rfl, fun _ _ => rfl⟩, fun t l' h' => by rw [h] at h'; injection h' with h'; injection h' with _ h'; omega⟩,
  fun _ _ h => h, fun _ _ h => .inl h, fun b x h => .inl (by rw [h]; simp)⟩
theorem Evo.trans {γ γ1 γ2 : Gh} {w w1 w2 : World} (h0 : ∀ b x, γ.own b = some x → b < w.heap.size ∧ ∀ i, γ.live i ≠ some b) (h : Evo γ w γ1 w1) (k : Evo γ1 w1 γ2 w2) : Evo γ w γ2 w2 := by
  have nolive : ∀ b, b < w.heap.size → (∀ i, γ.live i ≠ some b) → ∀ i, γ1.live i ≠ some b := fun b hb hn i hi => by
    rcases h.new i b hi with h1 | h1
    · exact hn i h1
    · omega
  refine ⟨k.os.trans h.os, k.tape.trans h.tape, k.output.trans h.output, Nat.le_trans h.size k.size, ?_, ?_, fun i b hi => k.live i b (h.live i b hi), ?_, ?_⟩
  · intro b hb hn ho
    obtain ⟨h1, h2⟩ := h.same b hb hn ho
    obtain ⟨k1, k2⟩ := k.same b (Nat.lt_of_lt_of_le hb h.size) (nolive b hb hn) (fun g l => by rw [h2]; exact ho g l)
    exact ⟨k1.trans h1, k2.trans h2⟩
  · intro b g l ho
    obtain ⟨hb, hn⟩ := h0 b _ ho
    obtain ⟨h1, h2⟩ := h.tip b g l ho
    have hb1 : b < w1.heap.size := Nat.lt_of_lt_of_le hb h.size
    have hn1 := nolive b hb hn
    cases ho1 : γ1.own b with
    | none =>
      obtain ⟨k1, k2⟩ := k.same b hb1 hn1 (fun g l => by rw [ho1]; simp)
      exact ⟨fun cs e hc => by rw [k1]; exact h1 cs e hc, fun t l' h' => by rw [k2, ho1] at h'; cases h'⟩
    | some x =>
      obtain ⟨t1, l1⟩ := x
      have hl1 := h2 t1 l1 ho1
      cases t1 with
      | none =>
        obtain ⟨k1, k2⟩ := k.same b hb1 hn1 (fun g l => by rw [ho1]; simp)
        exact ⟨fun cs e hc => by rw [k1]; exact h1 cs e hc, fun t l' h' => by rw [k2, ho1] at h'; injection h' with h'; injection h' with _ h'; omega⟩
      | some g1 =>
        obtain ⟨k1, k2⟩ := k.tip b g1 l1 ho1
        refine ⟨fun cs e hc => ?_, fun t l' h' => Nat.le_trans hl1 (k2 t l' h')⟩
        obtain ⟨cs1, e1, e2, e3⟩ := h1 cs e hc
        obtain ⟨cs2, f1, f2, f3⟩ := k1 cs1 e e1
        exact ⟨cs2, f1, f2.trans e2, fun j hj => (f3 j (by omega)).trans (e3 j hj)⟩
  · intro i b hi
    rcases k.new i b hi with h1 | h1
    · exact h.new i b h1
    · exact .inr (Nat.le_trans h.size h1)
  · intro b x hx
    rcases k.nown b x hx with h1 | h1
    · cases ho : γ1.own b with
      | none => exact absurd ho h1
      | some y => exact h.nown b y ho
    · exact .inr (Nat.le_trans h.size h1)

theorem cell_lt {w : World} {b o : Nat} {v : Value} (h : w.cell? ⟨b, o, none⟩ = some v) : b < w.heap.size := World.block_lt_of_cell? w ⟨b, o, none⟩ h
theorem heap_alloc_lt (w : World) (o : Obj) {b : Nat} (h : b < w.heap.size) : (w.alloc o).heap[b]? = w.heap[b]? := Go.RowKit.Below.heap_alloc w o b h
theorem cell_alloc (w : World) (o : Obj) {b j : Nat} {v : Value} (h : w.cell? ⟨b, j, none⟩ = some v) : (w.alloc o).cell? ⟨b, j, none⟩ = some v := by
  rw [World.cell?_alloc_lt w o _ (cell_lt h)]; exact h

/-- The same ghost state over a greater world. -/
theorem Inv.keep {γ : Gh} {H : Hp} {w w' : World} (h : Inv γ H w) (hx : Ext no no γ w γ w') (hs : w.heap.size ≤ w'.heap.size) (hb : ∀ i b, γ.live i = some b → w'.heap[b]? = w.heap[b]?) : Inv γ H w' :=
  ⟨h.dom, fun i B hB => by
    obtain ⟨b, cs, h1, h2, h3, h4⟩ := h.blk i B hB
    exact ⟨b, cs, h1, (hb i b h1).trans h2, h3, fun j j1 j2 => (h4 j j1 j2).mono hx (AV.clean_no' _)⟩, h.inj, fun b x hx => ⟨Nat.lt_of_lt_of_le (h.own b x hx).1 hs, (h.own b x hx).2⟩, fun b g l ho => by
    obtain ⟨cs, e, h1, h2⟩ := h.tag b g l ho
    obtain ⟨_, cs', h3, h4⟩ := hx.tip b g l cs e rfl ho h1
    exact ⟨cs', e, h3, by omega⟩⟩

/-- A block that nobody owns. -/
theorem step_push {γ : Gh} {H : Hp} {w : World} (h : Inv γ H w) (o : Obj) : Inv γ H (w.alloc o) ∧ Ext no no γ w γ (w.alloc o) ∧ Evo γ w γ (w.alloc o) := by
  have hx : Ext no no γ w γ (w.alloc o) := ⟨fun b j v h1 h2 => ⟨h1, cell_alloc w o h2⟩, fun _ _ _ h => h, fun b g l cs e _ h1 h2 => ⟨h1, cs, by rw [heap_alloc_lt w o (h.own _ _ h1).1]; exact h2, rfl⟩⟩
  refine ⟨h.keep hx (by simp) fun i b hi => heap_alloc_lt w o (h.lt hi), hx, ⟨rfl, rfl, rfl, by simp, fun b hb _ _ => ⟨heap_alloc_lt w o hb, rfl⟩, fun b g l ho => ⟨fun cs e hb => ⟨cs, by rw [heap_alloc_lt w o (h.own _ _ ho).1]; exact hb, rfl, fun _ _ => rfl⟩, fun t l' h' => by rw [ho] at h'; injection h' with h'; injection h' with _ h'; omega⟩, fun _ _ h => h, fun _ _ h => .inl h, fun b x hx => .inl (by rw [hx]; simp)⟩⟩
theorem step_drew {γ : Gh} {H : Hp} {w : World} (h : Inv γ H w) : Inv γ H w.drew ∧ Ext no no γ w γ w.drew ∧ Evo γ w γ w.drew := by
  have hx : Ext no no γ w γ w.drew := ⟨fun b j v h1 h2 => ⟨h1, h2⟩, fun _ _ _ h => h, fun b g l cs e _ h1 h2 => ⟨h1, cs, h2, rfl⟩⟩
  refine ⟨h.keep hx (Nat.le_refl _) fun i b hi => rfl, hx, ⟨rfl, rfl, rfl, Nat.le_refl _, fun b hb _ _ => ⟨rfl, rfl⟩, fun b g l ho => ⟨fun cs e hb => ⟨cs, hb, rfl, fun _ _ => rfl⟩, fun t l' h' => by rw [ho] at h'; injection h' with h'; injection h' with _ h'; omega⟩, fun _ _ h => h, fun _ _ h => .inl h, fun b x hx => .inl (by rw [hx]; simp)⟩⟩

/-- A new local block. -/
def Gh.withLive (γ : Gh) (i b : Nat) : Gh := { γ with live := fun j => if j = i then some b else γ.live j }
theorem step_live {γ : Gh} {H : Hp} {w : World} (h : Inv γ H w) (B : Blk) (cs : Array Value) (hcs : RAs γ w B.cells cs) :
    Inv (γ.withLive H.length w.heap.size) (H ++ [some B]) (w.alloc (.cells cs B.ty)) ∧ Ext no no γ w (γ.withLive H.length w.heap.size) (w.alloc (.cells cs B.ty)) ∧ Evo γ w (γ.withLive H.length w.heap.size) (w.alloc (.cells cs B.ty)) := by
  have hnone : ∀ b, γ.live H.length ≠ some b := fun b hb => by have := h.live_lt hb; omega
  have hx : Ext no no γ w (γ.withLive H.length w.heap.size) (w.alloc (.cells cs B.ty)) := by
    refine ⟨fun b j v h1 h2 => ⟨⟨fun i hi => ?_, h1.2⟩, cell_alloc w _ h2⟩, fun i b _ hi => ?_, fun b g l cs e _ h1 h2 => ⟨h1, cs, by rw [heap_alloc_lt w _ (h.own _ _ h1).1]; exact h2, rfl⟩⟩
    · simp only [Gh.withLive] at hi
      split at hi
      · injection hi with hi; have := cell_lt h2; omega
      · exact h1.1 i hi
    · simp only [Gh.withLive]
      rw [if_neg (fun e => by subst e; exact hnone b hi)]; exact hi
  refine ⟨⟨?_, ?_, ?_, ?_, fun b g l ho => by
    obtain ⟨cs', e, h1, h2⟩ := h.tag b g l ho
    exact ⟨cs', e, by rw [heap_alloc_lt w _ (h.own _ _ ho).1]; exact h1, h2⟩⟩, hx, ⟨rfl, rfl, rfl, by simp, fun b hb _ _ => ⟨heap_alloc_lt w _ hb, rfl⟩, fun b g l ho => ⟨fun cs e hb => ⟨cs, by rw [heap_alloc_lt w _ (h.own _ _ ho).1]; exact hb, rfl, fun _ _ => rfl⟩, fun t l' h' => by simp only [Gh.withLive] at h'; rw [ho] at h'; injection h' with h'; injection h' with _ h'; omega⟩, fun i b hi => hx.live i b rfl hi, ?_, fun b x hx => .inl (by simp only [Gh.withLive] at hx; rw [hx]; simp)⟩⟩
  · intro i b hi
    simp only [Gh.withLive] at hi
    split at hi
    · rename_i e; subst e; exact ⟨B, by simp⟩
    · obtain ⟨B', hB⟩ := h.dom i b hi
      exact ⟨B', by rw [List.getElem?_append_left (List.getElem?_eq_some_iff.1 hB).1]; exact hB⟩
  · intro i B' hB
    rcases Nat.lt_or_ge i H.length with hi | hi
    · rw [List.getElem?_append_left hi] at hB
      obtain ⟨b, cs', h1, h2, h3, h4⟩ := h.blk i B' hB
      exact ⟨b, cs', hx.live i b rfl h1, by rw [heap_alloc_lt w _ (h.lt h1)]; exact h2, h3, fun j j1 j2 => (h4 j j1 j2).mono hx (AV.clean_no' _)⟩
    · rw [List.getElem?_append_right hi] at hB
      have hi' : i = H.length := by
        rcases Nat.lt_or_ge 0 (i - H.length) with h0 | h0
        · rw [List.getElem?_eq_none (by simp; omega)] at hB; cases hB
        · omega
      subst hi'
      simp at hB
      subst hB
      exact ⟨w.heap.size, cs, by simp [Gh.withLive], Go.heap_alloc_new w _, hcs.1, fun j j1 j2 => (hcs.2 j j1 j2).mono hx (AV.clean_no' _)⟩
  · intro i j b hi hj
    simp only [Gh.withLive] at hi hj
    split at hi <;> split at hj
    · omega
    · injection hi with hi; have := h.lt hj; omega
    · injection hj with hj; have := h.lt hi; omega
    · exact h.inj i j b hi hj
  · intro b x ho
    refine ⟨by have := (h.own b x ho).1; simp; omega, fun i hi => ?_⟩
    simp only [Gh.withLive] at hi
    split at hi
    · injection hi with hi; have := (h.own b x ho).1; omega
    · exact (h.own b x ho).2 i hi
  · intro i b hi
    simp only [Gh.withLive] at hi
    split at hi
    · injection hi with hi; exact .inr (by omega)
    · exact .inl hi

/-- A new block that is appended to. -/
def Gh.withOwn (γ : Gh) (b : Nat) (x : Option Nat × Nat) : Gh := { γ with own := fun c => if c = b then some x else γ.own c }
theorem step_own {γ : Gh} {H : Hp} {w : World} (h : Inv γ H w) (cs : Array Value) (e : TypeId) (g l : Nat) (hl : l ≤ cs.size) :
    Inv (γ.withOwn w.heap.size (some g, l)) H (w.alloc (.cells cs e)) ∧ Ext no no γ w (γ.withOwn w.heap.size (some g, l)) (w.alloc (.cells cs e)) ∧ Evo γ w (γ.withOwn w.heap.size (some g, l)) (w.alloc (.cells cs e)) := by
  have hx : Ext no no γ w (γ.withOwn w.heap.size (some g, l)) (w.alloc (.cells cs e)) := by
    refine ⟨fun b j v h1 h2 => ⟨⟨h1.1, fun t l' ht => ?_⟩, cell_alloc w _ h2⟩, fun i b _ hi => hi, fun b g' l' cs' e' _ h1 h2 => ⟨?_, cs', by rw [heap_alloc_lt w _ (h.own _ _ h1).1]; exact h2, rfl⟩⟩
    · simp only [Gh.withOwn] at ht
      rw [if_neg (by have := cell_lt h2; omega)] at ht
      exact h1.2 t l' ht
    · simp only [Gh.withOwn]
      rw [if_neg (by have := (h.own _ _ h1).1; omega)]; exact h1
  refine ⟨⟨h.dom, fun i B hB => ?_, h.inj, fun b x ho => ?_, fun b g' l' ho => ?_⟩, hx, ⟨rfl, rfl, rfl, by simp, fun b hb _ _ => ⟨heap_alloc_lt w _ hb, ?_⟩, fun b g' l' ho => ⟨fun cs' e' hb => ⟨cs', by rw [heap_alloc_lt w _ (h.own _ _ ho).1]; exact hb, rfl, fun _ _ => rfl⟩, fun t l'' h' => ?_⟩, fun i b hi => hi, fun _ _ hi => .inl hi, fun b x ho => ?_⟩⟩
  · obtain ⟨b, cs', h1, h2, h3, h4⟩ := h.blk i B hB
    exact ⟨b, cs', h1, by rw [heap_alloc_lt w _ (h.lt h1)]; exact h2, h3, fun j j1 j2 => (h4 j j1 j2).mono hx (AV.clean_no' _)⟩
  · simp only [Gh.withOwn] at ho
    split at ho
    · rename_i hb; subst hb; exact ⟨by simp, fun i hi => by have := h.lt hi; omega⟩
    · exact ⟨by have := (h.own b x ho).1; simp; omega, (h.own b x ho).2⟩
  · simp only [Gh.withOwn] at ho
    split at ho
    · rename_i hb; subst hb; injection ho with ho; injection ho with _ ho; subst ho; exact ⟨cs, e, Go.heap_alloc_new w _, hl⟩
    · obtain ⟨cs', e', h1, h2⟩ := h.tag b g' l' ho
      exact ⟨cs', e', by rw [heap_alloc_lt w _ (h.own _ _ ho).1]; exact h1, h2⟩
  · simp only [Gh.withOwn]; rw [if_neg (by omega)]
  · simp only [Gh.withOwn] at h'
    rw [if_neg (by have := (h.own _ _ ho).1; omega), ho] at h'
    injection h' with h'; injection h' with _ h'; omega
  · simp only [Gh.withOwn] at ho
    split at ho
    · rename_i hb; exact .inr (by omega)
    · exact .inl (by rw [ho]; simp)

theorem heap_setCell_at (w : World) (b o : Nat) (v : Value) (cs : Array Value) (e : TypeId) (h : w.heap[b]? = some (.cells cs e (0, 0))) : (w.setCell ⟨b, o, none⟩ v).heap[b]? = some (.cells (cs.setIfInBounds o v) e (0, 0)) := by
  simp [World.setCell, Array.getElem?_modify, h]
theorem heap_setCell_ne (w : World) (a : Addr) (v : Value) {b : Nat} (h : b ≠ a.block) : (w.setCell a v).heap[b]? = w.heap[b]? := Go.RowKit.Below.heap_setCell w a v b h
theorem cell_of_heap {w : World} {b o : Nat} {cs : Array Value} {e : TypeId} {fr : Nat × Nat} (h : w.heap[b]? = some (.cells cs e fr)) : w.cell? ⟨b, o, none⟩ = cs[o]? := by simp [World.cell?, h]
theorem frozen_of_heap {w : World} {b o : Nat} {cs : Array Value} {e : TypeId} (h : w.heap[b]? = some (.cells cs e (0, 0))) : w.frozen? ⟨b, o, none⟩ = false := by simp [World.frozen?, h]

/-- A store into a local block. -/
theorem step_store {γ : Gh} {H : Hp} {w : World} (h : Inv γ H w) {i b o : Nat} {B : Blk} (hi : γ.live i = some b) (hB : H[i]? = some (some B)) (a : AV) (v : Value) (ha : RA γ w a v) :
    Inv γ (H.set i (some { B with cells := B.cells.set o a })) (w.setCell ⟨b, o, none⟩ v) ∧ Ext no no γ w γ (w.setCell ⟨b, o, none⟩ v) ∧ Evo γ w γ (w.setCell ⟨b, o, none⟩ v) := by
  obtain ⟨b', cs, h1, h2, h3, h4⟩ := h.blk i B hB
  rw [hi] at h1; injection h1 with h1; subst h1
  have hne : ∀ b1 j, γ.ok b1 j → b1 ≠ b := fun b1 j hok e => hok.1 i (by rw [e]; exact hi)
  have hx : Ext no no γ w γ (w.setCell ⟨b, o, none⟩ v) := by
    refine ⟨fun b1 j u k1 k2 => ⟨k1, ?_⟩, fun _ _ _ h => h, fun b1 g l cs' e _ k1 k2 => ⟨k1, cs', ?_, rfl⟩⟩
    · rw [World.cell?_of_block (w := w) (a := ⟨b1, j, none⟩) (heap_setCell_ne w ⟨b, o, none⟩ v (hne b1 j k1))]; exact k2
    · rw [heap_setCell_ne w ⟨b, o, none⟩ v (fun e => (h.own b1 _ k1).2 i (by rw [e]; exact hi))]; exact k2
  have hsz : (w.setCell ⟨b, o, none⟩ v).heap.size = w.heap.size := by simp [World.setCell]
  refine ⟨⟨fun k c hk => ?_, fun k C hC => ?_, h.inj, fun c x hc => by rw [hsz]; exact h.own c x hc, fun c g l ho => by
    obtain ⟨cs', e', k1, k2⟩ := h.tag c g l ho
    exact ⟨cs', e', by rw [heap_setCell_ne w ⟨b, o, none⟩ v (fun e => (h.own c _ ho).2 i (by rw [e]; exact hi))]; exact k1, k2⟩⟩, hx, ⟨rfl, rfl, rfl, by rw [hsz]; exact Nat.le_refl _, fun c hc hn _ => ⟨heap_setCell_ne w ⟨b, o, none⟩ v (fun e => hn i (by rw [e]; exact hi)), rfl⟩, fun c g l ho => ⟨fun cs' e hb => ⟨cs', ?_, rfl, fun _ _ => rfl⟩, fun t l' h' => by rw [ho] at h'; injection h' with h'; injection h' with _ h'; omega⟩, fun _ _ h => h, fun _ _ h => .inl h, fun c x hc => .inl (by rw [hc]; simp)⟩⟩
  · obtain ⟨C, hC⟩ := h.dom k c hk
    by_cases e : k = i
    · subst e; exact ⟨_, by rw [List.getElem?_set_self (List.getElem?_eq_some_iff.1 hB).1]⟩
    · exact ⟨C, by rw [List.getElem?_set_ne (by omega)]; exact hC⟩
  · by_cases e : k = i
    · subst e
      rw [List.getElem?_set_self (List.getElem?_eq_some_iff.1 hB).1] at hC
      injection hC with hC; injection hC with hC; subst hC
      refine ⟨b, cs.setIfInBounds o v, hi, heap_setCell_at w b o v cs B.ty h2, by simp [h3], fun j j1 j2 => ?_⟩
      simp only [List.length_set] at j1
      have j2' : j < cs.size := by omega
      by_cases ej : o = j
      · subst ej
        rw [List.getElem_set_self, Array.getElem_setIfInBounds_self]
        exact ha.mono hx (AV.clean_no' _)
      · rw [List.getElem_set_ne ej, Array.getElem_setIfInBounds_ne j2' ej]
        exact (h4 j j1 j2').mono hx (AV.clean_no' _)
    · rw [List.getElem?_set_ne (by omega)] at hC
      obtain ⟨c, cs', k1, k2, k3, k4⟩ := h.blk k C hC
      refine ⟨c, cs', k1, ?_, k3, fun j j1 j2 => (k4 j j1 j2).mono hx (AV.clean_no' _)⟩
      rw [heap_setCell_ne w ⟨b, o, none⟩ v (fun e' => e (h.inj k i b (by rw [k1, e']) hi))]; exact k2
  · rw [heap_setCell_ne w ⟨b, o, none⟩ v (fun e => (h.own c _ ho).2 i (by rw [e]; exact hi))]; exact hb

/-- A local block that will not turn any more. -/
def Gh.drop (γ : Gh) (i : Nat) : Gh := { γ with live := fun j => if j = i then none else γ.live j }
def one (i : Nat) : Nat → Bool := fun j => j == i
theorem Ext.drop (γ : Gh) (w : World) (i : Nat) : Ext no (one i) γ w (γ.drop i) w := by
  refine ⟨fun b j v h1 h2 => ⟨⟨fun k hk => ?_, h1.2⟩, h2⟩, fun k b hr hk => ?_, fun b g l cs e _ h1 h2 => ⟨h1, cs, h2, rfl⟩⟩
  · simp only [Gh.drop] at hk; split at hk
    · cases hk
    · exact h1.1 k hk
  · simp only [Gh.drop]; rw [if_neg (by simpa [one] using hr)]; exact hk
theorem step_drop {γ : Gh} {H : Hp} {w : World} (h : Inv γ H w) (i : Nat) (hc : ∀ k B, H[k]? = some (some B) → k ≠ i → cleans no (one i) B.cells = true) : Inv (γ.drop i) (H.set i none) w := by
  refine ⟨fun k b hk => ?_, fun k B hB => ?_, fun k l b hk hl => ?_, fun b x hb => ⟨(h.own b x hb).1, fun k hk => ?_⟩, h.tag⟩
  · simp only [Gh.drop] at hk; split at hk
    · cases hk
    · rename_i e; obtain ⟨B, hB⟩ := h.dom k b hk; exact ⟨B, by rw [List.getElem?_set_ne (by omega)]; exact hB⟩
  · by_cases e : k = i
    · subst e
      rw [List.getElem?_set] at hB
      simp at hB
    · rw [List.getElem?_set_ne (by omega)] at hB
      obtain ⟨b, cs, h1, h2, h3, h4⟩ := h.blk k B hB
      refine ⟨b, cs, by simp only [Gh.drop]; rw [if_neg e]; exact h1, h2, h3, fun j j1 j2 => (h4 j j1 j2).mono (Ext.drop γ w i) (cleans_at (hc k B hB e) j j1)⟩
  · simp only [Gh.drop] at hk hl
    split at hk
    · cases hk
    · split at hl
      · cases hl
      · exact h.inj k l b hk hl
  · simp only [Gh.drop] at hk; split at hk
    · cases hk
    · exact (h.own b x hb).2 k hk
end Go.Ab
