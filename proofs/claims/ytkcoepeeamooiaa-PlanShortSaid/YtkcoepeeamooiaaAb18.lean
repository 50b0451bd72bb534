/- Contracts of functions that only reckon: how they are shown, how they are used; small laws for the runs. -/
import Derived.Test.YtkcoepeeamooiaaAb20
import Derived.Test.YtkcoepeeamooiaaTy
set_option linter.unusedVariables false
set_option linter.unusedSimpArgs false
namespace Go.Ab
open Go

/-- The function, called with these, yields this, and turns nothing. -/
def Fun (P : Program) (f : FuncId) (xs : List AV) (v : AV) : Prop := Trip P f xs [] fun r H => H = [] ∧ r = v

theorem LEs.nil : LEs [] [] := ⟨rfl, fun i h1 => by simp at h1⟩
theorem LEs.cons {a b : AV} {xs bs : List AV} (h : LE a b) (hs : LEs xs bs) : LEs (a :: xs) (b :: bs) :=
  ⟨by simp [hs.1], fun i h1 h2 => by
    cases i with
    | zero => exact h
    | succ i => exact hs.2 i (by simpa using h1) (by simpa using h2)⟩
theorem LEs.refl (xs : List AV) : LEs xs xs := ⟨rfl, fun i h1 h2 => .refl _⟩
theorem Weak.same {n0 : Nat} {fr fr' : Fr} {H : Hp} (h : LEs fr fr') : Weak n0 fr H fr' H := ⟨h, .inl rfl⟩

mutual
theorem AV.retag_none : ∀ a : AV, a.retag (fun _ => none) = a
  | .app g l => rfl
  | .fn f cs => by simp only [AV.retag, retags_none cs]
  | .agg cs => by simp only [AV.retag, retags_none cs]
  | .tup cs => by simp only [AV.retag, retags_none cs]
  | .d _ => rfl
  | .nils => rfl
  | .full _ => rfl
  | .ptr .. => rfl
  | .rp _ => rfl
  | .os .. => rfl
  | .nilp => rfl
  | .nilf => rfl
  | .top => rfl
theorem retags_none : ∀ xs : List AV, retags (fun _ => none) xs = xs
  | [] => rfl
  | a :: xs => by simp only [retags, AV.retag_none a, retags_none xs]
end
mutual
theorem AV.weak_no : ∀ a : AV, a.weak no no = a
  | .app g l => rfl
  | .fn f cs => by simp only [AV.weak, weaks_no cs]
  | .agg cs => by simp only [AV.weak, weaks_no cs]
  | .tup cs => by simp only [AV.weak, weaks_no cs]
  | .d _ => rfl
  | .nils => rfl
  | .full _ => rfl
  | .ptr .. => rfl
  | .rp _ => rfl
  | .os .. => rfl
  | .nilp => rfl
  | .nilf => rfl
  | .top => rfl
theorem weaks_no : ∀ xs : List AV, weaks no no xs = xs
  | [] => rfl
  | a :: xs => by simp only [weaks, AV.weak_no a, weaks_no xs]
end
theorem weakH_no (H : Hp) : weakH no no H = H := by
  unfold weakH
  have : (Option.map fun (B : Blk) => ({ B with cells := weaks no no B.cells } : Blk)) = id := by
    funext x
    cases x with
    | none => rfl
    | some B => simp [weaks_no]
  rw [this]; simp

/-- A question whose answer is known. -/
theorem btrue {b : Bool} {A B : Prop} (h : b = true) (hA : A) : @Bool.rec (fun _ => Prop) B A b := by subst h; exact hA
theorem bfalse {b : Bool} {A B : Prop} (h : b = false) (hB : B) : @Bool.rec (fun _ => Prop) B A b := by subst h; exact hB
def yes : Nat → Bool := fun _ => true
theorem Fun.calls {P : Program} {f : FuncId} {xs : List AV} {v : AV} (h : Fun P f xs v) (hc : cleans yes yes xs = true) (fr : Fr) (H : Hp) : CallP P f xs fr H fun r fr' H' => r = v ∧ fr' = fr ∧ H' = H := by
  refine CallP.pure (fun _ => none) (Q := fun r => r = v) (by rw [retags_none]; exact h) ?_ fun r hr => ⟨hr, ?_, ?_⟩
  · exact hc
  · exact weaks_no fr
  · exact weakH_no H
/-- A call, by the function's contract. -/
theorem Fun.k {P : Program} {f : FuncId} {xs xs' : List AV} {v : AV} (h : Fun P f xs' v) {fr : Fr} {H : Hp} {K : AV → Fr → Hp → Prop} (hl : LEs xs xs') (hc : cleans yes yes xs' = true) (hk : K v fr H) : CallP P f xs fr H K :=
  CallP.weak hl (CallP.mono (h.calls hc fr H) fun r fr' H' ⟨h1, h2, h3⟩ => by subst h1; subst h2; subst h3; exact hk)
/-- The same, in a region whose order is drawn. -/
theorem Fun.d {P : Program} {f : FuncId} {xs xs' : List AV} {v : AV} (h : Fun P f xs' v) {H : Hp} {K : AV → Prop} {T : Prop} (hl : LEs xs xs') (hc : cleans yes yes xs' = true) (hk : K v) :
    (∃ xs' v, LEs xs xs' ∧ (∀ fr1 H1, Hle H H1 → CallP P f xs' fr1 H1 fun r fr2 H2 => r = v ∧ fr2 = fr1 ∧ H2 = H1) ∧ K v) ∨ T :=
  .inl ⟨xs', v, hl, fun fr1 H1 _ => h.calls hc fr1 H1, hk⟩

/-- A function's end, where only its value counts. -/
theorem leave_fun {r v : AV} {H : Hp} (hle : LE r v) (hc : cleans no yes [v] = true) : leave 0 (fun r H => H = [] ∧ r = v) r H := by
  refine ⟨v, [], ⟨.cons hle .nil, .inr ⟨.nil H, ?_, rfl, fun i hi => by omega⟩⟩, rfl, rfl⟩
  exact hc
theorem leave_b {b c : Bool} {H : Hp} (h : b = c) : leave 0 (fun r H => H = [] ∧ r = .d (.bool c)) (.d (.bool b)) H := by subst h; exact leave_fun (.refl _) rfl
theorem leave_i {k : IntKind} {b c : Int} {H : Hp} (h : b = c) : leave 0 (fun r H => H = [] ∧ r = .d (.int k c)) (.d (.int k b)) H := by subst h; exact leave_fun (.refl _) rfl
theorem leave_eq {r v : AV} {H : Hp} (h : r = v) (hc : cleans no yes [v] = true) : leave 0 (fun r H => H = [] ∧ r = v) r H := leave_fun (by subst h; exact .refl _) hc
theorem Fun.of_ex {P : Program} (hmx : P.follows .mixedOrders = true) {ty : TypeId → Option TI} (hty : ∀ t i, ty t = some i → tyOf P t = some i) {f : FuncId} {fn : Func} {c : Code} {xs : List AV} {v : AV} (tb : Nat) (hf : P.funcs[f]? = some fn) (hb : fn.body = some c)
    (h : exR P ty tb 0 c (endx ty fn (leave 0 fun r H => H = [] ∧ r = v)) (xs ++ List.replicate (fn.ntmps - xs.length) (.tup [])) []) : Fun P f xs v :=
  trip_of_ex hty hmx tb hf hb (exR_eq P ty tb 0 c ▸ h)
theorem Fun.weak {P : Program} {f : FuncId} {xs xs' : List AV} {v : AV} (h : Fun P f xs' v) (hl : LEs xs xs') : Fun P f xs v := Trip.weak hl h
def body (f : Func) : Code := f.body.getD .skip

mutual
theorem LE.toD : ∀ (a : AV) {x : D}, a.toD = some x → LE a (.d x)
  | .d y, x, h => by simp only [AV.toD, Option.some.injEq] at h; subst h; exact .refl _
  | .nils, x, h => by simp only [AV.toD, Option.some.injEq] at h; subst h; exact .nil_d _ rfl
  | .full l, x, h => by simp only [AV.toD, Option.some.injEq] at h; subst h; exact .full_d _
  | .app g l, x, h => by simp only [AV.toD, Option.some.injEq] at h; subst h; exact .app_d _ _
  | .agg cs, x, h => by
    simp only [AV.toD, Option.map_eq_some_iff] at h
    obtain ⟨ds, h, rfl⟩ := h
    exact .agg_d _ _ (toDs_at h).1 (LE.toDs cs h)
  | .ptr .., x, h => by simp [AV.toD] at h
  | .rp _, x, h => by simp [AV.toD] at h
  | .os .., x, h => by simp [AV.toD] at h
  | .fn .., x, h => by simp [AV.toD] at h
  | .tup _, x, h => by simp [AV.toD] at h
  | .nilp, x, h => by simp [AV.toD] at h
  | .nilf, x, h => by simp [AV.toD] at h
  | .top, x, h => by simp [AV.toD] at h
theorem LE.toDs : ∀ (cs : List AV) {ds : List D}, toDs cs = some ds → ∀ i (h1 : i < cs.length) (h2 : i < ds.length), LE cs[i] (.d ds[i])
  | [], ds, h, i, h1, _ => by simp at h1
  | c :: cs, ds, h, i, h1, h2 => by
    unfold Go.Ab.toDs at h
    split at h
    · rename_i x xs hx hxs
      simp only [Option.some.injEq] at h
      subst h
      cases i with
      | zero => exact LE.toD c hx
      | succ i => exact LE.toDs cs hxs i (by simpa using h1) (by simpa using h2)
    · cases h
end
/-- As data, where it is data. -/
def AV.dat (a : AV) : AV := match a.toD with | some x => .d x | none => a
theorem LE.dat (a : AV) : LE a a.dat := by
  unfold AV.dat
  split
  · rename_i x h; exact LE.toD a h
  · exact .refl _
theorem LEs.dat (xs : List AV) : LEs xs (xs.map AV.dat) := ⟨by simp, fun i h1 h2 => by simp only [List.getElem_map]; exact LE.dat _⟩
/-- A call with data. -/
theorem Fun.kd {P : Program} {f : FuncId} {xs xs' : List AV} {v : AV} (h : Fun P f xs' v) {fr : Fr} {H : Hp} {K : AV → Fr → Hp → Prop} (he : xs.map AV.dat = xs') (hc : cleans yes yes xs' = true) (hk : K v fr H) : CallP P f xs fr H K :=
  h.k (he ▸ LEs.dat xs) hc hk
theorem Fun.dd {P : Program} {f : FuncId} {xs xs' : List AV} {v : AV} (h : Fun P f xs' v) {H : Hp} {K : AV → Prop} {T : Prop} (he : xs.map AV.dat = xs') (hc : cleans yes yes xs' = true) (hk : K v) :
    (∃ xs' v, LEs xs xs' ∧ (∀ fr1 H1, Hle H H1 → CallP P f xs' fr1 H1 fun r fr2 H2 => r = v ∧ fr2 = fr1 ∧ H2 = H1) ∧ K v) ∨ T :=
  h.d (he ▸ LEs.dat xs) hc hk

/-- What is yielded may be told weaker. -/
theorem Fun.res {P : Program} {f : FuncId} {xs : List AV} {v v' : AV} (h : Fun P f xs v) (hl : LE v v') : Fun P f xs v' :=
  fun γ w vs hI hA => (h γ w vs hI hA).mono fun e w' ⟨γ', r, x, H', a1, a2, a3, a4, a5, a6⟩ => by
    subst a6; exact ⟨γ', v', x, H', a1, a2, hl.sound a3, a4, a5, rfl⟩

/-! ### Loops -/
/-- A loop's invariant: frames and heaps by a state. -/
def LI {σ : Type} (F : σ → Fr) (G : σ → Hp) (pre : σ → Prop) (μ : σ → Nat) (n : Nat) (fr : Fr) (H : Hp) : Prop := ∃ s, pre s ∧ n = μ s ∧ fr = F s ∧ H = G s
theorem loop_of {σ : Type} {n0 : Nat} {fr : Fr} {H : Hp} {B : (Nat → Fr → Hp → Prop) → Nat → Fr → Hp → Prop} (F : σ → Fr) (G : σ → Hp) (pre : σ → Prop) (μ : σ → Nat) (s0 : σ) (h0 : Weak n0 fr H (F s0) (G s0)) (p0 : pre s0)
    (step : ∀ s, pre s → B (LI F G pre μ) (μ s) (F s) (G s)) : ∃ I : Nat → Fr → Hp → Prop, (∃ n fr' H', Weak n0 fr H fr' H' ∧ I n fr' H') ∧ ∀ n fr H, I n fr H → B I n fr H :=
  ⟨LI F G pre μ, ⟨_, _, _, h0, s0, p0, rfl, rfl, rfl⟩, fun n fr H ⟨s, h1, h2, h3, h4⟩ => by subst h2; subst h3; subst h4; exact step s h1⟩
theorem again {σ : Type} {F : σ → Fr} {G : σ → Hp} {pre : σ → Prop} {μ : σ → Nat} {n n0 : Nat} {fr : Fr} {H : Hp} (s : σ) (h1 : μ s < n) (h2 : Weak n0 fr H (F s) (G s)) (h3 : pre s) : ∃ m fr' H', m < n ∧ Weak n0 fr H fr' H' ∧ LI F G pre μ m fr' H' :=
  ⟨μ s, F s, G s, h1, h2, s, h3, rfl, rfl, rfl⟩
/-- Values, but for what is forgotten. -/
def weakV : AV → AV → Prop
  | .nils, .app _ l => l.len = 0
  | .nils, .full l => l.len = 0
  | .nils, .d (.sl l) => l.len = 0
  | .full l, .app _ l' => l = l'
  | .full l, .d (.sl l') => l = l'
  | .app _ l, .d (.sl l') => l = l'
  | a, b => a = b
theorem weakV_LE {a b : AV} (h : weakV a b) : LE a b := by
  unfold weakV at h
  split at h
  · exact .nil_app _ _ h
  · exact .nil_full _ h
  · exact .nil_d _ h
  · subst h; exact .full_app _ _
  · subst h; exact .full_d _
  · subst h; exact .app_d _ _
  · subst h; exact .refl _
/-- Frames, but for what is forgotten. -/
def weakT : Fr → Fr → Prop
  | [], [] => True
  | _ :: fr, .top :: fr' => weakT fr fr'
  | a :: fr, b :: fr' => weakV a b ∧ weakT fr fr'
  | _, _ => False
theorem weakT_LEs : ∀ {fr fr' : Fr}, weakT fr fr' → LEs fr fr'
  | [], [], _ => .nil
  | [], b :: fr', h => by cases b <;> exact h.elim
  | a :: fr, [], h => h.elim
  | a :: fr, b :: fr', h => by
    cases b
    case top => exact .cons (.top _) (weakT_LEs h)
    all_goals exact .cons (weakV_LE h.1) (weakT_LEs h.2)
theorem Weak.of {n0 : Nat} {fr fr' : Fr} {H : Hp} (h : weakT fr fr') : Weak n0 fr H fr' H := .same (weakT_LEs h)

theorem LE.agg_of {cs : List AV} {ds : List D} (h : cs = ds.map .d) : LE (.agg cs) (.d (.agg ds)) := by
  subst h
  exact .agg_d _ _ (by simp) fun i h1 h2 => by simp only [List.getElem_map]; exact .refl _
theorem idx_ok {s l : Nat} {i n : Int} {K : Prop} (h1 : s = l) (h2 : 0 ≤ i) (h3 : i < n) (hk : K) : (s = l ∧ 0 ≤ i ∧ i < n) ∧ K := ⟨⟨h1, h2, h3⟩, hk⟩
theorem ble {a b : Nat} (h : Nat.ble a b = true) : a ≤ b := Nat.le_of_ble_eq_true h

/-- Heaps, but for what is forgotten in their cells. -/
def weakHp : Hp → Hp → Prop
  | [], [] => True
  | none :: H, none :: H' => weakHp H H'
  | some B :: H, some B' :: H' => B.ty = B'.ty ∧ weakT B.cells B'.cells ∧ weakHp H H'
  | _, _ => False
theorem weakHp_HLE : ∀ {H H' : Hp}, weakHp H H' → HLE H H' ∧ ∀ i, gone H' i = gone H i
  | [], [], _ => ⟨.nil _, fun _ => rfl⟩
  | none :: H, none :: H', h => by
    obtain ⟨h1, h2⟩ := weakHp_HLE (H := H) (H' := H') h
    refine ⟨.dead _ _ _ h1, fun i => ?_⟩
    cases i with
    | zero => rfl
    | succ i => simpa [gone] using h2 i
  | some B :: H, some B' :: H', h => by
    obtain ⟨h0, hc, h⟩ := h
    obtain ⟨h1, h2⟩ := weakHp_HLE (H := H) (H' := H') h
    refine ⟨.blk _ _ _ _ h0 (weakT_LEs hc) h1, fun i => ?_⟩
    cases i with
    | zero => rfl
    | succ i => simpa [gone] using h2 i
  | [], none :: _, h => h.elim
  | [], some _ :: _, h => h.elim
  | none :: _, [], h => h.elim
  | some _ :: _, [], h => h.elim
  | none :: _, some _ :: _, h => h.elim
  | some _ :: _, none :: _, h => h.elim
theorem Weak.ofH {n0 : Nat} {fr fr' : Fr} {H H' : Hp} (h : weakT fr fr') (hh : weakHp H H') (h1 : cleans no (gone H') fr' = true) (h2 : cleanHB no (gone H') H' = true) : Weak n0 fr H fr' H' := by
  obtain ⟨k1, k2⟩ := weakHp_HLE hh
  exact ⟨weakT_LEs h, .inr ⟨k1, h1, h2, fun i _ hi => by rw [← k2]; exact hi⟩⟩

/-! ### Numbers -/
theorem wrap_i64 {x : Int} (h1 : -9223372036854775808 ≤ x) (h2 : x < 9223372036854775808) : IntKind.wrap .i64 x = x := by
  simp only [IntKind.wrap, IntKind.bits, IntKind.signed, Bool.true_and, decide_eq_true_eq, Nat.reduceSub, Int.reducePow, ge_iff_le]
  split <;> omega
theorem wrap_u64 {x : Int} (h1 : 0 ≤ x) (h2 : x < 18446744073709551616) : IntKind.wrap .u64 x = x := by
  simp only [IntKind.wrap, IntKind.bits, IntKind.signed]
  simp only [Bool.false_and]
  simp; omega
theorem wrap_u8 {x : Int} (h1 : 0 ≤ x) (h2 : x < 256) : IntKind.wrap .u8 x = x := by
  simp only [IntKind.wrap, IntKind.bits, IntKind.signed]
  simp only [Bool.false_and]
  simp; omega
theorem wrap_u32 {x : Int} (h1 : 0 ≤ x) (h2 : x < 4294967296) : IntKind.wrap .u32 x = x := by
  simp only [IntKind.wrap, IntKind.bits, IntKind.signed]
  simp only [Bool.false_and]
  simp; omega
end Go.Ab
namespace Go.Proofs
open Go Go.Ab
theorem Try.mixed : Try.prog.follows .mixedOrders = true := by kernel_rfl
theorem Try.fun {f : FuncId} {fn : Func} {xs : List AV} {v : AV} (tb : Nat) (hf : Try.prog.funcs[f]? = some fn) (hb : fn.body = some (body fn))
    (h : exR Try.prog Try.ty tb 0 (body fn) (endx Try.ty fn (leave 0 fun r H => H = [] ∧ r = v)) (xs ++ List.replicate (fn.ntmps - xs.length) (.tup [])) []) : Fun Try.prog f xs v :=
  Fun.of_ex Try.mixed Try.tyOK tb hf hb h
end Go.Proofs
