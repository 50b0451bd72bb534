/- The digits of a number, as a function that is ranged over; what is put behind bytes. -/
import Derived.Test.YtkcoepeeamooiaaFg
import Derived.Test.YtkcoepeeamooiaaAb19
import Derived.Sort.LoopGhostIn
set_option linter.unusedVariables false
set_option linter.unusedSimpArgs false
namespace Go.Proofs
open Go Go.Ab Go.RowKit

set_option maxRecDepth 100000 in
set_option maxHeartbeats 1000000 in
theorem Try.digits (n : Int) : Fun Try.prog 45 [.d (.int .i64 n)] (.fn 49 [.rp [.int .i64 n]]) := by
  refine Try.fun (fn := Try.f45) 0 rfl rfl ?_
  (conv => whnf)
  refine ⟨[0], ?_⟩
  (conv => whnf)
  refine ⟨⟨by omega, rfl⟩, ?_⟩
  (conv => whnf)
  exact leave_eq rfl rfl

theorem init_frame {γ : Gh} {w : World} {x y : AV} {u v : Value} (h1 : RA γ w x u) (h2 : RA γ w y v) (k : Nat) : RAs γ w ([x, y] ++ List.replicate k .top) (#[u, v] ++ Array.replicate k undef) := by
  refine ⟨by simp; omega, fun i j1 j2 => ?_⟩
  match i, j1, j2 with
  | 0, _, _ => simpa using h1
  | 1, _, _ => simpa using h2
  | n + 2, _, _ => simp; exact .top _
theorem slot_int {γ : Gh} {w : World} {fr : Fr} {tm : Array Value} {t : Nat} {k : IntKind} {n : Int} (h : RAs γ w fr tm) (hk : geta fr t = .d (.int k n)) : tm[t]? = some (.int k n) := by
  have hlt : t < fr.length := by
    rcases Nat.lt_or_ge t fr.length with hl | hl
    · exact hl
    · simp [geta, List.getElem?_eq_none hl] at hk
  have h2 : t < tm.size := by rw [← h.1]; exact hlt
  have := h.2 t hlt h2
  have e : fr[t] = .d (.int k n) := by simpa [geta, List.getD, hlt] using hk
  rw [e] at this
  rw [Array.getElem?_eq_getElem h2]
  generalize tm[t] = v at this ⊢
  cases this with | d _ _ this => cases this; rfl
/-- A frame of which one slot is known: a number. -/
theorem one_frame {w : World} {tm : Array Value} {t : Nat} {k : IntKind} {n : Int} (h : tm[t]? = some (.int k n)) : RAs Gh.none w ((List.replicate tm.size .top).set t (.d (.int k n))) tm := by
  refine ⟨by simp, fun i j1 j2 => ?_⟩
  by_cases e : t = i
  · subst e
    simp only [List.getElem_set_self]
    have : tm[t] = .int k n := by rw [Array.getElem?_eq_getElem j2] at h; injection h
    rw [this]; exact .d _ _ (.int _ _)
  · simp only [List.getElem_set_ne e, List.getElem_replicate]; exact .top _
/-- So many slots; some of them known. -/
def Slots (n : Nat) (ts : List (Nat × Value)) (a : Act) : Prop := a.tmps.size = n ∧ ∀ p ∈ ts, a.tmps[p.1]? = some p.2
theorem slots_kept {ops : Array Oper} {n : Nat} {ts : List (Nat × Value)} (h : ts.all (fun p => ops.toList.all (fun o => o.dst != some p.1)) = true) : ∀ (a : Act) (o : Oper) (u : Value), o ∈ ops.toList → Slots n ts a → Slots n ts (a.put o.dst u) := by
  intro a o u ho ha
  refine ⟨by rw [← ha.1]; cases o.dst <;> simp [Act.put], fun p hp => ?_⟩
  have h1 := List.all_eq_true.1 (List.all_eq_true.1 h p hp) o ho
  have ha := ha.2 p hp
  cases hd : o.dst with
  | none => exact ha
  | some d =>
    have hne : d ≠ p.1 := fun e => by simp [hd, e] at h1
    simp only [Act.put]
    rw [Array.getElem?_setIfInBounds_ne hne]; exact ha
theorem Evo.grownBy {w w' : World} {γ : Gh} (h : Evo Gh.none w γ w') : w.grownBy w' none :=
  ⟨h.os, h.tape, h.output, h.size, fun k hk _ => (h.same k hk (fun i e => by simp [Gh.none] at e) (fun g l e => by simp [Gh.none] at e)).1⟩
theorem slot_bool {γ : Gh} {w : World} {fr : Fr} {tm : Array Value} {t : Nat} {x : Bool} (h : RAs γ w fr tm) (hk : geta fr t = .d (.bool x)) : tm[t]? = some (.bool x) := by
  have hlt : t < fr.length := by
    rcases Nat.lt_or_ge t fr.length with hl | hl
    · exact hl
    · simp [geta, List.getElem?_eq_none hl] at hk
  have h2 : t < tm.size := by rw [← h.1]; exact hlt
  have := h.2 t hlt h2
  have e : fr[t] = .d (.bool x) := by simpa [geta, List.getD, hlt] using hk
  rw [e] at this
  rw [Array.getElem?_eq_getElem h2]
  generalize tm[t] = v at this ⊢
  cases this with | d _ _ this => cases this; rfl
/-- A region that reckons with one number. -/
theorem num_region {P : Program} {ty : TypeId → Option TI} (hty : ∀ t i, ty t = some i → tyOf P t = some i) {F : Fence} {m : Nat} (hF : ∀ f, F.fn f) {id : Nat} {ops : Array Oper} {n t : Nat} {k : IntKind} {x : Int} {ts : List (Nat × Value)} {K : Fr → Hp → Prop} {Q : Exit → Act → World → Prop} {a : Act} {w : World}
    (hs : Slots n ts a) (hd : a.defers = []) (h3 : a.tmps[t]? = some (.int k x)) (hn : ops.toList.all noCall = true) (hts : ts.all (fun p => ops.toList.all (fun o => o.dst != some p.1)) = true)
    (h : rx P ty 0 0 ops ops.toList ((List.replicate n .top).set t (.d (.int k x))) [] K)
    (hQ : ∀ fr H a' w', K fr H → Slots n ts a' → a'.defers = [] → w.grownBy w' none → (∀ t k x, geta fr t = .d (.int k x) → a'.tmps[t]? = some (.int k x)) → (∀ t x, geta fr t = .d (.bool x) → a'.tmps[t]? = some (.bool x)) → Q .normal a' w') :
    (Code.region id ops false).wpIn F m P Q a w := by
  have hf := one_frame (w := w) h3
  rw [hs.1] at hf
  exact region_in hty hF (Slots n ts) (slots_kept hts) (fun γ fr H a' w' s hk hm => hQ fr H a' w' hk hm s.defers (Evo.grownBy s.evo) (fun t k x e => slot_int s.fr e) (fun t x e => slot_bool s.fr e)) hn h (St.fresh hf hd) hs
/-- A call of yield. -/
theorem upon_yield {P : Program} {F : Fence} {m : Nat} (hF : ∀ f, F.fn f) {o : Oper} {a : Act} {w : World} {next : Act → World → Prop} {Q : Exit → Act → World → Prop} {t s l : Nat} {v : Value} {ts : Array TypeId} {fn : FuncId} {tmps : Array Value} {assign body : Code} {R : Ending → World → Prop}
    (ho : o.op = .call { callee := .value (.tmp t), args := #[.tmp s], argTypes := ts }) (ht : a.tmps[t]? = some (.func (.yield l) #[] #[])) (hs : a.tmps[s]? = some v)
    (hy : (Instr.yield l #[v]).run P w = .ok (.round l fn tmps assign body) w) (hR : RoundIn F m P l fn tmps assign body w R)
    (hk : ∀ e w', R e w' → ∃ u, e = .returned u ∧ next (a.put o.dst u) w') : o.wpIn F (m + 1) P a w next Q := by
  refine ⟨fun f _ => hF f, ?_⟩
  rw [Oper.semAt_eq _ _ _ (fun c e => by rw [ho] at e; cases e)]
  have e1 : a.eval (.tmp t) = .func (.yield l) #[] #[] := by simp [Act.eval, Array.getD_eq_getD_getElem?, ht]
  have e2 : a.eval (.tmp s) = v := by simp [Act.eval, Array.getD_eq_getD_getElem?, hs]
  have hr : (execOp a.eval o).run P w = .ok (.round l fn tmps assign body) w := by
    simp [execOp, ho, resolve, e1, e2, Deferred.ofValue, invoke, hy]
  rw [hr, Oper.uponIn_round]
  refine ⟨fun _ => by omega, hR.mono fun e w' he => ?_⟩
  obtain ⟨u, rfl, h⟩ := hk e w' he
  exact h
theorem wpIn_val {P : Program} {F : Fence} {m : Nat} (hF : ∀ f, F.fn f) {o : Oper} {a : Act} {w : World} {next : Act → World → Prop} {Q : Exit → Act → World → Prop} (v : Value) (hd : ∀ c, o.op ≠ .defer c) (hr : (execOp a.eval o).run P w = .ok (.value v) w) (h : next (a.put o.dst v) w) : o.wpIn F m P a w next Q := by
  refine ⟨fun f _ => hF f, ?_⟩
  rw [Oper.semAt_eq _ _ _ hd, hr, Oper.uponIn_value]; exact h
theorem wpIn_num {P : Program} {ty : TypeId → Option TI} (hty : ∀ t i, ty t = some i → tyOf P t = some i) {F : Fence} {m : Nat} (hF : ∀ f, F.fn f) {o : Oper} {a : Act} {w : World} {next : Act → World → Prop} {Q : Exit → Act → World → Prop} {n t : Nat} {k k' : IntKind} {x y : Int}
    (hs : a.tmps.size = n) (h3 : a.tmps[t]? = some (.int k x)) (hd : a.defers = []) (hn : noCall o = true) (h : opx P ty 0 0 o ((List.replicate n .top).set t (.d (.int k x))) [] fun r _ _ => r = .d (.int k' y))
    (hk : ∀ w', w.grownBy w' none → next (a.put o.dst (.int k' y)) w') : o.wpIn F m P a w next Q := by
  have hf := one_frame (w := w) h3
  rw [hs] at hf
  have hnc : ∀ f xs ts, o.op ≠ .call { callee := .value f, args := xs, argTypes := ts } := fun f xs ts e => by simp [noCall, e] at hn
  have hnd : ∀ c, o.op ≠ .defer c := fun c e => by simp [noCall, e] at hn
  obtain ⟨res, v, w', γ', r, fr', H', h1, h2, h3, h4, h5, h6, h7⟩ := op_done hty (St.fresh hf hd) hnc h
  subst h7
  cases h5 with
  | d _ _ h5 =>
    cases h5
    refine ⟨fun f _ => hF f, ?_⟩
    rw [Oper.semAt_eq _ _ _ hnd, h1]
    rcases h2 with rfl | ⟨rfl, h2⟩
    · rw [Oper.uponIn_value]; exact hk w' (Evo.grownBy h6)
    · simp [undef] at h2
theorem wrap_i64_mod (x : Int) : IntKind.wrap .u64 (IntKind.wrap .i64 x) = x % 18446744073709551616 := by
  simp only [IntKind.wrap, IntKind.bits, IntKind.signed, Bool.true_and, Bool.false_and, decide_eq_true_eq, Nat.reduceSub, Int.reducePow, ge_iff_le]
  rw [if_neg (by simp)]
  split <;> omega
theorem zig_wire {x : Int} (h : I64 x) : ibits .xor .u64 (IntKind.wrap .u64 (IntKind.wrap .i64 (x * 2 ^ (min (1 : Int).toNat (IntKind.bits .i64))))) (IntKind.wrap .u64 (x.fdiv (2 ^ (min (63 : Int).toNat (IntKind.bits .i64))))) = zig x := by
  have e1 : (2 : Int) ^ (min (1 : Int).toNat (IntKind.bits .i64)) = 2 := by decide
  have e2 : (2 : Int) ^ (min (63 : Int).toNat (IntKind.bits .i64)) = 9223372036854775808 := by decide
  rw [e1, e2, wrap_i64_mod, Int.fdiv_eq_ediv_of_nonneg _ (by omega), wrap_u64_mod]
  unfold zig
  rcases (show x < 0 ∨ 0 ≤ x by omega) with hx | hx
  · rw [if_pos hx]
    have : x / 9223372036854775808 = -1 := by omega
    rw [this, show ((-1 : Int) % 18446744073709551616) = 18446744073709551615 by decide, xor_ones' _ (by omega)]
    omega
  · rw [if_neg (by omega)]
    have : x / 9223372036854775808 = 0 := by omega
    rw [this, show ((0 : Int) % 18446744073709551616) = 0 by decide, xor_zero _ (by omega)]
    omega


/-- A region of some code, by its number. -/
def regOps : Code → Nat → Array Oper
  | .region id ops _, n => if id = n then ops else #[]
  | .seq a b, n => match (regOps a n).size with | 0 => regOps b n | _ => regOps a n
  | .cond _ a b, n => match (regOps a n).size with | 0 => regOps b n | _ => regOps a n
  | .block _ c, n => regOps c n
  | .loop c, n => regOps c n
  | .scope c, n => regOps c n
  | .rangeFunc _ _ _ b, n => regOps b n
  | _, _ => #[]

theorem Slots.ev {n : Nat} {ts : List (Nat × Value)} {a : Act} (hs : Slots n ts a) {t : Nat} {v : Value} (h : (t, v) ∈ ts) : a.eval (.tmp t) = v := by
  have := hs.2 _ h
  simp only at this
  simp [Act.eval, Array.getD_eq_getD_getElem?, this]
theorem Slots.put {n : Nat} {ts : List (Nat × Value)} {a : Act} (hs : Slots n ts a) {d : Nat} (hd : d < n) (hf : ts.all (fun p => p.1 != d) = true) (v : Value) : Slots n ((d, v) :: ts) (a.put (some d) v) := by
  refine ⟨by rw [← hs.1]; simp [Act.put], fun p hp => ?_⟩
  rcases List.mem_cons.1 hp with rfl | hp
  · simp only [Act.put]; rw [Array.getElem?_setIfInBounds_self_of_lt (by rw [hs.1]; exact hd)]
  · have hne : d ≠ p.1 := fun e => by
      have := List.all_eq_true.1 hf p hp
      simp [e] at this
    simp only [Act.put]
    rw [Array.getElem?_setIfInBounds_ne hne]; exact hs.2 p hp
theorem slots_kept' {ops : Array Oper} {n : Nat} {ts : List (Nat × Value)} (h : ts.all (fun p => ops.toList.all (fun o => o.dst != some p.1)) = true) : ∀ (a : Act) (o : Oper) (u : Value), o ∈ ops.toList → Slots n ts a → Slots n ts (a.put o.dst u) := slots_kept h
section
variable {P : Program} {F : Fence} {m : Nat} (hF : ∀ f, F.fn f) {o : Oper} {a : Act} {w : World} {next : Act → World → Prop} {Q : Exit → Act → World → Prop} {n : Nat} {ts : List (Nat × Value)} (hs : Slots n ts a) (hdf : a.defers = [])
  {d : Nat} (hdst : o.dst = some d) (hd : d < n) (hf : ts.all (fun p => p.1 != d) = true)
include hF hs hdf hdst hd hf in
theorem val_in (v : Value) (hnd : ∀ c, o.op ≠ .defer c) (hr : (execOp a.eval o).run P w = .ok (.value v) w) (h : ∀ a', Slots n ((d, v) :: ts) a' → a'.defers = [] → next a' w) : o.wpIn F m P a w next Q :=
  wpIn_val hF v hnd hr (by rw [hdst]; exact h _ (hs.put hd hf v) hdf)
include hF hs hdf hdst hd hf in
theorem move_in {t : Nat} {v : Value} (ho : o.op = .move (.tmp t)) (ht : (t, v) ∈ ts) (h : ∀ a', Slots n ((d, v) :: ts) a' → a'.defers = [] → next a' w) : o.wpIn F m P a w next Q :=
  val_in hF hs hdf hdst hd hf v (fun c e => by rw [ho] at e; cases e) (by simp [execOp, ho, hs.ev ht]) h
include hF hs hdf hdst hd hf in
theorem not_in {t : Nat} {b : Bool} {ty : TypeId} (ho : o.op = .unOp .not ty (.tmp t)) (ht : (t, .bool b) ∈ ts) (h : ∀ a', Slots n ((d, .bool !b) :: ts) a' → a'.defers = [] → next a' w) : o.wpIn F m P a w next Q :=
  val_in hF hs hdf hdst hd hf (.bool !b) (fun c e => by rw [ho] at e; cases e) (by simp [execOp, ho, hs.ev ht, Op.unary]) h
include hF hs hdf hdst hd hf in
theorem num_in {ty : TypeId → Option TI} (hty : ∀ t i, ty t = some i → tyOf P t = some i) {t : Nat} {k k' : IntKind} {x y : Int} (ht : (t, .int k x) ∈ ts) (hn : noCall o = true) (h : opx P ty 0 0 o ((List.replicate n .top).set t (.d (.int k x))) [] fun r _ _ => r = .d (.int k' y))
    (hk : ∀ a' w', Slots n ((d, .int k' y) :: ts) a' → a'.defers = [] → w.grownBy w' none → next a' w') : o.wpIn F m P a w next Q :=
  wpIn_num hty hF hs.1 (hs.2 _ ht) hdf hn h fun w' g => by rw [hdst]; exact hk _ w' (hs.put hd hf _) hdf g
include hF hs hdf hdst hd hf in
theorem yield_in {t s l : Nat} {v : Value} {tys : Array TypeId} {fn : FuncId} {tmps : Array Value} {assign body : Code} {R : Ending → World → Prop}
    (ho : o.op = .call { callee := .value (.tmp t), args := #[.tmp s], argTypes := tys }) (ht : (t, .func (.yield l) #[] #[]) ∈ ts) (hv : (s, v) ∈ ts)
    (hy : (Instr.yield l #[v]).run P w = .ok (.round l fn tmps assign body) w) (hR : RoundIn F m P l fn tmps assign body w R)
    (hk : ∀ e w', R e w' → ∃ u, e = .returned u ∧ ∀ a', Slots n ((d, u) :: ts) a' → a'.defers = [] → next a' w') : o.wpIn F (m + 1) P a w next Q :=
  upon_yield (m := m) hF ho (hs.2 _ ht) (hs.2 _ hv) hy hR fun e w' he => by
    obtain ⟨u, rfl, h⟩ := hk e w' he
    exact ⟨u, rfl, by rw [hdst]; exact h _ (hs.put hd hf u) hdf⟩
end
theorem low_wire {u : Int} (h0 : 0 ≤ u) : ibits .or .u8 (IntKind.wrap .u8 u) 128 = u % 128 + 128 := by
  have hw : IntKind.wrap .u8 u = u % 256 := by simp [IntKind.wrap, IntKind.bits, IntKind.signed]
  rw [hw, or128' _ (by omega)]; omega
/-- What the iterator hands to its caller's round. -/
def YieldsK (P : Program) (J Jx : List Int → World → Prop) (l : Nat) : Prop :=
  ∀ (pre : List Int) (x : Int) (W1 : World), J pre W1 → pre.length < 11 → YieldAt Fence.wide 1 P l #[.int .u8 x] W1 fun e W' =>
      (e = .returned (.bool true) ∧ J (pre ++ [x]) W' ∧ True) ∨ (e = .returned (.bool false) ∧ Jx (pre ++ [x]) W')
def Holds (J : List Int → World → Prop) : Prop := ∀ pre (w w' : World), J pre w → w.grownBy w' none → J pre w'

set_option maxRecDepth 100000 in
set_option maxHeartbeats 1000000 in
/-- One digit that is not the last. -/
theorem Try.digits_round {J Jx : List Int → World → Prop} {l : Nat} (hJ : Holds J) (hY : YieldsK Try.prog J Jx l) {Q : Exit → Act → World → Prop} {a : Act} {w : World} {u : Int} {pre : List Int} (hs : Slots 25 [(0, .func (.yield l) #[] #[]), (3, .int .u64 u)] a) (hd : a.defers = []) (hu : 0 ≤ u) (hp : pre.length < 11) (hj : J pre w)
    (h1 : ∀ a' w', Slots 25 [(0, .func (.yield l) #[] #[]), (3, .int .u64 u)] a' → a'.defers = [] → a'.eval (.tmp 20) = .bool false → J (pre ++ [u % 128 + 128]) w' → Q .normal a' w')
    (h2 : ∀ a' w', a'.defers = [] → a'.eval (.tmp 20) = .bool true → Jx (pre ++ [u % 128 + 128]) w' → Q .normal a' w') : (Code.region 3 (regOps (body Try.f49) 3) false).wpIn Fence.wide 2 Try.prog Q a w := by
  refine wpIn_region ?_
  rw [show List.range (Array.size _) = [0, 1, 2, 3, 4, 5] from rfl]
  simp only [wpOpsIn, List.getElem?_toArray, List.getElem?_cons_zero, List.getElem?_cons_succ, Region.wanted, if_true]
  refine move_in (fun _ => trivial) hs hd rfl (by decide) rfl (t := 0) (v := .func (.yield l) #[] #[]) rfl (by simp) fun a1 s1 d1 => ?_
  refine move_in (fun _ => trivial) s1 d1 rfl (by decide) rfl (t := 3) (v := .int .u64 u) rfl (by simp) fun a2 s2 d2 => ?_
  refine num_in (fun _ => trivial) s2 d2 rfl (by decide) rfl Try.tyOK (t := 16) (k := .u64) (x := u) (k' := .u8) (y := IntKind.wrap .u8 u) (by simp) rfl (by (conv => whnf); try rfl) fun a3 w3 s3 d3 g3 => ?_
  refine num_in (fun _ => trivial) s3 d3 rfl (by decide) rfl Try.tyOK (t := 17) (k := .u8) (x := IntKind.wrap .u8 u) (k' := .u8) (y := ibits .or .u8 (IntKind.wrap .u8 u) 128) (by simp) rfl (by (conv => whnf); try rfl) fun a4 w4 s4 d4 g4 => ?_
  rw [low_wire hu] at s4
  obtain ⟨fn, tmps, assign, body, hy, hR⟩ := hY pre (u % 128 + 128) w4 (hJ _ _ _ (hJ _ _ _ hj g3) g4) hp
  refine yield_in (m := 1) (fun _ => trivial) s4 d4 rfl (by decide) rfl rfl (t := 15) (s := 18) (by simp) (by simp) hy hR ?_
  rintro e w5 (⟨rfl, hJ5, _⟩ | ⟨rfl, hJx5⟩)
  · refine ⟨_, rfl, fun a5 s5 d5 => ?_⟩
    refine not_in (fun _ => trivial) s5 d5 rfl (by decide) rfl (t := 19) (b := true) rfl (by simp) fun a6 s6 d6 => ?_
    exact h1 a6 w5 ⟨s6.1, fun p hp => s6.2 p (by simp at hp ⊢; rcases hp with rfl | rfl <;> simp)⟩ d6 (s6.ev (by simp)) hJ5
  · refine ⟨_, rfl, fun a5 s5 d5 => ?_⟩
    refine not_in (fun _ => trivial) s5 d5 rfl (by decide) rfl (t := 19) (b := false) rfl (by simp) fun a6 s6 d6 => ?_
    exact h2 a6 w5 d6 (s6.ev (by simp)) hJx5
set_option maxRecDepth 100000 in
set_option maxHeartbeats 1000000 in
/-- The last digit. -/
theorem Try.digits_last {J Jx : List Int → World → Prop} {l : Nat} (hJ : Holds J) (hY : YieldsK Try.prog J Jx l) {Q : Exit → Act → World → Prop} {a : Act} {w : World} {u : Int} {pre : List Int} (hs : Slots 25 [(0, .func (.yield l) #[] #[]), (3, .int .u64 u)] a) (hd : a.defers = []) (hu : 0 ≤ u ∧ u ≤ 127) (hp : pre.length < 11) (hj : J pre w)
    (h1 : ∀ a' w', a'.defers = [] → (J (pre ++ [u]) w' ∨ Jx (pre ++ [u]) w') → Q .normal a' w') : (Code.region 4 (regOps (body Try.f49) 4) false).wpIn Fence.wide 2 Try.prog Q a w := by
  refine wpIn_region ?_
  rw [show List.range (Array.size _) = [0, 1, 2, 3] from rfl]
  simp only [wpOpsIn, List.getElem?_toArray, List.getElem?_cons_zero, List.getElem?_cons_succ, Region.wanted, if_true]
  refine move_in (fun _ => trivial) hs hd rfl (by decide) rfl (t := 0) (v := .func (.yield l) #[] #[]) rfl (by simp) fun a1 s1 d1 => ?_
  refine move_in (fun _ => trivial) s1 d1 rfl (by decide) rfl (t := 3) (v := .int .u64 u) rfl (by simp) fun a2 s2 d2 => ?_
  refine num_in (fun _ => trivial) s2 d2 rfl (by decide) rfl Try.tyOK (t := 22) (k := .u64) (x := u) (k' := .u8) (y := IntKind.wrap .u8 u) (by simp) rfl (by (conv => whnf); try rfl) fun a3 w3 s3 d3 g3 => ?_
  rw [wrap_u8 hu.1 (by omega)] at s3
  obtain ⟨fn, tmps, assign, body, hy, hR⟩ := hY pre u w3 (hJ _ _ _ hj g3) hp
  refine yield_in (m := 1) (fun _ => trivial) s3 d3 rfl (by decide) rfl rfl (t := 21) (s := 23) (by simp) (by simp) hy hR ?_
  rintro e w5 (⟨rfl, hJ5, _⟩ | ⟨rfl, hJx5⟩)
  · exact ⟨_, rfl, fun a5 s5 d5 => h1 a5 w5 d5 (.inl hJ5)⟩
  · exact ⟨_, rfl, fun a5 s5 d5 => h1 a5 w5 d5 (.inr hJx5)⟩

set_option maxRecDepth 100000 in
set_option maxHeartbeats 1000000 in
/-- What the iterator says, round by round. -/
theorem Try.digits_seq {W0 : World} (x : Int) (hx : I64 x) (b o : Nat) (hc : W0.cell? ⟨b, o, none⟩ = some (.int .i64 x)) :
    SeqStopsK Fence.wide 2 Try.prog 49 #[.pointer (some ⟨b, o, none⟩)] (fun c : Int => #[.int .u8 c]) (fun _ _ => True) (fun ys => ys = putI x) (fun _ => True) 11 W0 := by
  intro l J Jx W hW hJ hJx hY h0
  have hcW : W.cell? ⟨b, o, none⟩ = some (.int .i64 x) := (hW.cell (p := ⟨b, o, none⟩) (World.block_lt_of_cell? W0 _ hc)).trans hc
  have hH : Holds J := fun pre w w' h hg => hJ pre w w' none h hg (fun r e => by cases e)
  refine callsIn_of_wp (fn := Try.f49) rfl rfl trivial ?_ rfl
  refine wpIn_seq ?_
  refine region_in (γ0 := Gh.none) (w0 := W) (n0 := 0) (γ := Gh.none) (fr := [.top, .rp [.int .i64 x]] ++ List.replicate 23 .top) (H := []) Try.tyOK (fun _ => trivial) (K := fun fr H => geta fr 3 = .d (.int .u64 (zig x))) (tb := 0)
    (Slots 25 [(0, .func (.yield l) #[] #[])]) (slots_kept rfl) ?_ rfl ?_ ?_ ?_
  · intro γ fr H a w s hk hm
    have h3 := slot_int s.fr hk
    have hJ0 : J [] w := hJ [] W w none h0 (Evo.grownBy s.evo) (fun r e => by cases e)
    have hz := zig_range hx
    refine wpIn_seq (wpIn_block (wpIn_loop_ghost (fun m a w => ∃ k u pre, m = 10 - k ∧ Slots 25 [(0, .func (.yield l) #[] #[]), (3, .int .u64 u)] a ∧ a.defers = [] ∧ k ≤ 9 ∧ 0 ≤ u ∧ u < 2 ^ (64 - 7 * k) ∧ pre.length = k ∧ pre ++ dig (10 - k) u = putI x ∧ J pre w) 10 ⟨0, zig x, [], rfl, ⟨hm.1, fun p hp => by
      simp at hp
      rcases hp with rfl | rfl
      · exact hm.2 (0, _) (by simp)
      · exact h3⟩, s.defers, by omega, hz.1, by simpa using hz.2, rfl, by simp [putI], hJ0⟩ ?_))
    rintro m a w ⟨k, u, pre, rfl, hs, h4, h5, h6, h7, h8, h9, h10⟩
    refine wpIn_seq (wpIn_seq ?_)
    refine num_region Try.tyOK (fun _ => trivial) (n := 25) (t := 3) (k := .u64) (x := u) (ts := [(0, .func (.yield l) #[] #[]), (3, .int .u64 u)]) (K := fun fr H => geta fr 12 = .d (.bool (decide (127 < u)))) hs h4 (hs.2 (3, _) (by simp)) (by decide) rfl ?_ ?_
    · (conv => whnf)
      rfl
    intro fr H a' w' hk hs hd hg hi hbl
    have hJ' : J pre w' := hH _ _ _ h10 hg
    have h12 := hbl 12 _ hk
    have ev : a'.eval (.tmp 12) = .bool (decide (127 < u)) := by simp [Act.eval, Array.getD_eq_getD_getElem?, h12]
    by_cases hu : 127 < u
    · refine wpIn_cond_true (by rw [ev, decide_eq_true hu]) (wpIn_skip ?_)
      refine wpIn_seq (wpIn_block (wpIn_seq ?_))
      have hub := pow_le h5
      refine Try.digits_round hH hY hs hd h6 (by omega) hJ' ?_ ?_
      · intro a6 w5 s6 d6 e20 hJ5
        refine wpIn_cond_false e20 (wpIn_skip ?_)
        refine num_region Try.tyOK (fun _ => trivial) (n := 25) (t := 3) (k := .u64) (x := u) (ts := [(0, .func (.yield l) #[] #[])]) (K := fun fr H => geta fr 3 = .d (.int .u64 (u / 128))) ⟨s6.1, fun p hp => s6.2 p (by simp at hp ⊢; exact .inl hp)⟩ d6 (s6.2 (3, _) (by simp)) (by decide) rfl ?_ ?_
        · (conv => whnf)
          refine ⟨by omega, ?_⟩
          (conv => whnf)
          exact congrArg (fun x => AV.d (.int .u64 x)) (shr7 h6)
        intro fr H a7 w7 hk7 hs7 hd7 hg7 hi7 _
        have hk8 : k ≤ 8 := by
          rcases hub.2.1 with h | h
          · rcases Nat.lt_or_ge k 9 with h | h
            · omega
            · obtain rfl : k = 9 := by omega
              simp at h7; omega
          · subst h; simp at h7; omega
        have hp8 := hub.2.2 hk8
        refine ⟨10 - (k + 1), by omega, k + 1, u / 128, pre ++ [u % 128 + 128], rfl, ⟨hs7.1, fun p hp => by
          simp at hp
          rcases hp with rfl | rfl
          · exact hs7.2 (0, _) (by simp)
          · exact hi7 3 _ _ hk7⟩, hd7, by omega, by omega, by omega, by simp [h8], ?_, hH _ _ _ hJ5 hg7⟩
        rw [← h9, show 10 - k = (10 - (k + 1)) + 1 by omega, dig_big (by omega)]
        simp
      · intro a6 w5 d6 e20 hJx5
        refine wpIn_cond_true e20 (wpIn_ret ?_)
        exact ⟨d6, .tuple #[], by kernel_rfl, ⟨_, rfl⟩, .inr ⟨_, trivial, hJx5⟩⟩
    · refine wpIn_cond_false (by rw [ev, decide_eq_false hu]) (wpIn_exit ?_)
      refine Try.digits_last hH hY hs hd ⟨h6, by omega⟩ (by omega) hJ' ?_
      intro a6 w6 d6 hj
      refine ⟨d6, .tuple #[], by kernel_rfl, ⟨_, rfl⟩, ?_⟩
      rcases hj with hj | hj
      · refine .inl ⟨_, ?_, hj⟩
        rw [← h9, dig_small (by omega)]
      · exact .inr ⟨_, trivial, hj⟩
  · (conv => whnf)
    refine ⟨by omega, ?_⟩
    (conv => whnf)
    refine ⟨by omega, ?_⟩
    (conv => whnf)
    exact congrArg (fun x => AV.d (.int .u64 x)) (zig_wire hx)
  · exact St.fresh (init_frame (.top _) (.rp _ b o (fun _ => .int .i64 x) (fun j hj => by simp at hj; subst hj; rfl) (fun j hj => by
        simp at hj; subst hj
        exact ⟨⟨fun i h => by simp [Gh.none] at h, fun t l h => by simp [Gh.none] at h⟩, hcW⟩) (fun j hj => by simp at hj; subst hj; exact .int _ _)) 23) rfl
  · exact ⟨by simp, fun p hp => by simp at hp; subst hp; simp⟩
end Go.Proofs
