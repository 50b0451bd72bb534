/- What the functions on plans yield: numbers, equality, the targets that are named, whether it is right. -/
import Derived.Test.YtkcoepeeamooiaaFa
set_option linter.unusedVariables false
set_option linter.unusedSimpArgs false
namespace Go.Proofs
open Go Go.Ab

/-- A plan. -/
structure Pl where
  e : Int
  t : Int
  p : Int
  s : Int
  pc : Int
  st : Int
  si : Int
  ra : Int
  up : Int
  su : Int
  pen : List Int
  chg : List Int
deriving DecidableEq
def Pl.D (p : Pl) : D := .agg [.int .i64 p.e, .int .i64 p.t, .int .i64 p.p, .int .i64 p.s, .int .i64 p.pc, .int .i64 p.st, .int .i64 p.si, .int .i64 p.ra, .int .u64 p.up, .int .u64 p.su, .sl (.ints .i64 p.pen), .sl (.ints .i64 p.chg)]
abbrev I64 (x : Int) : Prop := -9223372036854775808 ≤ x ∧ x < 9223372036854775808
abbrev U64 (x : Int) : Prop := 0 ≤ x ∧ x < 18446744073709551616
structure Pl.ok (p : Pl) : Prop where
  nums : I64 p.e ∧ I64 p.t ∧ I64 p.p ∧ I64 p.s ∧ I64 p.pc ∧ I64 p.st ∧ I64 p.si ∧ I64 p.ra
  up : U64 p.up
  su : U64 p.su
  pen : ∀ x ∈ p.pen, I64 x
  chg : ∀ x ∈ p.chg, I64 x
  npen : p.pen.length ≤ 140737488355328
  nchg : p.chg.length ≤ 140737488355328
def Pl.nums (p : Pl) : List Int := [p.e, p.t, p.p, p.s, p.pc, p.st, p.si, p.ra, IntKind.i64.wrap p.up, IntKind.i64.wrap p.su]

set_option maxRecDepth 100000 in
set_option maxHeartbeats 1000000 in
theorem Try.numbers (p : Pl) : Fun Try.prog 21 [.d p.D] (.d (.agg (p.nums.map (.int .i64)))) := by
  refine Try.fun (fn := Try.f21) 0 rfl rfl ?_
  (conv => whnf)
  refine ⟨⟨rfl, ble rfl, rfl⟩, ?_⟩
  (conv => whnf)
  exact leave_fun (LE.agg_of rfl) rfl

theorem nums_inj {p q : Pl} (hp : p.ok) (hq : q.ok) : p = q ↔ (p.nums = q.nums ∧ p.pen = q.pen ∧ p.chg = q.chg) := by
  constructor
  · rintro rfl; exact ⟨rfl, rfl, rfl⟩
  · rintro ⟨h1, h2, h3⟩
    obtain ⟨e, t, pp, s, pc, st, si, ra, up, su, pen, chg⟩ := p
    obtain ⟨e', t', pp', s', pc', st', si', ra', up', su', pen', chg'⟩ := q
    simp only [Pl.nums, List.cons.injEq, and_true] at h1
    have w : ∀ x y, U64 x → U64 y → IntKind.i64.wrap x = IntKind.i64.wrap y → x = y := by
      intro x y hx hy h
      simp only [IntKind.wrap, IntKind.bits, IntKind.signed, Bool.true_and, decide_eq_true_eq, Nat.reduceSub, Int.reducePow, ge_iff_le] at h
      split at h <;> split at h <;> omega
    obtain ⟨rfl, rfl, rfl, rfl, rfl, rfl, rfl, rfl, h4, h5⟩ := h1
    have e1 := w _ _ hp.up hq.up h4
    have e2 := w _ _ hp.su hq.su h5
    simp only at e1 e2 h2 h3
    subst e1; subst e2; subst h2; subst h3
    rfl
set_option maxRecDepth 100000 in
set_option maxHeartbeats 1000000 in
theorem Try.samePl (p q : Pl) (hp : p.ok) (hq : q.ok) : Fun Try.prog 20 [.d p.D, .d q.D] (.d (.bool (decide (p = q)))) := by
  refine Try.fun (fn := Try.f20) 0 rfl rfl ?_
  (conv => whnf)
  refine ⟨List.range 20, by kernel_rfl, ?_⟩
  (conv => whnf)
  refine ⟨ble rfl, ?_⟩
  (conv => whnf)
  refine ⟨rfl, ?_⟩
  (conv => whnf)
  refine Fun.d (Try.numbers p) (LEs.cons (LE.agg_of rfl) LEs.nil) rfl ?_
  (conv => whnf)
  refine ⟨ble rfl, ?_⟩
  (conv => whnf)
  refine ⟨rfl, ?_⟩
  (conv => whnf)
  refine Fun.d (Try.numbers q) (LEs.cons (LE.agg_of rfl) LEs.nil) rfl ?_
  (conv => whnf)
  refine ⟨⟨by kernel_rfl, rfl, rfl, rfl⟩, ?_⟩
  (conv => whnf)
  refine bsplit (fun h => ?_) (fun h => ?_) <;> (conv => whnf)
  · refine ⟨rfl, ?_⟩
    (conv => whnf)
    refine Fun.d (Try.equalInt p.pen q.pen hp.npen hq.npen) (LEs.refl _) rfl ?_
    (conv => whnf)
    refine bsplit (fun h' => ?_) (fun h' => ?_) <;> (conv => whnf)
    · refine ⟨rfl, ?_⟩
      (conv => whnf)
      refine Fun.d (Try.equal64 p.chg q.chg hp.nchg hq.nchg) (LEs.refl _) rfl ?_
      (conv => whnf)
      refine leave_b ?_
      have h1 : p.nums = q.nums := of_decide_eq_true h
      have h2 : p.pen = q.pen := of_decide_eq_true h'
      rw [Bool.eq_iff_iff]; simp [nums_inj hp hq, h1, h2]
    · refine leave_b ?_
      have h2 : ¬ p.pen = q.pen := of_decide_eq_false h'
      rw [Bool.eq_iff_iff]; simp [nums_inj hp hq, h2]
  · refine leave_b ?_
    have h1 : ¬ p.nums = q.nums := of_decide_eq_false h
    rw [Bool.eq_iff_iff]; simp [nums_inj hp hq, h1]

/-- Does the plan name the target? -/
def Pl.names (p : Pl) (x : Int) : Bool := decide (0 ≤ x) && (decide (x = p.t) || (decide (x = p.p) && decide (p.pc < 100)) || decide (x = p.s))
set_option maxRecDepth 100000 in
set_option maxHeartbeats 1000000 in
theorem Try.names (p : Pl) (x : Int) : Fun Try.prog 18 [.d p.D, .d (.int .i64 x)] (.d (.bool (p.names x))) := by
  refine Try.fun (fn := Try.f18) 0 rfl rfl ?_
  (conv => whnf)
  repeat' (refine bsplit (fun h => ?_) (fun h => ?_) <;> (conv => whnf))
  all_goals
    refine leave_b ?_
    rw [Bool.eq_iff_iff]
    simp at *
    simp [Pl.names, *]
    try omega

set_option maxRecDepth 100000 in
set_option maxHeartbeats 1000000 in
theorem Try.names04 (p : Pl) (x : Int) : Fun Try.prog 19 [.d p.D, .d (.int .i64 x)] (.d (.bool (p.names x))) := by
  refine Try.fun (fn := Try.f19) 0 rfl rfl ?_
  (conv => whnf)
  repeat' (refine bsplit (fun h => ?_) (fun h => ?_) <;> (conv => whnf))
  all_goals
    refine leave_b ?_
    rw [Bool.eq_iff_iff]
    simp at *
    simp [Pl.names, *]
    try omega

def Pl.cells (p : Pl) : List AV := [.d (.int .i64 p.e), .d (.int .i64 p.t), .d (.int .i64 p.p), .d (.int .i64 p.s), .d (.int .i64 p.pc), .d (.int .i64 p.st), .d (.int .i64 p.si), .d (.int .i64 p.ra), .d (.int .u64 p.up), .d (.int .u64 p.su), .d (.sl (.ints .i64 p.pen)), .d (.sl (.ints .i64 p.chg))]
set_option maxRecDepth 100000 in
set_option maxHeartbeats 1000000 in
theorem Try.same04 (p q : Pl) (hp : p.ok) (hq : q.ok) : Fun Try.prog 17 [.d p.D, .d q.D] (.d (.bool (decide (p = q)))) := by
  refine Try.fun (fn := Try.f17) 0 rfl rfl ?_
  (conv => whnf)
  repeat' (refine bsplit (fun h => ?_) (fun h => ?_) <;> (conv => whnf))
  all_goals first
    | exact leave_b (Eq.symm (decide_eq_false (fun e => by subst e; simp at *)))
    | skip
  refine loop_of (fun i : Nat => [.top, .top, .ptr 0 0, .ptr 1 0, .top, .d (.int .i64 i), .top, .top, .top, .top, .top, .top, .top, .top, .top, .top, .top, .top, .top, .top, .top, .top, .top, .top, .top, .top, .top, .top, .top, .top, .top, .top, .top, .top, .top, .top, .top, .top, .top, .top, .top, .top, .top, .top, .top, .top, .top, .top, .top, .top, .top, .top, .top, .top, .top, .top, .top, .top, .top, .top, .top, .top, .top, .top, .top, .top, .top, .top, .top, .top, .top, .top, .top, .top, .top, .top, .top, .top, .top, .top, .top, .top, .top, .top, .top, .top, .top, .top, .top, .top, .top, .top, .top, .top, .top, .top, .top, .top, .top, .top, .top, .top, .top, .top, .top, .top]) (fun _ => [some ⟨26, p.cells⟩, some ⟨26, q.cells⟩]) (fun i => i ≤ p.pen.length ∧ ∀ j, j < i → p.pen[j]? = q.pen[j]?) (fun i => p.pen.length - i) 0 (Weak.of (by simp [weakT, weakV])) (by simp) fun i ⟨hi, hpp⟩ => ?_
  have hlen : p.pen.length = q.pen.length := by simp at *; omega
  (conv => whnf)
  refine bsplit (fun h1 => ?_) (fun h1 => ?_) <;> (conv => whnf)
  · have h1 : (i : Int) < p.pen.length := of_decide_eq_true h1
    have n1 := hp.npen
    refine ⟨List.range 11, by kernel_rfl, ?_⟩
    (conv => whnf)
    refine ⟨⟨rfl, by omega, by omega⟩, ?_⟩ <;> (conv => whnf)
    refine ⟨⟨rfl, by omega, by omega⟩, ?_⟩ <;> (conv => whnf)
    refine bsplit (fun h2 => ?_) (fun h2 => ?_) <;> (conv => whnf)
    · exact leave_b (Eq.symm (decide_eq_false (fun e => by subst e; simp at h2)))
    · rw [wrap_i64 (x := (i : Int) + 1) (by omega) (by omega)]
      refine again (i + 1) (by omega) (Weak.of (by simp [weakT, weakV])) ⟨by omega, fun j hj => ?_⟩
      rcases Nat.lt_or_ge j i with hj' | hj'
      · exact hpp j hj'
      · obtain rfl : j = i := by omega
        simp at h2
        rw [List.getElem?_eq_getElem (by omega), List.getElem?_eq_getElem (by omega)] at *
        simpa using h2
  · have h1 : ¬ (i : Int) < p.pen.length := of_decide_eq_false h1
    refine ⟨rfl, ?_⟩
    refine Fun.k (Try.same01 p.chg q.chg hp.nchg hq.nchg) (LEs.refl _) rfl ?_
    (conv => whnf)
    refine leave_b ?_
    have hpen : p.pen = q.pen := by
      apply List.ext_getElem?
      intro j
      rcases Nat.lt_or_ge j i with hj | hj
      · exact hpp j hj
      · rw [List.getElem?_eq_none (by omega), List.getElem?_eq_none (by omega)]
    rw [Bool.eq_iff_iff]
    simp at *
    obtain ⟨e, t, pp, s, pc, st, si, ra, up, su, pen, chg⟩ := p
    obtain ⟨e', t', pp', s', pc', st', si', ra', up', su', pen', chg'⟩ := q
    simp_all

/-- Is the plan right? -/
def Pl.right (p : Pl) : Bool := decide (0 ≤ p.e) && allIn (-1) 15 [p.t, p.p, p.s] && allIn 0 100 [p.pc] && allIn 0 1099511627776 [p.st, p.si, p.ra] && decide (p.up ≤ 65535) && decide (p.su ≤ 65535) && decide (p.pen.length ≤ 16) && decide (p.chg.length ≤ 8) && allIn 0 1000000 p.pen && allIn 0 1099511627776 p.chg && srt p.chg
set_option maxRecDepth 100000 in
set_option maxHeartbeats 1000000 in
theorem Try.right (p : Pl) (hp : p.ok) : Fun Try.prog 13 [.d p.D] (.d (.bool p.right)) := by
  refine Try.fun (fn := Try.f13) 0 rfl rfl ?_
  (conv => whnf)
  have n1 := hp.npen
  have n2 := hp.nchg
  repeat' first
    | (refine bsplit (fun h => ?_) (fun h => ?_) <;> (conv => whnf))
    | (refine ⟨⟨ble rfl, by decide⟩, ?_⟩; (conv => whnf))
    | (refine ⟨rfl, ?_⟩; refine Fun.kd (Try.allInt (-1) 15 [p.t, p.p, p.s] (ble rfl)) rfl rfl ?_; (conv => whnf))
    | (refine ⟨rfl, ?_⟩; refine Fun.kd (Try.allInt 0 100 [p.pc] (ble rfl)) rfl rfl ?_; (conv => whnf))
    | (refine ⟨rfl, ?_⟩; refine Fun.kd (Try.all64 0 1099511627776 [p.st, p.si, p.ra] (ble rfl)) rfl rfl ?_; (conv => whnf))
    | (refine ⟨rfl, ?_⟩; refine Fun.kd (Try.allInt 0 1000000 p.pen n1) rfl rfl ?_; (conv => whnf))
    | (refine ⟨rfl, ?_⟩; refine Fun.kd (Try.all64 0 1099511627776 p.chg n2) rfl rfl ?_; (conv => whnf))
    | (refine ⟨rfl, ?_⟩; refine Fun.kd (Try.isSorted p.chg n2) rfl rfl ?_; (conv => whnf))
  all_goals
    refine leave_b ?_
    rw [Bool.eq_iff_iff]
    simp at *
    simp [Pl.right, *]
    try omega
    try simp_all

set_option maxRecDepth 100000 in
set_option maxHeartbeats 1000000 in
theorem Try.right04 (p : Pl) (hp : p.ok) : Fun Try.prog 14 [.d p.D] (.d (.bool p.right)) := by
  refine Try.fun (fn := Try.f14) 0 rfl rfl ?_
  (conv => whnf)
  have n1 := hp.npen
  have n2 := hp.nchg
  repeat' first
    | (refine bsplit (fun h => ?_) (fun h => ?_) <;> (conv => whnf))
    | (refine ⟨rfl, ?_⟩; refine Fun.kd (Try.inR p.st 0 1099511627776) rfl rfl ?_; (conv => whnf))
    | (refine ⟨rfl, ?_⟩; refine Fun.kd (Try.inR p.si 0 1099511627776) rfl rfl ?_; (conv => whnf))
    | (refine ⟨rfl, ?_⟩; refine Fun.kd (Try.inR p.ra 0 1099511627776) rfl rfl ?_; (conv => whnf))
  all_goals first
    | exact leave_b (by
        cases hr : p.right with
        | false => rfl
        | true =>
          simp [Pl.right, allIn] at hr
          simp at *
          omega)
    | skip
  have hd : p.right = (allIn 0 1000000 p.pen && allIn 0 1099511627776 p.chg && srt p.chg) := by
    rw [Bool.eq_iff_iff]
    simp at *
    simp [Pl.right, *]
    simp [allIn]
    omega
  rw [hd]
  refine loop_of (fun i : Nat => [.top, .ptr 0 0, .top, .d (.int .i64 i), .top, .top, .top, .top, .top, .top, .top, .top, .top, .top, .top, .top, .top, .top, .top, .top, .top, .top, .top, .top, .top, .top, .top, .top, .top, .top, .top, .top, .top, .top, .top, .top, .top, .top, .top, .top, .top, .top, .top, .top, .top, .top, .top, .top, .top, .top, .top, .top, .top, .top, .top, .top, .top, .top, .top, .top, .top, .top, .top, .top, .top, .top, .top, .top, .top, .top, .top, .top, .top, .top, .top, .top, .top, .top, .top, .top, .top, .top, .top, .top, .top, .top, .top, .top, .top, .top, .top, .top, .top, .top, .top, .top, .top, .top, .top, .top, .top, .top, .top, .top, .top, .top, .top, .top, .top, .top, .top, .top, .top, .top, .top, .top, .top, .top, .top, .top, .top, .top, .top, .top, .top, .top, .top, .top, .top, .top, .top, .top, .top, .top, .top, .top, .top, .top, .top]) (fun _ => [some ⟨26, p.cells⟩]) (fun i => i ≤ p.pen.length ∧ ∀ j, j < i → 0 ≤ p.pen.getD j 0 ∧ p.pen.getD j 0 ≤ 1000000) (fun i => p.pen.length - i) 0 (Weak.of (by simp [weakT, weakV])) (by simp) fun i ⟨hi, hpp⟩ => ?_
  (conv => whnf)
  refine bsplit (fun h1 => ?_) (fun h1 => ?_) <;> (conv => whnf)
  · have h1 : (i : Int) < p.pen.length := of_decide_eq_true h1
    have hmem : p.pen.getD i 0 ∈ p.pen := by rw [List.getD_eq_getElem?_getD, List.getElem?_eq_getElem (by omega)]; exact List.getElem_mem _
    refine ⟨⟨rfl, by omega, by omega⟩, ?_⟩
    (conv => whnf)
    repeat' first
      | (refine bsplit (fun h => ?_) (fun h => ?_) <;> (conv => whnf))
      | (refine idx_ok rfl (by omega) (by omega) ?_; (conv => whnf))
    all_goals first
      | exact leave_b (by
          have hf : allIn 0 1000000 p.pen = false := by
            unfold allIn
            rw [List.all_eq_false]
            refine ⟨_, hmem, ?_⟩
            simp at *
            omega
          rw [hf]; rfl)
      | skip
    all_goals
      rw [wrap_i64 (x := (i : Int) + 1) (by omega) (by omega)]
      refine again (i + 1) (by omega) (Weak.of (by simp [weakT, weakV])) ⟨by omega, fun j hj => ?_⟩
      rcases Nat.lt_or_ge j i with hj' | hj'
      · exact hpp j hj'
      · obtain rfl : j = i := by omega
        simp at *
        omega
  · have h1 : ¬ (i : Int) < p.pen.length := of_decide_eq_false h1
    have hall : allIn 0 1000000 p.pen = true := by
      unfold allIn
      rw [List.all_eq_true]
      intro x hx
      obtain ⟨j, hj, rfl⟩ := List.getElem_of_mem hx
      have := hpp j (by omega)
      rw [List.getD_eq_getElem?_getD, List.getElem?_eq_getElem hj] at this
      simpa using this
    rw [hall, Bool.true_and]
    clear hpp hi h1
    refine loop_of (fun i : Nat => [.top, .ptr 0 0, .top, .top, .d (.int .i64 i), .top, .top, .top, .top, .top, .top, .top, .top, .top, .top, .top, .top, .top, .top, .top, .top, .top, .top, .top, .top, .top, .top, .top, .top, .top, .top, .top, .top, .top, .top, .top, .top, .top, .top, .top, .top, .top, .top, .top, .top, .top, .top, .top, .top, .top, .top, .top, .top, .top, .top, .top, .top, .top, .top, .top, .top, .top, .top, .top, .top, .top, .top, .top, .top, .top, .top, .top, .top, .top, .top, .top, .top, .top, .top, .top, .top, .top, .top, .top, .top, .top, .top, .top, .top, .top, .top, .top, .top, .top, .top, .top, .top, .top, .top, .top, .top, .top, .top, .top, .top, .top, .top, .top, .top, .top, .top, .top, .top, .top, .top, .top, .top, .top, .top, .top, .top, .top, .top, .top, .top, .top, .top, .top, .top, .top, .top, .top, .top, .top, .top, .top, .top, .top, .top]) (fun _ => [some ⟨26, p.cells⟩]) (fun i => i ≤ p.chg.length ∧ (∀ j, j < i → 0 ≤ p.chg.getD j 0 ∧ p.chg.getD j 0 ≤ 1099511627776) ∧ (∀ j, j + 1 < i → p.chg.getD j 0 ≤ p.chg.getD (j + 1) 0)) (fun i => p.chg.length - i) 0 (Weak.of (by simp [weakT, weakV])) (by simp) fun i ⟨hi, hpp, hqq⟩ => ?_
    (conv => whnf)
    refine bsplit (fun h1 => ?_) (fun h1 => ?_) <;> (conv => whnf)
    · have h1 : (i : Int) < p.chg.length := of_decide_eq_true h1
      have hmem : p.chg.getD i 0 ∈ p.chg := by rw [List.getD_eq_getElem?_getD, List.getElem?_eq_getElem (by omega)]; exact List.getElem_mem _
      refine ⟨List.range 25, by kernel_rfl, ?_⟩
      (conv => whnf)
      refine ⟨⟨rfl, by omega, by omega⟩, ?_⟩
      (conv => whnf)
      refine ⟨rfl, ?_⟩
      (conv => whnf)
      refine Fun.dd (Try.inR (p.chg.getD i 0) 0 1099511627776) rfl rfl ?_
      (conv => whnf)
      refine bsplit (fun h2 => ?_) (fun h2 => ?_) <;> (conv => whnf)
      · exact leave_b (by
          have hf : allIn 0 1099511627776 p.chg = false := by
            unfold allIn
            rw [List.all_eq_false]
            refine ⟨_, hmem, ?_⟩
            simp at h2 ⊢
            omega
          rw [hf]; rfl)
      · have h2' : 0 ≤ p.chg.getD i 0 ∧ p.chg.getD i 0 ≤ 1099511627776 := by simpa using h2
        have step : ∀ j, j < i + 1 → 0 ≤ p.chg.getD j 0 ∧ p.chg.getD j 0 ≤ 1099511627776 := fun j hj => by
          rcases Nat.lt_or_ge j i with hj' | hj'
          · exact hpp j hj'
          · obtain rfl : j = i := by omega
            exact h2'
        refine bsplit (fun h3 => ?_) (fun h3 => ?_) <;> (conv => whnf)
        · have h3 : (0 : Int) < i := of_decide_eq_true h3
          rw [wrap_i64 (x := (i : Int) - 1) (by omega) (by omega)]
          refine ⟨⟨rfl, by omega, by omega⟩, ?_⟩
          (conv => whnf)
          refine ⟨⟨rfl, by omega, by omega⟩, ?_⟩
          (conv => whnf)
          have e1 : ((i : Int) - 1).toNat = i - 1 := by omega
          refine bsplit (fun h4 => ?_) (fun h4 => ?_) <;> (conv => whnf)
          · exact leave_b (by
              have hf : srt p.chg = false := by
                cases hs : srt p.chg with
                | false => rfl
                | true =>
                  have := srt_iff.1 hs (i - 1) (by omega)
                  rw [e1] at h4
                  rw [show i - 1 + 1 = i by omega] at this
                  have := of_decide_eq_true h4
                  simp only [Int.toNat_natCast] at this
                  omega
              rw [hf]; simp)
          · rw [wrap_i64 (x := (i : Int) + 1) (by omega) (by omega)]
            refine again (i + 1) (by omega) (Weak.of (by simp [weakT, weakV])) ⟨by omega, step, fun j hj => ?_⟩
            by_cases hj' : j + 1 < i
            · exact hqq j hj'
            · obtain rfl : j = i - 1 := by omega
              rw [e1] at h4
              rw [show i - 1 + 1 = i by omega]
              have := of_decide_eq_false h4
              simp only [Int.toNat_natCast] at this
              omega
        · have h3 : ¬ (0 : Int) < i := of_decide_eq_false h3
          rw [wrap_i64 (x := (i : Int) + 1) (by omega) (by omega)]
          exact again (i + 1) (by omega) (Weak.of (by simp [weakT, weakV])) ⟨by omega, step, fun j hj => by omega⟩
    · have h1 : ¬ (i : Int) < p.chg.length := of_decide_eq_false h1
      exact leave_b (by
        have hc : allIn 0 1099511627776 p.chg = true := by
          unfold allIn
          rw [List.all_eq_true]
          intro x hx
          obtain ⟨j, hj, rfl⟩ := List.getElem_of_mem hx
          have := hpp j (by omega)
          rw [List.getD_eq_getElem?_getD, List.getElem?_eq_getElem hj] at this
          simpa using this
        have hs : srt p.chg = true := srt_iff.2 fun k hk => hqq k (by omega)
        rw [hc, hs]; rfl)

end Go.Proofs
