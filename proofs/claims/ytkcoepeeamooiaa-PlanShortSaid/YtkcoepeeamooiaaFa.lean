/- What small functions of the program yield: comparisons, ranges, equality of lists. -/
import Derived.Test.YtkcoepeeamooiaaAb18
set_option linter.unusedVariables false
set_option linter.unusedSimpArgs false
namespace Go.Proofs
open Go Go.Ab

set_option maxRecDepth 100000 in
set_option maxHeartbeats 1000000 in
theorem Try.isNaN (x : Int) : Fun Try.prog 48 [.d (.int .i64 x)] (.d (.bool false)) := by
  refine Try.fun (fn := Try.f48) 0 rfl rfl ?_
  (conv => whnf)
  exact leave_b (by simp)

set_option maxRecDepth 100000 in
set_option maxHeartbeats 1000000 in
theorem Try.less (x y : Int) : Fun Try.prog 41 [.d (.int .i64 x), .d (.int .i64 y)] (.d (.bool (decide (x < y)))) := by
  refine Try.fun (fn := Try.f41) 0 rfl rfl ?_
  (conv => whnf)
  refine ⟨rfl, ?_⟩
  refine Fun.k (Try.isNaN x) (LEs.refl _) rfl ?_
  (conv => whnf)
  exact leave_b (by simp)

set_option maxRecDepth 100000 in
set_option maxHeartbeats 1000000 in
theorem Try.inR (x a b : Int) : Fun Try.prog 27 [.d (.int .i64 x), .d (.int .i64 a), .d (.int .i64 b)] (.d (.bool (decide (a ≤ x ∧ x ≤ b)))) := by
  refine Try.fun (fn := Try.f27) 0 rfl rfl ?_
  (conv => whnf)
  repeat' (refine bsplit (fun h => ?_) (fun h => ?_) <;> (conv => whnf))
  all_goals
    simp at h
    exact leave_b (by simp [h]; try omega)

/-- One of the reference's small numbers. -/
def smallI (x : Int) : Int := if -1 ≤ x ∧ x ≤ 1000000 then x else -2
set_option maxRecDepth 100000 in
set_option maxHeartbeats 1000000 in
theorem Try.small (x : Int) : Fun Try.prog 30 [.d (.int .i64 x)] (.d (.int .i64 (smallI x))) := by
  refine Try.fun (fn := Try.f30) 0 rfl rfl ?_
  (conv => whnf)
  refine ⟨rfl, ?_⟩
  refine Fun.k (Try.inR x (-1) 1000000) (LEs.refl _) rfl ?_
  (conv => whnf)
  repeat' (refine bsplit (fun h => ?_) (fun h => ?_) <;> (conv => whnf))
  all_goals
    simp at h
    exact leave_i (by simp [smallI]; omega)

set_option maxRecDepth 100000 in
set_option maxHeartbeats 1000000 in
theorem Try.equal64 (a b : List Int) (ha : a.length ≤ 140737488355328) (hb : b.length ≤ 140737488355328) : Fun Try.prog 33 [.d (.sl (.ints .i64 a)), .d (.sl (.ints .i64 b))] (.d (.bool (decide (a = b)))) := by
  refine Try.fun (fn := Try.f33) 0 rfl rfl ?_
  (conv => whnf)
  refine bsplit (fun h => ?_) (fun h => ?_) <;> (conv => whnf)
  · exact leave_b (by simp at h; simp; intro e; exact h (by rw [e]))
  · simp at h
    refine loop_of (fun i : Nat => [.d (.sl (.ints .i64 a)), .d (.sl (.ints .i64 b)), .top, .top, .top, .top, .top, .top, .top, .top, .top, .top, .d (.int .i64 a.length), .d (.int .i64 i), .top, .top, .top, .top, .top, .top, .top, .top, .top, .top, .top, .top]) (fun _ => []) (fun i => i ≤ a.length ∧ ∀ j, j < i → a[j]? = b[j]?) (fun i => a.length - i) 0 (Weak.of (by simp [weakT, weakV])) (by simp) fun i ⟨hi, hp⟩ => ?_
    (conv => whnf)
    refine bsplit (fun h1 => ?_) (fun h1 => ?_) <;> (conv => whnf)
    · simp at h1
      refine ⟨List.range 9, by kernel_rfl, ?_⟩
      (conv => whnf)
      refine ⟨⟨rfl, by omega, by omega⟩, ?_⟩ <;> (conv => whnf)
      refine ⟨⟨rfl, by omega, by omega⟩, ?_⟩ <;> (conv => whnf)
      refine bsplit (fun h2 => ?_) (fun h2 => ?_) <;> (conv => whnf)
      · exact leave_b (by simp at h2 ⊢; intro e; exact h2 (by rw [e]))
      · rw [wrap_i64 (x := (i : Int) + 1) (by omega) (by omega)]
        refine again (i + 1) (by omega) (Weak.of (by simp [weakT, weakV])) ⟨by omega, fun j hj => ?_⟩
        rcases Nat.lt_or_ge j i with hj' | hj'
        · exact hp j hj'
        · obtain rfl : j = i := by omega
          simp at h2
          rw [List.getElem?_eq_getElem h1, List.getElem?_eq_getElem (by omega)] at *
          simpa using h2
    · simp at h1
      exact leave_b (by
        simp
        apply List.ext_getElem?
        intro j
        rcases Nat.lt_or_ge j i with hj | hj
        · exact hp j hj
        · rw [List.getElem?_eq_none (by omega), List.getElem?_eq_none (by omega)])

set_option maxRecDepth 100000 in
set_option maxHeartbeats 1000000 in
theorem Try.equalInt (a b : List Int) (ha : a.length ≤ 140737488355328) (hb : b.length ≤ 140737488355328) : Fun Try.prog 32 [.d (.sl (.ints .i64 a)), .d (.sl (.ints .i64 b))] (.d (.bool (decide (a = b)))) := by
  refine Try.fun (fn := Try.f32) 0 rfl rfl ?_
  (conv => whnf)
  refine bsplit (fun h => ?_) (fun h => ?_) <;> (conv => whnf)
  · exact leave_b (by simp at h; simp; intro e; exact h (by rw [e]))
  · simp at h
    refine loop_of (fun i : Nat => [.d (.sl (.ints .i64 a)), .d (.sl (.ints .i64 b)), .top, .top, .top, .top, .top, .top, .top, .top, .top, .top, .d (.int .i64 a.length), .d (.int .i64 i), .top, .top, .top, .top, .top, .top, .top, .top, .top, .top, .top, .top]) (fun _ => []) (fun i => i ≤ a.length ∧ ∀ j, j < i → a[j]? = b[j]?) (fun i => a.length - i) 0 (Weak.of (by simp [weakT, weakV])) (by simp) fun i ⟨hi, hp⟩ => ?_
    (conv => whnf)
    refine bsplit (fun h1 => ?_) (fun h1 => ?_) <;> (conv => whnf)
    · simp at h1
      refine ⟨List.range 9, by kernel_rfl, ?_⟩
      (conv => whnf)
      refine ⟨⟨rfl, by omega, by omega⟩, ?_⟩ <;> (conv => whnf)
      refine ⟨⟨rfl, by omega, by omega⟩, ?_⟩ <;> (conv => whnf)
      refine bsplit (fun h2 => ?_) (fun h2 => ?_) <;> (conv => whnf)
      · exact leave_b (by simp at h2 ⊢; intro e; exact h2 (by rw [e]))
      · rw [wrap_i64 (x := (i : Int) + 1) (by omega) (by omega)]
        refine again (i + 1) (by omega) (Weak.of (by simp [weakT, weakV])) ⟨by omega, fun j hj => ?_⟩
        rcases Nat.lt_or_ge j i with hj' | hj'
        · exact hp j hj'
        · obtain rfl : j = i := by omega
          simp at h2
          rw [List.getElem?_eq_getElem h1, List.getElem?_eq_getElem (by omega)] at *
          simpa using h2
    · simp at h1
      exact leave_b (by
        simp
        apply List.ext_getElem?
        intro j
        rcases Nat.lt_or_ge j i with hj | hj
        · exact hp j hj
        · rw [List.getElem?_eq_none (by omega), List.getElem?_eq_none (by omega)])

set_option maxRecDepth 100000 in
set_option maxHeartbeats 1000000 in
theorem Try.same01 (a b : List Int) (ha : a.length ≤ 140737488355328) (hb : b.length ≤ 140737488355328) : Fun Try.prog 31 [.d (.sl (.ints .i64 a)), .d (.sl (.ints .i64 b))] (.d (.bool (decide (a = b)))) := by
  refine Try.fun (fn := Try.f31) 0 rfl rfl ?_
  (conv => whnf)
  refine bsplit (fun h => ?_) (fun h => ?_) <;> (conv => whnf)
  · exact leave_b (by simp at h; simp; intro e; exact h (by rw [e]))
  · simp at h
    refine loop_of (fun i : Nat => [.d (.sl (.ints .i64 a)), .d (.sl (.ints .i64 b)), .top, .top, .top, .d (.int .i64 i), .top, .top, .top, .top, .top, .top, .top, .top, .top, .top, .top, .top, .top, .top, .top, .top, .top, .top, .top, .top]) (fun _ => []) (fun i => i ≤ a.length ∧ ∀ j, j < i → a[j]? = b[j]?) (fun i => a.length - i) 0 (Weak.of (by simp [weakT, weakV])) (by simp) fun i ⟨hi, hp⟩ => ?_
    (conv => whnf)
    refine bsplit (fun h1 => ?_) (fun h1 => ?_) <;> (conv => whnf)
    · simp at h1
      refine ⟨List.range 9, by kernel_rfl, ?_⟩
      (conv => whnf)
      refine ⟨⟨rfl, by omega, by omega⟩, ?_⟩ <;> (conv => whnf)
      refine ⟨⟨rfl, by omega, by omega⟩, ?_⟩ <;> (conv => whnf)
      refine bsplit (fun h2 => ?_) (fun h2 => ?_) <;> (conv => whnf)
      · exact leave_b (by simp at h2 ⊢; intro e; exact h2 (by rw [e]))
      · rw [wrap_i64 (x := (i : Int) + 1) (by omega) (by omega)]
        refine again (i + 1) (by omega) (Weak.of (by simp [weakT, weakV])) ⟨by omega, fun j hj => ?_⟩
        rcases Nat.lt_or_ge j i with hj' | hj'
        · exact hp j hj'
        · obtain rfl : j = i := by omega
          simp at h2
          rw [List.getElem?_eq_getElem h1, List.getElem?_eq_getElem (by omega)] at *
          simpa using h2
    · simp at h1
      exact leave_b (by
        simp
        apply List.ext_getElem?
        intro j
        rcases Nat.lt_or_ge j i with hj | hj
        · exact hp j hj
        · rw [List.getElem?_eq_none (by omega), List.getElem?_eq_none (by omega)])

/-- In order? -/
def srt : List Int → Bool
  | x :: y :: r => decide (x ≤ y) && srt (y :: r)
  | _ => true
theorem srt_iff : ∀ {l : List Int}, srt l = true ↔ ∀ k, k + 1 < l.length → l.getD k 0 ≤ l.getD (k + 1) 0
  | [] => by simp [srt]
  | [x] => by simp [srt]
  | x :: y :: r => by
    simp only [srt, Bool.and_eq_true, decide_eq_true_eq, srt_iff (l := y :: r)]
    constructor
    · rintro ⟨h1, h2⟩ k hk
      cases k with
      | zero => simpa using h1
      | succ k => simpa using h2 k (by simpa using hk)
    · intro h
      exact ⟨by simpa using h 0 (by simp), fun k hk => by simpa using h (k + 1) (by simpa using hk)⟩
set_option maxRecDepth 100000 in
set_option maxHeartbeats 1000000 in
theorem Try.isSorted (a : List Int) (ha : a.length ≤ 140737488355328) : Fun Try.prog 26 [.d (.sl (.ints .i64 a))] (.d (.bool (srt a))) := by
  refine Try.fun (fn := Try.f26) 0 rfl rfl ?_
  (conv => whnf)
  refine loop_of (fun n : Nat => [.d (.sl (.ints .i64 a)), .top, .top, .d (.int .i64 ((n : Int) - 1)), .top, .top, .top, .top, .top, .top, .top, .top, .top, .top, .top, .top, .top, .top, .top, .top, .top]) (fun _ => []) (fun n => n ≤ a.length ∧ ∀ k, n ≤ k + 1 → k + 1 < a.length → a.getD k 0 ≤ a.getD (k + 1) 0) (fun n => n) a.length (Weak.of (by simp [weakT, weakV]; exact wrap_i64 (by omega) (by omega))) (by simp; intro k h1 h2; omega) fun n ⟨hn, hp⟩ => ?_
  (conv => whnf)
  refine bsplit (fun h1 => ?_) (fun h1 => ?_) <;> (conv => whnf)
  · simp at h1
    refine ⟨List.range 10, by kernel_rfl, ?_⟩
    (conv => whnf)
    refine ⟨⟨rfl, by omega, by omega⟩, ?_⟩ <;> (conv => whnf)
    rw [wrap_i64 (x := (n : Int) - 1 - 1) (by omega) (by omega)]
    refine ⟨⟨rfl, by omega, by omega⟩, ?_⟩ <;> (conv => whnf)
    refine ⟨rfl, ?_⟩
    (conv => whnf)
    refine Fun.d (Try.less _ _) (LEs.refl _) rfl ?_
    (conv => whnf)
    have e1 : ((n : Int) - 1).toNat = n - 1 := by omega
    have e2 : ((n : Int) - 1 - 1).toNat = n - 2 := by omega
    refine bsplit (fun h2 => ?_) (fun h2 => ?_) <;> (conv => whnf)
    · rw [e1, e2] at h2
      exact leave_b (by
        cases hs : srt a with
        | false => rfl
        | true =>
          have := srt_iff.1 hs (n - 2) (by omega)
          rw [show n - 2 + 1 = n - 1 by omega] at this
          have := of_decide_eq_true h2
          omega)
    · rw [e1, e2] at h2
      rw [wrap_i64 (x := (n : Int) - 1 - 1) (by omega) (by omega)]
      refine again (n - 1) (by omega) (Weak.of (by simp [weakT, weakV]; omega)) ⟨by omega, fun k h3 h4 => ?_⟩
      by_cases hk : n ≤ k + 1
      · exact hp k hk h4
      · obtain rfl : k = n - 2 := by omega
        rw [show n - 2 + 1 = n - 1 by omega]
        have := of_decide_eq_false h2
        omega
  · simp at h1
    exact leave_b (Eq.symm (srt_iff.2 fun k hk => hp k (by omega) hk))

/-- Where the first one stands that is so; -1 if there is none. -/
def idxF (p : Int → Bool) (l : List Int) : Int := match l.findIdx? p with | some i => i | none => -1
/-- All between two bounds? -/
def allIn (lo hi : Int) (l : List Int) : Bool := l.all fun x => decide (lo ≤ x ∧ x ≤ hi)

set_option maxRecDepth 100000 in
set_option maxHeartbeats 1000000 in
theorem Try.outInt (x lo hi : Int) : Fun Try.prog 38 [.d (.int .i64 x), .rp [.int .i64 lo], .rp [.int .i64 hi]] (.d (.bool !decide (lo ≤ x ∧ x ≤ hi))) := by
  refine Try.fun (fn := Try.f38) 0 rfl rfl ?_
  (conv => whnf)
  repeat' (refine bsplit (fun h => ?_) (fun h => ?_) <;> (conv => whnf))
  all_goals
    simp at h
    exact leave_b (by rw [Bool.eq_iff_iff]; simp [h]; try omega)

set_option maxRecDepth 100000 in
set_option maxHeartbeats 1000000 in
theorem Try.indexFInt (a : List Int) (ha : a.length ≤ 140737488355328) (g : FuncId) (caps : List AV) (p : Int → Bool) (hen : entry Try.prog g = true) (hc : cleans yes yes caps = true) (hf : ∀ x, Fun Try.prog g (.d (.int .i64 x) :: caps) (.d (.bool (p x)))) : Fun Try.prog 46 [.d (.sl (.ints .i64 a)), .fn g caps] (.d (.int .i64 (idxF p a))) := by
  refine Try.fun (fn := Try.f46) 0 rfl rfl ?_
  (conv => whnf)
  refine loop_of (fun i : Nat => [.d (.sl (.ints .i64 a)), .fn g caps, .top, .top, .top, .top, .top, .d (.int .i64 a.length), .d (.int .i64 i), .top, .top, .top, .top, .top, .top, .top, .top, .top, .top]) (fun _ => []) (fun i => i ≤ a.length ∧ ∀ j, j < i → p (a.getD j 0) = false) (fun i => a.length - i) 0 (Weak.of (by simp [weakT, weakV])) (by simp) fun i ⟨hi, hp⟩ => ?_
  (conv => whnf)
  refine bsplit (fun h1 => ?_) (fun h1 => ?_) <;> (conv => whnf)
  · simp at h1
    refine ⟨⟨rfl, by omega, by omega⟩, ?_⟩ <;> (conv => whnf)
    refine ⟨hen, ?_⟩
    rw [seqA_eq]
    refine Fun.k (hf (a.getD i 0)) (LEs.refl _) (by simpa [cleans, AV.clean] using hc) ?_
    (conv => whnf)
    refine bsplit (fun h2 => ?_) (fun h2 => ?_) <;> (conv => whnf)
    · exact leave_i (by
        unfold idxF
        have : a.findIdx? p = some i := by
          rw [List.findIdx?_eq_some_iff_getElem]
          refine ⟨h1, ?_, fun j hj => ?_⟩
          · simpa [List.getD_eq_getElem?_getD, h1] using h2
          · have := hp j hj
            rw [List.getD_eq_getElem?_getD, List.getElem?_eq_getElem (by omega)] at this
            simpa using this
        rw [this])
    · rw [wrap_i64 (x := (i : Int) + 1) (by omega) (by omega)]
      refine again (i + 1) (by omega) (Weak.of (by simp [weakT, weakV])) ⟨by omega, fun j hj => ?_⟩
      rcases Nat.lt_or_ge j i with hj' | hj'
      · exact hp j hj'
      · obtain rfl : j = i := by omega
        exact h2
  · simp at h1
    exact leave_i (by
      unfold idxF
      have : a.findIdx? p = none := by
        rw [List.findIdx?_eq_none_iff]
        intro x hx
        obtain ⟨j, hj, rfl⟩ := List.getElem_of_mem hx
        have := hp j (by omega)
        rw [List.getD_eq_getElem?_getD, List.getElem?_eq_getElem hj] at this
        simpa using this
      rw [this])

theorem idxF_any (p : Int → Bool) (a : List Int) : decide (0 ≤ idxF p a) = a.any p := by
  unfold idxF
  cases h : a.findIdx? p with
  | none =>
    rw [List.findIdx?_eq_none_iff] at h
    have : a.any p = false := by rw [List.any_eq_false]; intro x hx; simp [h x hx]
    rw [this]; simp
  | some i =>
    rw [List.findIdx?_eq_some_iff_getElem] at h
    obtain ⟨h1, h2, _⟩ := h
    have : a.any p = true := by rw [List.any_eq_true]; exact ⟨_, List.getElem_mem h1, h2⟩
    rw [this]; simp
set_option maxRecDepth 100000 in
set_option maxHeartbeats 1000000 in
theorem Try.hasFInt (a : List Int) (ha : a.length ≤ 140737488355328) (g : FuncId) (caps : List AV) (p : Int → Bool) (hen : entry Try.prog g = true) (hc : cleans yes yes caps = true) (hf : ∀ x, Fun Try.prog g (.d (.int .i64 x) :: caps) (.d (.bool (p x)))) : Fun Try.prog 37 [.d (.sl (.ints .i64 a)), .fn g caps] (.d (.bool (a.any p))) := by
  refine Try.fun (fn := Try.f37) 0 rfl rfl ?_
  (conv => whnf)
  refine ⟨by kernel_rfl, ?_⟩
  refine Fun.k (Try.indexFInt a ha g caps p hen hc hf) (LEs.refl _) (by simpa [cleans, AV.clean] using hc) ?_
  (conv => whnf)
  exact leave_b (idxF_any p a)

set_option maxRecDepth 100000 in
set_option maxHeartbeats 1000000 in
theorem Try.allInt (lo hi : Int) (a : List Int) (ha : a.length ≤ 140737488355328) : Fun Try.prog 24 [.d (.int .i64 lo), .d (.int .i64 hi), .d (.sl (.ints .i64 a))] (.d (.bool (allIn lo hi a))) := by
  refine Try.fun (fn := Try.f24) 0 rfl rfl ?_
  (conv => whnf)
  refine ⟨[0, 1], ?_⟩
  (conv => whnf)
  refine ⟨⟨by omega, rfl⟩, ?_⟩
  (conv => whnf)
  refine ⟨⟨by omega, rfl⟩, ?_⟩
  (conv => whnf)
  refine ⟨by kernel_rfl, ?_⟩
  refine Fun.k (Try.hasFInt a ha _ _ (fun x => !decide (lo ≤ x ∧ x ≤ hi)) (by kernel_rfl) rfl (fun x => Try.outInt x lo hi)) (LEs.refl _) rfl ?_
  (conv => whnf)
  exact leave_b (by
    unfold allIn
    induction a with
    | nil => rfl
    | cons x a ih => simp only [List.any_cons, List.all_cons, Bool.not_or, Bool.not_not]; rw [ih (by simp at ha; omega)])

set_option maxRecDepth 100000 in
set_option maxHeartbeats 1000000 in
theorem Try.out64 (x lo hi : Int) : Fun Try.prog 40 [.d (.int .i64 x), .rp [.int .i64 lo], .rp [.int .i64 hi]] (.d (.bool !decide (lo ≤ x ∧ x ≤ hi))) := by
  refine Try.fun (fn := Try.f40) 0 rfl rfl ?_
  (conv => whnf)
  repeat' (refine bsplit (fun h => ?_) (fun h => ?_) <;> (conv => whnf))
  all_goals
    simp at h
    exact leave_b (by rw [Bool.eq_iff_iff]; simp [h]; try omega)

set_option maxRecDepth 100000 in
set_option maxHeartbeats 1000000 in
theorem Try.indexF64 (a : List Int) (ha : a.length ≤ 140737488355328) (g : FuncId) (caps : List AV) (p : Int → Bool) (hen : entry Try.prog g = true) (hc : cleans yes yes caps = true) (hf : ∀ x, Fun Try.prog g (.d (.int .i64 x) :: caps) (.d (.bool (p x)))) : Fun Try.prog 47 [.d (.sl (.ints .i64 a)), .fn g caps] (.d (.int .i64 (idxF p a))) := by
  refine Try.fun (fn := Try.f47) 0 rfl rfl ?_
  (conv => whnf)
  refine loop_of (fun i : Nat => [.d (.sl (.ints .i64 a)), .fn g caps, .top, .top, .top, .top, .top, .d (.int .i64 a.length), .d (.int .i64 i), .top, .top, .top, .top, .top, .top, .top, .top, .top, .top]) (fun _ => []) (fun i => i ≤ a.length ∧ ∀ j, j < i → p (a.getD j 0) = false) (fun i => a.length - i) 0 (Weak.of (by simp [weakT, weakV])) (by simp) fun i ⟨hi, hp⟩ => ?_
  (conv => whnf)
  refine bsplit (fun h1 => ?_) (fun h1 => ?_) <;> (conv => whnf)
  · simp at h1
    refine ⟨⟨rfl, by omega, by omega⟩, ?_⟩ <;> (conv => whnf)
    refine ⟨hen, ?_⟩
    rw [seqA_eq]
    refine Fun.k (hf (a.getD i 0)) (LEs.refl _) (by simpa [cleans, AV.clean] using hc) ?_
    (conv => whnf)
    refine bsplit (fun h2 => ?_) (fun h2 => ?_) <;> (conv => whnf)
    · exact leave_i (by
        unfold idxF
        have : a.findIdx? p = some i := by
          rw [List.findIdx?_eq_some_iff_getElem]
          refine ⟨h1, ?_, fun j hj => ?_⟩
          · simpa [List.getD_eq_getElem?_getD, h1] using h2
          · have := hp j hj
            rw [List.getD_eq_getElem?_getD, List.getElem?_eq_getElem (by omega)] at this
            simpa using this
        rw [this])
    · rw [wrap_i64 (x := (i : Int) + 1) (by omega) (by omega)]
      refine again (i + 1) (by omega) (Weak.of (by simp [weakT, weakV])) ⟨by omega, fun j hj => ?_⟩
      rcases Nat.lt_or_ge j i with hj' | hj'
      · exact hp j hj'
      · obtain rfl : j = i := by omega
        exact h2
  · simp at h1
    exact leave_i (by
      unfold idxF
      have : a.findIdx? p = none := by
        rw [List.findIdx?_eq_none_iff]
        intro x hx
        obtain ⟨j, hj, rfl⟩ := List.getElem_of_mem hx
        have := hp j (by omega)
        rw [List.getD_eq_getElem?_getD, List.getElem?_eq_getElem hj] at this
        simpa using this
      rw [this])

set_option maxRecDepth 100000 in
set_option maxHeartbeats 1000000 in
theorem Try.hasF64 (a : List Int) (ha : a.length ≤ 140737488355328) (g : FuncId) (caps : List AV) (p : Int → Bool) (hen : entry Try.prog g = true) (hc : cleans yes yes caps = true) (hf : ∀ x, Fun Try.prog g (.d (.int .i64 x) :: caps) (.d (.bool (p x)))) : Fun Try.prog 39 [.d (.sl (.ints .i64 a)), .fn g caps] (.d (.bool (a.any p))) := by
  refine Try.fun (fn := Try.f39) 0 rfl rfl ?_
  (conv => whnf)
  refine ⟨by kernel_rfl, ?_⟩
  refine Fun.k (Try.indexF64 a ha g caps p hen hc hf) (LEs.refl _) (by simpa [cleans, AV.clean] using hc) ?_
  (conv => whnf)
  exact leave_b (idxF_any p a)

set_option maxRecDepth 100000 in
set_option maxHeartbeats 1000000 in
theorem Try.all64 (lo hi : Int) (a : List Int) (ha : a.length ≤ 140737488355328) : Fun Try.prog 25 [.d (.int .i64 lo), .d (.int .i64 hi), .d (.sl (.ints .i64 a))] (.d (.bool (allIn lo hi a))) := by
  refine Try.fun (fn := Try.f25) 0 rfl rfl ?_
  (conv => whnf)
  refine ⟨[0, 1], ?_⟩
  (conv => whnf)
  refine ⟨⟨by omega, rfl⟩, ?_⟩
  (conv => whnf)
  refine ⟨⟨by omega, rfl⟩, ?_⟩
  (conv => whnf)
  refine ⟨by kernel_rfl, ?_⟩
  refine Fun.k (Try.hasF64 a ha _ _ (fun x => !decide (lo ≤ x ∧ x ≤ hi)) (by kernel_rfl) rfl (fun x => Try.out64 x lo hi)) (LEs.refl _) rfl ?_
  (conv => whnf)
  exact leave_b (by
    unfold allIn
    induction a with
    | nil => rfl
    | cons x a ih => simp only [List.any_cons, List.all_cons, Bool.not_or, Bool.not_not]; rw [ih (by simp at ha; omega)])

end Go.Proofs
