/- What the program's writers yield: a number, a list of numbers, a plan. -/
import Derived.Test.YtkcoepeeamooiaaFi
import Derived.Test.YtkcoepeeamooiaaPa
set_option linter.unusedVariables false
set_option linter.unusedSimpArgs false
namespace Go.Proofs
open Go Go.Ab

/-- A call of put: bytes behind bytes. -/
theorem Try.put_k (n : Int) (hn : I64 n) (l : List Int) (hl : l.length ≤ 140737488355300) {x : AV} {fr : Fr} {H : Hp} {K : AV → Fr → Hp → Prop} (hx : LE x (.app putT (.ints .u8 l)))
    (hk : K (.app putT (.ints .u8 (l ++ putI n))) (weaks (one putT) no fr) (weakH (one putT) no H)) : CallP Try.prog 35 [x, .d (.int .i64 n)] fr H K := by
  refine CallP.weak (as' := [.app putT (.ints .u8 l), .d (.int .i64 n)]) (.cons hx (.cons (.refl _) .nil)) ?_
  have e : (fun g => (if g = putT then some putT else none : Option Nat).isSome) = one putT := by
    funext g
    unfold one
    by_cases h : g = putT <;> simp [h]
  refine CallP.pure (fun g => if g = putT then some putT else none) (Q := fun r => r = .app putT (.ints .u8 (l ++ putI n))) ?_ (by simp [cleans, AV.clean]) fun r hr => ?_
  · simpa [retags, AV.retag] using Try.putTrip n hn l hl
  · subst hr; rw [e]; exact hk

set_option maxRecDepth 100000 in
set_option maxHeartbeats 1000000 in
theorem Try.putIW (n : Int) (hn : I64 n) : Fun Try.prog 34 [.d (.int .i64 n)] (.app putT (.ints .u8 (putI n))) := by
  refine Try.fun (fn := Try.f34) 0 rfl rfl ?_
  (conv => whnf)
  refine ⟨rfl, ?_⟩
  refine Try.put_k n hn [] (by simp) (.nil_app _ _ rfl) ?_
  (conv => whnf)
  exact leave_fun (.refl _) rfl

set_option maxRecDepth 100000 in
set_option maxHeartbeats 1000000 in
theorem Try.putLW (l : List Int) (hl : l.length ≤ 64) (hw : ∀ x ∈ l, I64 x) : Fun Try.prog 22 [.d (.sl (.ints .i64 l))] (.tup [.app putT (.ints .u8 (putL l)), .d (.int .i64 0)]) := by
  refine Try.fun (fn := Try.f22) 0 rfl rfl ?_
  (conv => whnf)
  refine bsplit (fun h => ?_) (fun h => ?_) <;> (conv => whnf)
  · have h : (64 : Int) < l.length := of_decide_eq_true h
    omega
  refine ⟨rfl, ?_⟩
  refine (Try.putIW l.length (by constructor <;> omega)).k (.refl _) rfl ?_
  (conv => whnf)
  refine loop_of (fun (i : Nat) => [.top, .top, .top, .top, .app putT (.ints .u8 (putI l.length ++ (l.take i).flatMap putI)), .top, .top, .top, .top, .top, .top, .top, .top, .d (.sl (.ints .i64 l)), .d (.int .i64 l.length), .d (.int .i64 i), .top, .top, .top, .top, .top, .top, .top, .top]) (fun _ => []) (fun i => i ≤ l.length) (fun i => l.length - i) 0 (Weak.of ⟨congrArg (fun x => AV.app putT (.ints .u8 x)) (by simp), rfl, rfl, rfl, trivial⟩) (by simp) fun i hi => ?_
  (conv => whnf)
  refine bsplit (fun h3 => ?_) (fun h3 => ?_) <;> (conv => whnf)
  · have h3 : (i : Int) < l.length := of_decide_eq_true h3
    have hx : l.getD (i : Int).toNat 0 = l[i] := by simp [List.getD_eq_getElem?_getD, List.getElem?_eq_getElem (show i < l.length by omega)]
    refine idx_ok rfl (by omega) (by omega) ?_
    (conv => whnf)
    refine ⟨rfl, ?_⟩
    have hlen : ∀ k : List Int, (k.flatMap putI).length ≤ 11 * k.length := by
      intro k
      induction k with
      | nil => simp
      | cons x k ih => simp only [List.flatMap_cons, List.length_append, List.length_cons]; have := putI_len x; omega
    have q1 := hlen (l.take i)
    have q2 := putI_len l.length
    have q3 : (l.take i).length ≤ 64 := by simp; omega
    refine Try.put_k (l.getD (i : Int).toNat 0) (by rw [hx]; exact hw _ (List.getElem_mem _)) (putI l.length ++ (l.take i).flatMap putI) (by simp only [List.length_append]; omega) (.refl _) ?_
    (conv => whnf)
    refine again (i + 1) ?_ ?_ ?_
    · omega
    · refine Weak.of ⟨congrArg (fun x => AV.app putT (.ints .u8 x)) ?_, rfl, rfl, congrArg (fun x => AV.d (.int .i64 x)) (wrap_i64 (x := (i : Int) + 1) (by omega) (by omega)), trivial⟩
      have e := List.take_succ_eq_append_getElem (show i < l.length by omega)
      rw [hx, e, List.flatMap_append, ← List.append_assoc]
      simp only [List.flatMap_cons, List.flatMap_nil, List.append_nil]
    · omega
  · have h3 : ¬ (i : Int) < l.length := of_decide_eq_false h3
    have htake : l.take i = l := List.take_of_length_le (by omega)
    rw [htake]
    exact leave_fun (.refl _) rfl

/-- The lists of a plan, as the program writes them. -/
def lists3 (p : Pl) : Nat → List Int
  | 0 => p.nums
  | 1 => p.pen
  | _ => p.chg
def upTo3 (p : Pl) : Nat → List Int
  | 0 => []
  | 1 => putL p.nums
  | 2 => putL p.nums ++ putL p.pen
  | _ => putL p.nums ++ putL p.pen ++ putL p.chg
def plT : Nat := 11000 + 47

set_option maxRecDepth 100000 in
set_option maxHeartbeats 1000000 in
theorem Try.put (p : Pl) (hp : p.ok) : Fun Try.prog 11 [.d p.D] (if p.right = true then .tup [.app plT (.ints .u8 p.bytes), .d (.int .i64 0)] else .tup [.nils, .d (.int .i64 41)]) := by
  refine Try.fun (fn := Try.f11) 11000 rfl rfl ?_
  (conv => whnf)
  refine ⟨ble rfl, ?_⟩
  (conv => whnf)
  refine ⟨rfl, ?_⟩
  refine Fun.kd (Try.right p hp) rfl rfl ?_
  (conv => whnf)
  refine bsplit (fun h => ?_) (fun h => ?_) <;> (conv => whnf)
  · have h : p.right = false := by simpa using h
    rw [if_neg (by rw [h]; decide)]
    exact leave_fun (.refl _) rfl
  have h : p.right = true := by simpa using h
  rw [if_pos h]
  obtain ⟨l1, l2⟩ := Pl.right_len h
  refine loop_of (fun (i : Nat) => [.top, .ptr 0 0, .top, .top, .app (11000 + 26) (.ints .i64 (p.pen.take i)), .top, .top, .top, .top, .top, .top, .top, .top, .top, .top, .top, .top, .d (.sl (.ints .i64 p.pen)), .d (.int .i64 p.pen.length), .d (.int .i64 i), .top, .top, .top, .top, .top, .top, .top, .top, .top, .top, .top, .top, .top, .top, .top, .top, .top, .top, .top, .top, .top, .top, .top, .top, .top, .top, .top, .top, .top, .top]) (fun _ => [some ⟨26, p.cells⟩]) (fun i => i ≤ p.pen.length) (fun i => p.pen.length - i) 0 (Weak.of ⟨rfl, rfl, rfl, rfl, rfl, trivial⟩) (by simp) fun i hi => ?_
  (conv => whnf)
  refine bsplit (fun h3 => ?_) (fun h3 => ?_) <;> (conv => whnf)
  · have h3 : (i : Int) < p.pen.length := of_decide_eq_true h3
    have hx : p.pen.getD (i : Int).toNat 0 = p.pen[i] := by simp [List.getD_eq_getElem?_getD, List.getElem?_eq_getElem (show i < p.pen.length by omega)]
    refine idx_ok rfl (by omega) (by omega) ?_
    (conv => whnf)
    refine ⟨⟨ble rfl, by decide⟩, ?_⟩
    (conv => whnf)
    refine ⟨⟨by simp [L.len]; omega, by decide⟩, ?_⟩
    (conv => whnf)
    refine again (i + 1) ?_ ?_ ?_
    · omega
    · refine Weak.of ⟨rfl, congrArg (fun x => AV.app _ (.ints .i64 x)) ?_, rfl, rfl, congrArg (fun x => AV.d (.int .i64 x)) (wrap_i64 (x := (i : Int) + 1) (by omega) (by omega)), trivial⟩
      rw [hx, List.take_succ_eq_append_getElem (by omega)]
    · omega
  · have h3 : ¬ (i : Int) < p.pen.length := of_decide_eq_false h3
    have htake : p.pen.take i = p.pen := List.take_of_length_le (by omega)
    rw [htake]
    refine ⟨ble rfl, ?_⟩
    (conv => whnf)
    refine ⟨rfl, ?_⟩
    refine Fun.kd (Try.numbers p) rfl rfl ?_
    (conv => whnf)
    refine ⟨⟨rfl, ble rfl, rfl⟩, ?_⟩
    (conv => whnf)
    refine ⟨⟨by omega, rfl⟩, ?_⟩
    (conv => whnf)
    refine ⟨List.range 7, by kernel_rfl, ?_⟩
    (conv => whnf)
    refine ⟨⟨ble rfl, by decide, by decide⟩, ?_⟩
    (conv => whnf)
    refine ⟨⟨by decide, by decide⟩, ?_⟩
    (conv => whnf)
    have q0 := putL_len p.nums (ble rfl)
    have q1 := putL_len p.pen (by omega)
    have q2 := putL_len p.chg (by omega)
    refine loop_of (fun (i : Nat) => [.top, .top, .top, .top, .top, .top, .top, .top, .app plT (.ints .u8 (upTo3 p i)), .top, .top, .top, .top, .top, .top, .top, .top, .top, .top, .top, .top, .top, .top, .top, .top, .top, .top, .top, .top, .top, .top, .top, .top, .top, .full (.gen 1 [[.sl (.ints .i64 p.nums)], [.sl (.ints .i64 p.pen)], [.sl (.ints .i64 p.chg)]]), .d (.int .i64 3), .d (.int .i64 i), .top, .top, .top, .top, .top, .top, .top, .top, .top, .top, .top, .top, .top]) (fun _ => []) (fun i => i ≤ 3) (fun i => 3 - i) 0 ⟨weakT_LEs ⟨rfl, rfl, rfl, rfl, trivial⟩, .inr ⟨.nil _, rfl, rfl, fun i hi => by omega⟩⟩ (by simp) fun i hi => ?_
    rcases (show i = 0 ∨ i = 1 ∨ i = 2 ∨ i = 3 by omega) with rfl | rfl | rfl | rfl
    · (conv => whnf)
      refine ⟨⟨rfl, by simp, by simp⟩, ?_⟩
      (conv => whnf)
      refine ⟨rfl, ?_⟩
      refine Fun.k (Try.putLW p.nums (ble rfl) (Pl.nums_ok hp)) (LEs.dat _) rfl ?_
      (conv => whnf)
      refine ⟨⟨by simp [L.len, upTo3]; omega, by decide⟩, ?_⟩
      (conv => whnf)
      refine again 1 ?_ ?_ ?_
      · decide
      · exact Weak.of ⟨rfl, rfl, rfl, congrArg (fun x => AV.d (.int .i64 x)) (wrap_i64 (x := (0 : Int) + 1) (by omega) (by omega)), trivial⟩
      · decide
    · (conv => whnf)
      refine ⟨⟨rfl, by simp, by simp⟩, ?_⟩
      (conv => whnf)
      refine ⟨rfl, ?_⟩
      refine Fun.k (Try.putLW p.pen (by omega) hp.pen) (LEs.dat _) rfl ?_
      (conv => whnf)
      refine ⟨⟨by simp [L.len, upTo3]; omega, by decide⟩, ?_⟩
      (conv => whnf)
      refine again 2 ?_ ?_ ?_
      · decide
      · exact Weak.of ⟨rfl, rfl, rfl, congrArg (fun x => AV.d (.int .i64 x)) (wrap_i64 (x := (1 : Int) + 1) (by omega) (by omega)), trivial⟩
      · decide
    · (conv => whnf)
      refine ⟨⟨rfl, by simp, by simp⟩, ?_⟩
      (conv => whnf)
      refine ⟨rfl, ?_⟩
      refine Fun.k (Try.putLW p.chg (by omega) hp.chg) (LEs.dat _) rfl ?_
      (conv => whnf)
      refine ⟨⟨by simp [L.len, upTo3]; omega, by decide⟩, ?_⟩
      (conv => whnf)
      refine again 3 ?_ ?_ ?_
      · decide
      · exact Weak.of ⟨rfl, rfl, rfl, congrArg (fun x => AV.d (.int .i64 x)) (wrap_i64 (x := (2 : Int) + 1) (by omega) (by omega)), trivial⟩
      · decide
    · (conv => whnf)
      exact leave_fun (.refl _) rfl
end Go.Proofs
