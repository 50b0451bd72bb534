/- Numbers and lists of numbers as bytes: what the reference's writers yield. -/
import Derived.Test.YtkcoepeeamooiaaFb
import Derived.Test.YtkcoepeeamooiaaBt
set_option linter.unusedVariables false
set_option linter.unusedSimpArgs false
namespace Go.Proofs
open Go Go.Ab

/-- The number, without a sign. -/
def zig (n : Int) : Int := if n < 0 then -2 * n - 1 else 2 * n
theorem zig_range {n : Int} (h : I64 n) : 0 ≤ zig n ∧ zig n < 18446744073709551616 := by unfold zig; split <;> omega
/-- Its digits. -/
def dig : Nat → Int → List Int
  | 0, u => [u]
  | f + 1, u => if 128 ≤ u then (u % 128 + 128) :: dig f (u / 128) else [u]
def putI (n : Int) : List Int := dig 10 (zig n)
theorem dig_small {u : Int} (h : u < 128) : ∀ f, dig f u = [u]
  | 0 => rfl
  | f + 1 => by unfold dig; rw [if_neg (by omega)]
theorem dig_big {u : Int} (h : 128 ≤ u) (f : Nat) : dig (f + 1) u = (u % 128 + 128) :: dig f (u / 128) := by rw [dig, if_pos h]
theorem shr7 {u : Int} (h : 0 ≤ u) : u.fdiv (2 ^ (min (7 : Int).toNat (IntKind.bits .u64))) = u / 128 := by
  have e : (2 : Int) ^ (min (7 : Int).toNat (IntKind.bits .u64)) = 128 := by decide
  rw [e]; exact Int.fdiv_eq_ediv_of_nonneg _ (by omega)
theorem shl1 (u : Int) : u * 2 ^ (min (1 : Int).toNat (IntKind.bits .u64)) = 2 * u := by
  have e : (2 : Int) ^ (min (1 : Int).toNat (IntKind.bits .u64)) = 2 := by decide
  rw [e]; omega
theorem wrap_u64_mod (x : Int) : IntKind.wrap .u64 x = x % 18446744073709551616 := by simp [IntKind.wrap, IntKind.bits, IntKind.signed]
theorem zig_neg {n : Int} (hn : I64 n) (h : decide (n < 0) = true) : ibits .xor .u64 (if IntKind.signed .u64 then -1 else IntKind.max .u64) (IntKind.wrap .u64 (IntKind.wrap .u64 n * 2 ^ (min (1 : Int).toNat (IntKind.bits .u64)))) = zig n := by
  have h := of_decide_eq_true h
  have e : (if IntKind.signed .u64 = true then (-1 : Int) else IntKind.max .u64) = 18446744073709551615 := by decide
  rw [e, shl1, wrap_u64_mod, wrap_u64_mod, xor_ones _ (by omega)]
  unfold zig; rw [if_pos h]; omega
theorem zig_pos {n : Int} (hn : I64 n) (h : decide (n < 0) = false) : IntKind.wrap .u64 (IntKind.wrap .u64 n * 2 ^ (min (1 : Int).toNat (IntKind.bits .u64))) = zig n := by
  have h := of_decide_eq_false h
  rw [shl1, wrap_u64_mod, wrap_u64_mod]
  unfold zig; rw [if_neg h]; omega
theorem lowB {u : Int} (h : 0 ≤ u ∧ u < 18446744073709551616) : ibits .or .u8 (IntKind.wrap .u8 (ibits .and .u64 u 127)) 128 = u % 128 + 128 := by
  rw [and127' u h, wrap_u8 (by omega) (by omega), or128 _ (by omega)]
theorem pow_le {k : Nat} (h : k ≤ 9) : (2 : Int) ^ (64 - 7 * k) ≤ 18446744073709551616 ∧ (128 ≤ (2 : Int) ^ (64 - 7 * k) ∨ k = 9) ∧ (k ≤ 8 → (2 : Int) ^ (64 - 7 * k) = 128 * 2 ^ (64 - 7 * (k + 1))) := by
  match k, h with
  | 0, _ => decide
  | 1, _ => decide
  | 2, _ => decide
  | 3, _ => decide
  | 4, _ => decide
  | 5, _ => decide
  | 6, _ => decide
  | 7, _ => decide
  | 8, _ => decide
  | 9, _ => decide

set_option maxRecDepth 100000 in
set_option maxHeartbeats 1000000 in
theorem Try.putI01 (n : Int) (hn : I64 n) : Fun Try.prog 36 [.d (.int .i64 n)] (.app (36000 + 27) (.ints .u8 (putI n))) := by
  refine Try.fun (fn := Try.f36) 36000 rfl rfl ?_
  (conv => whnf)
  have hz := zig_range hn
  refine ⟨by omega, ?_⟩
  (conv => whnf)
  refine bsplit (fun h => ?_) (fun h => ?_) <;> (conv => whnf)
  all_goals
    refine loop_of (fun (s : Nat × Int × List Int) => [.top, .top, .top, .d (.int .u64 s.2.1), .app (36000 + 20) (.ints .u8 s.2.2), .top, .top, .top, .top, .top, .top, .top, .top, .top, .top, .top, .top, .top, .top, .top, .top, .top, .top, .top, .top, .top, .top, .top]) (fun _ => []) (fun s => s.1 ≤ 9 ∧ s.2.2.length = s.1 ∧ 0 ≤ s.2.1 ∧ s.2.1 < 2 ^ (64 - 7 * s.1) ∧ s.2.2 ++ dig (10 - s.1) s.2.1 = putI n) (fun s => 10 - s.1) (0, zig n, []) (Weak.of ⟨congrArg (fun x => AV.d (.int .u64 x)) (by first | exact zig_neg hn h | exact zig_pos hn h), rfl, trivial⟩) ⟨by omega, rfl, hz.1, by simpa using hz.2, by simp [putI]⟩ fun ⟨k, u, l⟩ ⟨hk, hl, h0, h1, h2⟩ => ?_
    simp only at hk hl h0 h1 h2
    have hp := pow_le hk
    (conv => whnf)
    refine bsplit (fun h3 => ?_) (fun h3 => ?_) <;> (conv => whnf)
    · have h3 : 128 ≤ u := of_decide_eq_true h3
      have hk8 : k ≤ 8 := by
        rcases hp.2.1 with h | h
        · rcases Nat.lt_or_ge k 9 with h | h
          · omega
          · obtain rfl : k = 9 := by omega
            simp at h1; omega
        · subst h; simp at h1; omega
      have hp8 := hp.2.2 hk8
      refine ⟨⟨ble rfl, by decide⟩, ?_⟩
      (conv => whnf)
      refine ⟨⟨by simp [L.len]; omega, by decide⟩, ?_⟩
      (conv => whnf)
      refine ⟨by omega, ?_⟩
      (conv => whnf)
      refine again (k + 1, u / 128, l ++ [u % 128 + 128]) ?_ ?_ ?_
      · simp only; omega
      · exact Weak.of ⟨congrArg (fun x => AV.d (.int .u64 x)) (shr7 h0), congrArg (fun x => AV.app _ (.ints .u8 (l ++ [x]))) (lowB (u := u) (by omega)), trivial⟩
      · refine ⟨by simp only; omega, by simp [hl], by simp only; omega, by simp only; omega, ?_⟩
        simp only
        rw [← h2, show 10 - k = (10 - (k + 1)) + 1 by omega, dig_big h3]
        simp
    · have h3 : ¬ 128 ≤ u := of_decide_eq_false h3
      refine ⟨⟨ble rfl, by decide⟩, ?_⟩
      (conv => whnf)
      refine ⟨⟨by simp [L.len]; omega, by decide⟩, ?_⟩
      (conv => whnf)
      refine leave_eq ?_ rfl
      rw [← h2, dig_small (by omega)]
      exact congrArg (fun x => AV.app _ (.ints .u8 (l ++ [x]))) (wrap_u8 (x := u) (by omega) (by omega))

/-- A list: how many, and each. -/
def putL (l : List Int) : List Int := putI l.length ++ l.flatMap putI
theorem dig_len : ∀ (f : Nat) (u : Int), (dig f u).length ≤ f + 1
  | 0, u => by simp [dig]
  | f + 1, u => by
    unfold dig
    split
    · simp only [List.length_cons]; have := dig_len f (u / 128); omega
    · simp
theorem putI_len (n : Int) : (putI n).length ≤ 11 := dig_len 10 _
set_option maxRecDepth 100000 in
set_option maxHeartbeats 1000000 in
theorem Try.putL01 (l : List Int) (hl : l.length ≤ 64) (hw : ∀ x ∈ l, I64 x) : Fun Try.prog 23 [.d (.sl (.ints .i64 l))] (.tup [.app (if l = [] then 36000 + 27 else 23000 + 24) (.ints .u8 (putL l)), .d (.int .i64 0)]) := by
  refine Try.fun (fn := Try.f23) 23000 rfl rfl ?_
  (conv => whnf)
  refine bsplit (fun h => ?_) (fun h => ?_) <;> (conv => whnf)
  · have h : (64 : Int) < l.length := of_decide_eq_true h
    omega
  · refine ⟨rfl, ?_⟩
    refine Fun.kd (Try.putI01 l.length ⟨by omega, by omega⟩) rfl rfl ?_
    (conv => whnf)
    refine loop_of (fun (s : Bool × Nat) => [.d (.sl (.ints .i64 l)), .top, .top, .top, .app (if s.1 = true then 36000 + 27 else 23000 + 24) (.ints .u8 (putI l.length ++ (l.take s.2).flatMap putI)), .d (.int .i64 s.2), .top, .top, .top, .top, .top, .top, .top, .top, .top, .top, .top, .top, .top, .top, .top, .top, .top, .top, .top, .top]) (fun _ => []) (fun s => s.2 ≤ l.length ∧ (s.1 = true ↔ s.2 = 0)) (fun s => l.length - s.2) (true, 0) (Weak.of ⟨rfl, congrArg (fun x => AV.app _ (.ints .u8 x)) (by simp), rfl, trivial⟩) (by simp) fun ⟨b, i⟩ ⟨hi, hb⟩ => ?_
    simp only at hi hb
    have hlen : ∀ i, (putI l.length ++ (l.take i).flatMap putI).length ≤ 11 + 11 * i := fun i => by
      have h1 : ∀ (k : List Int), (k.flatMap putI).length ≤ 11 * k.length := by
        intro k
        induction k with
        | nil => simp
        | cons x k ih => simp only [List.flatMap_cons, List.length_append, List.length_cons]; have := putI_len x; omega
      have := h1 (l.take i)
      have := putI_len l.length
      simp only [List.length_append, List.length_take] at *
      omega
    cases b
    all_goals
      (conv => whnf)
      refine bsplit (fun h3 => ?_) (fun h3 => ?_) <;> (conv => whnf)
      · have h3 : (i : Int) < l.length := of_decide_eq_true h3
        refine idx_ok rfl (by omega) (by omega) ?_
        (conv => whnf)
        have hx : l.getD (i : Int).toNat 0 = l[i] := by simp [List.getD_eq_getElem?_getD, List.getElem?_eq_getElem (show i < l.length by omega)]
        refine ⟨rfl, ?_⟩
        refine Fun.kd (Try.putI01 (l.getD (i : Int).toNat 0) (by rw [hx]; exact hw _ (List.getElem_mem _))) rfl rfl ?_
        (conv => whnf)
        refine ⟨⟨by have := hlen i; have := putI_len (l.getD (i : Int).toNat 0); simp [L.len] at *; omega, by decide⟩, ?_⟩
        (conv => whnf)
        refine again (false, i + 1) ?_ ?_ ?_
        · simp only; omega
        · refine Weak.of ⟨rfl, congrArg (fun x => AV.app _ (.ints .u8 x)) ?_, congrArg (fun x => AV.d (.int .i64 x)) (wrap_i64 (x := (i : Int) + 1) (by omega) (by omega)), trivial⟩
          rw [hx, List.take_succ_eq_append_getElem (by omega), List.flatMap_append]
          simp only [List.flatMap_cons, List.flatMap_nil, List.append_nil, List.append_assoc]
        · exact ⟨by simp only; omega, by simp⟩
      · have h3 : ¬ (i : Int) < l.length := of_decide_eq_false h3
        obtain rfl : i = l.length := by omega
        refine leave_eq ?_ ?_
        · have e : (putI l.length ++ (l.take l.length).flatMap putI) = putL l := by simp [putL]
          have e2 : (l = []) ↔ l.length = 0 := by simp
          simp only [e2]
          first
            | (rw [if_pos (show l.length = 0 from hb.1 rfl)]; exact congrArg (fun x => AV.tup [AV.app _ (.ints .u8 x), _]) e)
            | (rw [if_neg (show ¬ l.length = 0 from fun h => by have := hb.2 h; cases this)]; exact congrArg (fun x => AV.tup [AV.app _ (.ints .u8 x), _]) e)
        · split <;> rfl

end Go.Proofs
