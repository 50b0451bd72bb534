/- Lists of numbers read back from bytes. -/
import Derived.Test.YtkcoepeeamooiaaFd
set_option linter.unusedVariables false
set_option linter.unusedSimpArgs false
namespace Go.Proofs
open Go Go.Ab

/-- So many numbers, read one behind the other. -/
def rdN (b : List Int) : Nat → Int → List Int × Int × Int
  | 0, p => ([], p, 0)
  | k + 1, p => if (rdI b p).2.2 = 0 then (if (rdN b k (rdI b p).2.1).2.2 = 0 then ((rdI b p).1 :: (rdN b k (rdI b p).2.1).1, (rdN b k (rdI b p).2.1).2.1, 0) else ([], 0, (rdN b k (rdI b p).2.1).2.2)) else ([], 0, (rdI b p).2.2)
/-- A list, read. -/
def rdL (b : List Int) (p : Int) : List Int × Int × Int :=
  if (rdI b p).2.2 = 0 then (if (rdI b p).1 < 0 ∨ 64 < (rdI b p).1 then ([], 0, 2) else rdN b (rdI b p).1.toNat (rdI b p).2.1) else ([], 0, (rdI b p).2.2)
def trL (r : List Int × Int × Int) : AV := .tup [.d (.sl (.ints .i64 r.1)), .d (.int .i64 r.2.1), .d (.int .i64 r.2.2)]
theorem LE.tup3 {a a' b b' c c' : AV} (h1 : LE a a') (h2 : LE b b') (h3 : LE c c') : LE (.tup [a, b, c]) (.tup [a', b', c']) :=
  .tup _ _ rfl (LEs.cons h1 (LEs.cons h2 (LEs.cons h3 LEs.nil))).2
/-- A list that is read, told weaker. -/
theorem leave_trL {r : List Int × Int × Int} {x : AV} {p e : Int} {H : Hp} (hx : LE x (.d (.sl (.ints .i64 r.1)))) (hp : p = r.2.1) (he : e = r.2.2) : leave 0 (fun q H => H = [] ∧ q = trL r) (.tup [x, .d (.int .i64 p), .d (.int .i64 e)]) H := by
  subst hp; subst he
  exact leave_fun (LE.tup3 hx (.refl _) (.refl _)) rfl
theorem leave_nil {r : List Int × Int × Int} {e : Int} {H : Hp} (h : r = ([], 0, e)) : leave 0 (fun q H => H = [] ∧ q = trL r) (.tup [.nils, .d (.int .i64 0), .d (.int .i64 e)]) H := by
  subst h; exact leave_trL (.nil_d _ rfl) rfl rfl
/-- What is still to be read, behind what has been. -/
def rdMore (b : List Int) (o : List Int) (k : Nat) (p : Int) : List Int × Int × Int := if (rdN b k p).2.2 = 0 then (o ++ (rdN b k p).1, (rdN b k p).2.1, 0) else ([], 0, (rdN b k p).2.2)
theorem rdMore_nil (b : List Int) : ∀ (k : Nat) (p : Int), rdMore b [] k p = rdN b k p
  | 0, p => by simp [rdMore, rdN]
  | k + 1, p => by
    unfold rdMore rdN
    by_cases h1 : (rdI b p).2.2 = 0
    · by_cases h2 : (rdN b k (rdI b p).2.1).2.2 = 0
      · simp [h1, h2]
      · simp [h1, h2]
    · simp [h1]
theorem rdMore_ok {b o : List Int} {k : Nat} {p : Int} (h1 : (rdI b p).2.2 = 0) : rdMore b o (k + 1) p = rdMore b (o ++ [(rdI b p).1]) k (rdI b p).2.1 := by
  simp only [rdMore, rdN, h1, if_true]
  by_cases h2 : (rdN b k (rdI b p).2.1).2.2 = 0
  · simp [h2]
  · simp [h2]
theorem rdMore_bad {b o : List Int} {k : Nat} {p : Int} (h1 : ¬ (rdI b p).2.2 = 0) : rdMore b o (k + 1) p = ([], 0, (rdI b p).2.2) := by
  simp [rdMore, rdN, h1]
theorem rdMore_end {b o : List Int} {p : Int} : rdMore b o 0 p = (o, p, 0) := by simp [rdMore, rdN]

set_option maxRecDepth 100000 in
set_option maxHeartbeats 1000000 in
theorem Try.rdL01 (b : List Int) (hb : Bytes b) (p : Int) : Fun Try.prog 29 [.d (.sl (.ints .u8 b)), .d (.int .i64 p)] (trL (rdL b p)) := by
  refine Try.fun (fn := Try.f29) 29000 rfl rfl ?_
  (conv => whnf)
  refine ⟨rfl, ?_⟩
  refine Fun.kd (Try.rd01 b hb p) rfl rfl ?_
  (conv => whnf)
  refine bsplit (fun h => ?_) (fun h => ?_) <;> (conv => whnf)
  · have h : ¬ (rdI b p).2.2 = 0 := by simpa using h
    exact leave_nil (by unfold rdL; rw [if_neg h])
  have h : (rdI b p).2.2 = 0 := by simpa using h
  refine bsplit (fun h1 => ?_) (fun h1 => ?_) <;> (conv => whnf)
  · have h1 : (rdI b p).1 < 0 := of_decide_eq_true h1
    exact leave_nil (by unfold rdL; rw [if_pos h, if_pos (.inl h1)])
  have h1 : ¬ (rdI b p).1 < 0 := of_decide_eq_false h1
  refine bsplit (fun h2 => ?_) (fun h2 => ?_) <;> (conv => whnf)
  · have h2 : 64 < (rdI b p).1 := of_decide_eq_true h2
    exact leave_nil (by unfold rdL; rw [if_pos h, if_pos (.inr h2)])
  have h2 : ¬ 64 < (rdI b p).1 := of_decide_eq_false h2
  have hr : rdL b p = rdN b (rdI b p).1.toNat (rdI b p).2.1 := by unfold rdL; rw [if_pos h, if_neg (by omega)]
  rw [hr, ← rdMore_nil]
  generalize (rdI b p).1 = n at *
  generalize (rdI b p).2.1 = p0 at *
  refine loop_of (fun (s : Nat × Int × List Int) => [.d (.sl (.ints .u8 b)), .top, .top, .top, .top, .top, .top, .d (.int .i64 n), .d (.int .i64 s.2.1), .top, .app (29000 + 49) (.ints .i64 s.2.2), .d (.int .i64 s.1), .top, .top, .top, .top, .top, .top, .top, .top, .top, .top, .top, .top, .top, .top, .top, .top, .top, .top, .top, .top, .top, .top, .top, .top, .top, .top, .top, .top, .top, .top, .top, .top, .top, .top, .top, .top, .top, .top, .top, .top, .top]) (fun _ => []) (fun s => s.1 ≤ n.toNat ∧ s.2.2.length = s.1 ∧ rdMore b s.2.2 (n.toNat - s.1) s.2.1 = rdMore b [] n.toNat p0) (fun s => n.toNat - s.1) (0, p0, []) (Weak.of ⟨rfl, rfl, rfl, rfl, rfl, trivial⟩) (by simp) fun ⟨i, q, o⟩ ⟨hi, ho, hm⟩ => ?_
  simp only at hi ho hm
  rw [← hm]
  (conv => whnf)
  refine bsplit (fun h3 => ?_) (fun h3 => ?_) <;> (conv => whnf)
  · have h3 : (i : Int) < n := of_decide_eq_true h3
    have ek : n.toNat - i = (n.toNat - (i + 1)) + 1 := by omega
    refine ⟨rfl, ?_⟩
    refine Fun.kd (Try.rd01 b hb q) rfl rfl ?_
    (conv => whnf)
    refine bsplit (fun h4 => ?_) (fun h4 => ?_) <;> (conv => whnf)
    · have h4 : ¬ (rdI b q).2.2 = 0 := by simpa using h4
      exact leave_nil (by rw [ek, rdMore_bad h4])
    · have h4 : (rdI b q).2.2 = 0 := by simpa using h4
      refine ⟨⟨ble rfl, by decide⟩, ?_⟩
      (conv => whnf)
      refine ⟨⟨by simp [L.len]; omega, by decide⟩, ?_⟩
      (conv => whnf)
      refine again (i + 1, (rdI b q).2.1, o ++ [(rdI b q).1]) ?_ ?_ ?_
      · simp only; omega
      · exact Weak.of ⟨rfl, rfl, rfl, rfl, congrArg (fun x => AV.d (.int .i64 x)) (wrap_i64 (x := (i : Int) + 1) (by omega) (by omega)), trivial⟩
      · refine ⟨by simp only; omega, by simp [ho], ?_⟩
        simp only
        rw [ek, rdMore_ok h4]
  · have h3 : ¬ (i : Int) < n := of_decide_eq_false h3
    have ek : n.toNat - i = 0 := by omega
    rw [ek, rdMore_end]
    exact leave_trL (.app_d _ _) rfl rfl

/-- A number of at most so many, read. -/
def sizedI (b : List Int) (p m : Int) : Int × Int × Int :=
  if (rdI b p).2.2 = 0 then (if (rdI b p).1 < 0 ∨ m < (rdI b p).1 then (0, 0, 2) else ((rdI b p).1, (rdI b p).2.1, 0)) else (0, 0, (rdI b p).2.2)
set_option maxRecDepth 100000 in
set_option maxHeartbeats 1000000 in
theorem Try.sized (b : List Int) (hb : Bytes b) (p m : Int) : Fun Try.prog 42 [.d (.sl (.ints .u8 b)), .d (.int .i64 p), .d (.int .i64 m)] (trI (sizedI b p m)) := by
  refine Try.fun (fn := Try.f42) 0 rfl rfl ?_
  (conv => whnf)
  refine ⟨rfl, ?_⟩
  refine Fun.kd (Try.rdW b hb p) rfl rfl ?_
  (conv => whnf)
  refine bsplit (fun h => ?_) (fun h => ?_) <;> (conv => whnf)
  · have h : ¬ (rdI b p).2.2 = 0 := by simpa using h
    exact leave_eq (by unfold sizedI; rw [if_neg h]; rfl) rfl
  have h : (rdI b p).2.2 = 0 := by simpa using h
  refine bsplit (fun h1 => ?_) (fun h1 => ?_) <;> (conv => whnf)
  · have h1 : (rdI b p).1 < 0 := of_decide_eq_true h1
    refine bsplit (fun h2 => ?_) (fun h2 => absurd h1 (of_decide_eq_false h2)) <;> (conv => whnf)
    exact leave_eq (by unfold sizedI; rw [if_pos h, if_pos (.inl h1)]; rfl) rfl
  have h1 : ¬ (rdI b p).1 < 0 := of_decide_eq_false h1
  refine bsplit (fun h2 => ?_) (fun h2 => ?_) <;> (conv => whnf)
  · have h2 : m < (rdI b p).1 := of_decide_eq_true h2
    exact leave_eq (by unfold sizedI; rw [if_pos h, if_pos (.inr h2)]; rfl) rfl
  · have h2 : ¬ m < (rdI b p).1 := of_decide_eq_false h2
    exact leave_eq (by unfold sizedI; rw [if_pos h, if_neg (by omega)]; exact tup3 rfl rfl rfl) rfl

set_option maxRecDepth 100000 in
set_option maxHeartbeats 1000000 in
theorem Try.rdLW (b : List Int) (hb : Bytes b) (p : Int) : Fun Try.prog 28 [.d (.sl (.ints .u8 b)), .d (.int .i64 p)] (trL (rdL b p)) := by
  refine Try.fun (fn := Try.f28) 28000 rfl rfl ?_
  (conv => whnf)
  refine ⟨rfl, ?_⟩
  refine Fun.kd (Try.sized b hb p 64) rfl rfl ?_
  (conv => whnf)
  refine loop_of (fun (s : Nat × Int × Int × List Int) => [.d (.sl (.ints .u8 b)), .top, .top, .top, .top, .top, .top, .d (.int .i64 (sizedI b p 64).1), .d (.int .i64 s.2.1), .d (.int .i64 s.2.2.1), .app (28000 + 34) (.ints .i64 s.2.2.2), .top, .top, .top, .top, .top, .top, .top, .top, .d (.int .i64 (sizedI b p 64).1), .d (.int .i64 s.1), .top, .top, .top, .top, .top, .top, .top, .top, .top, .top, .top, .top, .top, .top, .top, .top, .top, .top, .top, .top]) (fun _ => []) (fun s => (sizedI b p 64).2.2 = 0 ∧ s.1 ≤ (sizedI b p 64).1.toNat ∧ s.2.2.1 = 0 ∧ s.2.2.2.length = s.1 ∧ rdMore b s.2.2.2 ((sizedI b p 64).1.toNat - s.1) s.2.1 = rdL b p ∨ (sizedI b p 64).1 = 0 ∧ s.1 = 0 ∧ ¬ s.2.2.1 = 0 ∧ rdL b p = ([], 0, s.2.2.1)) (fun s => (sizedI b p 64).1.toNat - s.1) (0, (sizedI b p 64).2.1, (sizedI b p 64).2.2, []) (Weak.of ⟨rfl, rfl, rfl, rfl, rfl, rfl, rfl, trivial⟩) ?_ ?_
  · by_cases h : (rdI b p).2.2 = 0
    · by_cases h2 : (rdI b p).1 < 0 ∨ 64 < (rdI b p).1
      · right
        simp only [sizedI, if_pos h, if_pos h2, rdL]
        simp
      · left
        have e : sizedI b p 64 = ((rdI b p).1, (rdI b p).2.1, 0) := by simp only [sizedI, if_pos h, if_neg h2]
        simp only [e]
        refine ⟨trivial, by omega, trivial, rfl, ?_⟩
        rw [Nat.sub_zero, rdMore_nil, rdL, if_pos h, if_neg h2]
    · right
      simp only [sizedI, if_neg h, rdL]
      simp [h]
  · have hn : (sizedI b p 64).1 ≤ 64 := by
      unfold sizedI
      split
      · split
        · simp
        · simp only; omega
      · simp
    generalize (sizedI b p 64).1 = n at *
    rintro ⟨i, q, e, o⟩ hp
    simp only at hp
    (conv => whnf)
    refine bsplit (fun h3 => ?_) (fun h3 => ?_) <;> (conv => whnf)
    · have h3 : (i : Int) < n := of_decide_eq_true h3
      obtain ⟨hs, hi, he, ho, hm⟩ : (sizedI b p 64).2.2 = 0 ∧ i ≤ n.toNat ∧ e = 0 ∧ o.length = i ∧ rdMore b o (n.toNat - i) q = rdL b p := by
        rcases hp with hp | hp
        · exact hp
        · omega
      have ek : n.toNat - i = (n.toNat - (i + 1)) + 1 := by omega
      refine ⟨rfl, ?_⟩
      refine Fun.kd (Try.rdW b hb q) rfl rfl ?_
      (conv => whnf)
      refine bsplit (fun h4 => ?_) (fun h4 => ?_) <;> (conv => whnf)
      · refine bsplit (fun h5 => ?_) (fun h5 => ?_) <;> (conv => whnf)
        · have h4 : ¬ (rdI b q).2.2 = 0 := by simpa using h4
          exact leave_nil (by rw [← hm, ek, rdMore_bad h4])
        · simp at h4 h5
          exact absurd h5 h4
      · have h4 : (rdI b q).2.2 = 0 := by simpa using h4
        refine ⟨⟨ble rfl, by decide⟩, ?_⟩
        (conv => whnf)
        refine ⟨⟨by simp [L.len]; omega, by decide⟩, ?_⟩
        (conv => whnf)
        refine again (i + 1, (rdI b q).2.1, (rdI b q).2.2, o ++ [(rdI b q).1]) ?_ ?_ ?_
        · simp only; omega
        · exact Weak.of ⟨rfl, rfl, rfl, rfl, rfl, rfl, congrArg (fun x => AV.d (.int .i64 x)) (wrap_i64 (x := (i : Int) + 1) (by omega) (by omega)), trivial⟩
        · refine .inl ⟨hs, by simp only; omega, h4, by simp [ho], ?_⟩
          simp only
          rw [← hm, ek, rdMore_ok h4]
    · have h3 : ¬ (i : Int) < n := of_decide_eq_false h3
      refine bsplit (fun h5 => ?_) (fun h5 => ?_) <;> (conv => whnf)
      · have h5 : ¬ e = 0 := by simpa using h5
        rcases hp with hp | hp
        · exact absurd hp.2.2.1 h5
        · exact leave_nil hp.2.2.2
      · have h5 : e = 0 := by simpa using h5
        rcases hp with hp | hp
        · obtain ⟨hs, hi, he, ho, hm⟩ := hp
          have ek : n.toNat - i = 0 := by omega
          rw [← hm, ek, rdMore_end]
          exact leave_trL (.app_d _ _) rfl rfl
        · exact absurd h5 hp.2.2.1

end Go.Proofs
