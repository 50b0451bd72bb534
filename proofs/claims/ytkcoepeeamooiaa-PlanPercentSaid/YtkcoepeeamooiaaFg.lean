/- Plans read back: the program's reader. -/
import Derived.Test.YtkcoepeeamooiaaFf
set_option linter.unusedVariables false
set_option linter.unusedSimpArgs false
namespace Go.Proofs
open Go Go.Ab

/-- The three lists, so far. -/
def l3 (b : List Int) : Nat → List AV
  | 0 => [.nils, .nils, .nils]
  | 1 => [.d (.sl (.ints .i64 (rdL b 0).1)), .nils, .nils]
  | 2 => [.d (.sl (.ints .i64 (rdL b 0).1)), .d (.sl (.ints .i64 (rdL b (rdL b 0).2.1).1)), .nils]
  | _ => [.d (.sl (.ints .i64 (rdL b 0).1)), .d (.sl (.ints .i64 (rdL b (rdL b 0).2.1).1)), .d (.sl (.ints .i64 (rdL b (rdL b (rdL b 0).2.1).2.1).1))]
def n3 (b : List Int) : Nat → Int
  | 0 => 0
  | 1 => (rdL b 0).2.1
  | 2 => (rdL b (rdL b 0).2.1).2.1
  | _ => (rdL b (rdL b (rdL b 0).2.1).2.1).2.1
theorem drop8 {l : List Int} (h : l.length = 10) : l.drop 8 = [l.getD 8 0, l.getD 9 0] := by
  match l, h with
  | [_, _, _, _, _, _, _, _, _, _], _ => rfl
def mkGt (l pen chg : List Int) : Pl := ⟨l.getD 0 0, l.getD 1 0, l.getD 2 0, l.getD 3 0, l.getD 4 0, l.getD 5 0, l.getD 6 0, l.getD 7 0, IntKind.u64.wrap (l.getD 8 0), IntKind.u64.wrap (l.getD 9 0), pen, chg⟩
theorem mkGt_eq {l pen chg : List Int} (h1 : ∀ x ∈ l, I64 x) (h8 : 0 ≤ l.getD 8 0) (h9 : 0 ≤ l.getD 9 0) : mkGt l pen chg = mkPl l pen chg := by
  have g8 := getD_range h1 8
  have g9 := getD_range h1 9
  simp only [mkGt, mkPl, wrap_u64 h8 (by omega), wrap_u64 h9 (by omega)]
theorem mkPl_ok {l pen chg : List Int} (h1 : ∀ x ∈ l, I64 x) (h2 : ∀ x ∈ pen, I64 x) (h3 : ∀ x ∈ chg, I64 x) (n2 : pen.length ≤ 64) (n3 : chg.length ≤ 64) (h8 : 0 ≤ l.getD 8 0) (h9 : 0 ≤ l.getD 9 0) : (mkPl l pen chg).ok := by
  have g := getD_range h1
  refine ⟨⟨g 0, g 1, g 2, g 3, g 4, g 5, g 6, g 7⟩, ?_, ?_, h2, h3, ?_, ?_⟩
  · have := g 8; exact ⟨h8, by show l.getD 8 0 < _; omega⟩
  · have := g 9; exact ⟨h9, by show l.getD 9 0 < _; omega⟩
  · simp only [mkPl]; omega
  · simp only [mkPl]; omega
theorem right_facts {l pen chg : List Int} (h : (mkPl l pen chg).right = true) : allIn (-1) 1048576 [l.getD 1 0, l.getD 2 0, l.getD 3 0, l.getD 4 0] = true ∧ l.getD 8 0 ≤ 65535 ∧ l.getD 9 0 ≤ 65535 ∧ allIn 0 1000000 pen = true := by
  simp only [Pl.right, mkPl, Bool.and_eq_true, decide_eq_true_eq] at h
  obtain ⟨⟨⟨⟨⟨⟨⟨⟨⟨⟨q1, q2⟩, q3⟩, q4⟩, q5⟩, q6⟩, q7⟩, q8⟩, q9⟩, q10⟩, q11⟩ := h
  refine ⟨?_, of_decide_eq_true q5, of_decide_eq_true q6, q9⟩
  simp only [allIn, List.all_cons, List.all_nil, Bool.and_eq_true, decide_eq_true_eq, and_true] at *
  omega

set_option maxRecDepth 100000 in
set_option maxHeartbeats 1000000 in
theorem Try.get (b : List Int) (hb : Bytes b) : Fun Try.prog 15 [.d (.sl (.ints .u8 b))] (trP (decP b)) := by
  refine Try.fun (fn := Try.f15) 15000 rfl rfl ?_
  (conv => whnf)
  have r0 := rdL_range hb 0
  have r1 := rdL_range hb (rdL b 0).2.1
  have r2 := rdL_range hb (rdL b (rdL b 0).2.1).2.1
  have hdec : decP b = decP b := rfl
  conv at hdec => rhs; unfold decP
  rw [hdec]
  clear hdec
  refine loop_of (fun (i : Nat) => [.d (.sl (.ints .u8 b)), .top, .ptr 0 0, .d (.int .i64 0), .ptr 1 0, .d (.int .i64 (n3 b i)), .top, .top, .top, .top, .top, .top, .d (.int .i64 i), .top, .top, .top, .top, .top, .top, .top, .top, .top, .top, .top, .top, .top, .top, .top, .top, .top, .top, .top, .top, .top, .top, .top, .top, .top, .top, .top, .top, .top, .top, .top, .top, .top, .top, .top, .top, .top, .top, .top, .top, .top, .top, .top, .top, .top, .top, .top, .top, .top, .top, .top, .top, .top, .top, .top, .top, .top, .top, .top, .top, .top, .top, .top, .top, .top, .top, .top, .top, .top, .top, .top, .top, .top, .top, .top, .top, .top, .top, .top, .top, .top, .top, .top, .top, .top, .top, .top, .top, .top, .top, .top, .top, .top, .top, .top, .top, .top, .top, .top, .top, .top, .top, .top, .top, .top, .top, .top, .top, .top, .top]) (fun i => [some ⟨26, zeroC⟩, some ⟨51, l3 b i⟩]) (fun i => i ≤ 3 ∧ (1 ≤ i → (rdL b 0).2.2 = 0) ∧ (2 ≤ i → (rdL b (rdL b 0).2.1).2.2 = 0) ∧ (3 ≤ i → (rdL b (rdL b (rdL b 0).2.1).2.1).2.2 = 0)) (fun i => 3 - i) 0 (Weak.ofH ⟨rfl, rfl, rfl, rfl, rfl, rfl, trivial⟩ ⟨rfl, ⟨rfl, rfl, rfl, rfl, rfl, rfl, rfl, rfl, rfl, rfl, rfl, rfl, trivial⟩, rfl, ⟨rfl, rfl, rfl, trivial⟩, trivial⟩ rfl rfl) (by simp) fun i ⟨hi, e0, e1, e2⟩ => ?_
  rcases (show i = 0 ∨ i = 1 ∨ i = 2 ∨ i = 3 by omega) with rfl | rfl | rfl | rfl
  · (conv => whnf)
    refine ⟨rfl, ?_⟩
    refine Fun.kd (Try.rdLW b hb 0) rfl rfl ?_
    (conv => whnf)
    refine ⟨⟨by decide, by decide⟩, ?_⟩
    (conv => whnf)
    refine ⟨⟨rfl, ble rfl, rfl⟩, ?_⟩
    (conv => whnf)
    refine bsplit (fun he => ?_) (fun he => ?_) <;> (conv => whnf)
    · refine ⟨⟨rfl, ble rfl, rfl⟩, ?_⟩
      (conv => whnf)
      exact leave_bad (by rw [if_neg (fun hh => by simp [hh.1] at he)])
    · have he : (rdL b 0).2.2 = 0 := by simpa using he
      refine again 1 ?_ ?_ ?_
      · decide
      · exact Weak.ofH ⟨rfl, rfl, rfl, rfl, rfl, congrArg (fun x => AV.d (.int .i64 x)) (wrap_i64 (x := (0 : Int) + 1) (by omega) (by omega)), trivial⟩ ⟨rfl, ⟨rfl, rfl, rfl, rfl, rfl, rfl, rfl, rfl, rfl, rfl, rfl, rfl, trivial⟩, rfl, ⟨rfl, rfl, rfl, trivial⟩, trivial⟩ rfl rfl
      · simp_all
  · (conv => whnf)
    refine ⟨rfl, ?_⟩
    refine Fun.kd (Try.rdLW b hb (rdL b 0).2.1) rfl rfl ?_
    (conv => whnf)
    refine ⟨⟨by decide, by decide⟩, ?_⟩
    (conv => whnf)
    refine ⟨⟨rfl, ble rfl, rfl⟩, ?_⟩
    (conv => whnf)
    refine bsplit (fun he => ?_) (fun he => ?_) <;> (conv => whnf)
    · refine ⟨⟨rfl, ble rfl, rfl⟩, ?_⟩
      (conv => whnf)
      exact leave_bad (by rw [if_neg (fun hh => by simp [hh.2.2.1] at he)])
    · have he : (rdL b (rdL b 0).2.1).2.2 = 0 := by simpa using he
      refine again 2 ?_ ?_ ?_
      · decide
      · exact Weak.ofH ⟨rfl, rfl, rfl, rfl, rfl, congrArg (fun x => AV.d (.int .i64 x)) (wrap_i64 (x := (1 : Int) + 1) (by omega) (by omega)), trivial⟩ ⟨rfl, ⟨rfl, rfl, rfl, rfl, rfl, rfl, rfl, rfl, rfl, rfl, rfl, rfl, trivial⟩, rfl, ⟨rfl, rfl, rfl, trivial⟩, trivial⟩ rfl rfl
      · simp_all
  · (conv => whnf)
    refine ⟨rfl, ?_⟩
    refine Fun.kd (Try.rdLW b hb (rdL b (rdL b 0).2.1).2.1) rfl rfl ?_
    (conv => whnf)
    refine ⟨⟨by decide, by decide⟩, ?_⟩
    (conv => whnf)
    refine ⟨⟨rfl, ble rfl, rfl⟩, ?_⟩
    (conv => whnf)
    refine bsplit (fun he => ?_) (fun he => ?_) <;> (conv => whnf)
    · refine ⟨⟨rfl, ble rfl, rfl⟩, ?_⟩
      (conv => whnf)
      exact leave_bad (by rw [if_neg (fun hh => by simp [hh.2.2.2.1] at he)])
    · have he : (rdL b (rdL b (rdL b 0).2.1).2.1).2.2 = 0 := by simpa using he
      refine again 3 ?_ ?_ ?_
      · decide
      · exact Weak.ofH ⟨rfl, rfl, rfl, rfl, rfl, congrArg (fun x => AV.d (.int .i64 x)) (wrap_i64 (x := (2 : Int) + 1) (by omega) (by omega)), trivial⟩ ⟨rfl, ⟨rfl, rfl, rfl, rfl, rfl, rfl, rfl, rfl, rfl, rfl, rfl, rfl, trivial⟩, rfl, ⟨rfl, rfl, rfl, trivial⟩, trivial⟩ rfl rfl
      · simp_all
  · (conv => whnf)
    have e0 := e0 (by omega)
    have e1 := e1 (by omega)
    have e2 := e2 (by omega)
    refine ⟨⟨by decide, by decide⟩, ?_⟩
    (conv => whnf)
    refine ⟨List.range 38, by kernel_rfl, ?_⟩
    (conv => whnf)
    refine bsplit (fun h1 => ?_) (fun h1 => ?_) <;> (conv => whnf)
    · have h1 : ¬ (rdL b (rdL b (rdL b 0).2.1).2.1).2.1 = b.length := fun e => by
        have h1' : (!decide ((rdL b (rdL b (rdL b 0).2.1).2.1).2.1 = (b.length : Int))) = true := h1
        rw [e] at h1'
        simp at h1'
      refine ⟨⟨rfl, ble rfl, rfl⟩, ?_⟩
      (conv => whnf)
      exact leave_bad (if_neg fun hh => h1 hh.2.2.2.2.1)
    have h1 : (rdL b (rdL b (rdL b 0).2.1).2.1).2.1 = b.length := by
      have h1' : (!decide ((rdL b (rdL b (rdL b 0).2.1).2.1).2.1 = (b.length : Int))) = false := h1
      exact Decidable.of_not_not fun e => by rw [decide_eq_false e] at h1'; cases h1'
    refine bsplit (fun h2 => ?_) (fun h2 => ?_) <;> (conv => whnf)
    · refine ⟨⟨rfl, ble rfl, rfl⟩, ?_⟩
      (conv => whnf)
      exact leave_bad (by rw [if_neg (fun hh => by simp [hh.2.1] at h2)])
    have h2 : (rdL b 0).1.length = 10 := by simp at h2; omega
    generalize hc : (rdL b (rdL b (rdL b 0).2.1).2.1).1 = chg at *
    generalize hp : (rdL b (rdL b 0).2.1).1 = pen at *
    generalize hl : (rdL b 0).1 = l at *
    repeat' first
      | (refine idx_ok rfl (by omega) (by omega) ?_; (conv => whnf))
    refine ⟨⟨ble rfl, by decide⟩, ?_⟩
    (conv => whnf)
    refine And.intro rfl ?_
    (conv => whnf)
    refine Fun.dd (Try.all64 (-1) 1048576 [l.getD 1 0, l.getD 2 0, l.getD 3 0, l.getD 4 0] (ble rfl)) rfl rfl ?_
    (conv => whnf)
    refine bsplit (fun h3 => ?_) (fun h3 => ?_) <;> (conv => whnf)
    · have h3 : allIn (-1) 1048576 [l.getD 1 0, l.getD 2 0, l.getD 3 0, l.getD 4 0] = false := by simpa using h3
      refine ⟨⟨rfl, ble rfl, rfl⟩, ?_⟩
      (conv => whnf)
      exact leave_bad (if_neg fun hh => by rw [(right_facts hh.2.2.2.2.2.2.2).1] at h3; cases h3)
    refine ⟨rfl, ⟨by omega, by omega⟩, ?_⟩
    (conv => whnf)
    refine And.intro rfl ?_
    (conv => whnf)
    refine Fun.dd (Try.all64 0 1048576 (l.drop 8) (by simp; omega)) rfl rfl ?_
    (conv => whnf)
    refine bsplit (fun h4 => ?_) (fun h4 => ?_) <;> (conv => whnf)
    · have h4 : allIn 0 1048576 (l.drop 8) = false := by simpa using h4
      refine ⟨⟨rfl, ble rfl, rfl⟩, ?_⟩
      (conv => whnf)
      exact leave_bad (if_neg fun hh => by
        have := right_facts hh.2.2.2.2.2.2.2
        rw [drop8 h2] at h4
        have g8 := hh.2.2.2.2.2.1
        have g9 := hh.2.2.2.2.2.2.1
        simp only [allIn, List.all_cons, List.all_nil, Bool.and_true, Bool.and_eq_false_iff, decide_eq_false_iff_not] at h4
        omega)
    have h4 : allIn 0 1048576 (l.drop 8) = true := by simpa using h4
    have hge : 0 ≤ l.getD 8 0 ∧ 0 ≤ l.getD 9 0 := by
      rw [drop8 h2] at h4
      simp only [allIn, List.all_cons, List.all_nil, Bool.and_true, Bool.and_eq_true, decide_eq_true_eq] at h4
      omega
    refine ⟨⟨by decide, by decide⟩, ?_⟩
    (conv => whnf)
    refine And.intro rfl ?_
    (conv => whnf)
    refine Fun.dd (Try.all64 0 1000000 pen (by omega)) (by rw [← hp]; rfl) rfl ?_
    (conv => whnf)
    refine bsplit (fun h5 => ?_) (fun h5 => ?_) <;> (conv => whnf)
    · have h5 : allIn 0 1000000 pen = false := by simpa using h5
      refine ⟨⟨rfl, ble rfl, rfl⟩, ?_⟩
      (conv => whnf)
      exact leave_bad (if_neg fun hh => by rw [(right_facts hh.2.2.2.2.2.2.2).2.2.2] at h5; cases h5)
    refine ⟨List.range 37, by kernel_rfl, ?_⟩
    (conv => whnf)
    repeat' first
      | (refine idx_ok rfl (by omega) (by omega) ?_; (conv => whnf))
    refine ⟨⟨by decide, by decide⟩, ?_⟩
    (conv => whnf)
    refine ⟨⟨rfl, ble rfl, rfl⟩, ?_⟩
    (conv => whnf)
    refine ⟨⟨by decide, by decide⟩, ?_⟩
    (conv => whnf)
    refine loop_of (fun (i : Nat) => [.top, .top, .ptr 0 0, .d (.int .i64 0), .ptr 1 0, .top, .top, .top, .top, .ptr 2 0, .top, .top, .top, .top, .top, .top, .top, .top, .top, .top, .top, .top, .top, .top, .top, .top, .top, .top, .top, .top, .top, .top, .top, .top, .top, .top, .top, .top, .top, .top, .top, .top, .top, .top, .top, .top, .top, .top, .top, .top, .top, .top, .top, .top, .top, .top, .top, .top, .top, .top, .top, .top, .top, .top, .top, .top, .top, .top, .top, .top, .top, .top, .top, .top, .top, .top, .top, .top, .top, .top, .top, .top, .top, .top, .top, .top, .top, .top, .top, .top, .top, .top, .top, .top, .top, .top, .top, .top, .top, .top, .top, .top, .top, .top, .top, .d (.sl (.ints .i64 pen)), .d (.int .i64 pen.length), .d (.int .i64 i), .top, .top, .top, .top, .top, .top, .top, .top, .top, .top, .top, .top, .top, .top, .top]) (fun i => [some ⟨26, zeroC⟩, some ⟨51, l3 b 3⟩, some ⟨26, (mkGt l pen chg).cellsP (.app (15000 + 115) (.ints .i64 (pen.take i)))⟩]) (fun i => i ≤ pen.length) (fun i => pen.length - i) 0 (Weak.ofH ⟨rfl, rfl, rfl, rfl, congrArg (fun x => AV.d (.sl (.ints .i64 x))) hp, congrArg (fun (x : List Int) => AV.d (.int .i64 x.length)) hp, rfl, trivial⟩ ⟨rfl, ⟨rfl, rfl, rfl, rfl, rfl, rfl, rfl, rfl, rfl, rfl, rfl, rfl, trivial⟩, rfl, ⟨rfl, rfl, rfl, trivial⟩, rfl, ⟨rfl, rfl, rfl, rfl, rfl, rfl, rfl, rfl, rfl, rfl, rfl, congrArg (fun x => AV.d (.sl (.ints .i64 x))) hc, trivial⟩, trivial⟩ rfl rfl) (by simp) fun i hi => ?_
    (conv => whnf)
    refine bsplit (fun h7 => ?_) (fun h7 => ?_) <;> (conv => whnf)
    · have h7 : (i : Int) < pen.length := of_decide_eq_true h7
      have hx : pen.getD (i : Int).toNat 0 = pen[i] := by simp [List.getD_eq_getElem?_getD, List.getElem?_eq_getElem (show i < pen.length by omega)]
      refine idx_ok rfl (by omega) (by omega) ?_
      (conv => whnf)
      refine ⟨⟨ble rfl, by decide⟩, ?_⟩
      (conv => whnf)
      refine ⟨⟨by simp [L.len]; omega, by decide⟩, ?_⟩
      (conv => whnf)
      refine ⟨⟨rfl, ble rfl, rfl⟩, ?_⟩
      (conv => whnf)
      refine again (i + 1) ?_ ?_ ?_
      · omega
      · refine Weak.ofH ⟨rfl, rfl, rfl, rfl, rfl, rfl, congrArg (fun x => AV.d (.int .i64 x)) (wrap_i64 (x := (i : Int) + 1) (by omega) (by omega)), trivial⟩ ⟨rfl, ⟨rfl, rfl, rfl, rfl, rfl, rfl, rfl, rfl, rfl, rfl, rfl, rfl, trivial⟩, rfl, ⟨rfl, rfl, rfl, trivial⟩, rfl, ⟨rfl, rfl, rfl, rfl, rfl, rfl, rfl, rfl, rfl, rfl, congrArg (fun x => AV.app _ (.ints .i64 x)) ?_, rfl, trivial⟩, trivial⟩ rfl rfl
        rw [hx, List.take_succ_eq_append_getElem (by omega)]
      · omega
    · have h7 : ¬ (i : Int) < pen.length := of_decide_eq_false h7
      have htake : pen.take i = pen := List.take_of_length_le (by omega)
      rw [htake]
      have e := mkGt_eq (pen := pen) (chg := chg) r0.1 hge.1 hge.2
      rw [e]
      refine ⟨ble rfl, ?_⟩
      (conv => whnf)
      refine ⟨rfl, ?_⟩
      refine Fun.kd (Try.right (mkPl l pen chg) (mkPl_ok r0.1 r1.1 r2.1 r1.2 r2.2 hge.1 hge.2)) rfl rfl ?_
      (conv => whnf)
      refine bsplit (fun h8 => ?_) (fun h8 => ?_) <;> (conv => whnf)
      · have h8 : (mkPl l pen chg).right = false := by simpa using h8
        refine ⟨⟨rfl, ble rfl, rfl⟩, ?_⟩
        (conv => whnf)
        exact leave_bad (if_neg fun hh => by rw [hh.2.2.2.2.2.2.2] at h8; cases h8)
      · have h8 : (mkPl l pen chg).right = true := by simpa using h8
        refine ⟨ble rfl, ?_⟩
        (conv => whnf)
        refine ⟨⟨rfl, ble rfl, rfl⟩, ?_⟩
        (conv => whnf)
        rw [if_pos ⟨e0, h2, e1, e2, h1, hge.1, hge.2, h8⟩]
        exact leave_fun (LE.tup2 (LE.toD _ rfl) (.refl _)) rfl

end Go.Proofs
