/- Numbers read back from bytes: what the readers of one number yield. -/
import Derived.Test.YtkcoepeeamooiaaFc
set_option linter.unusedVariables false
set_option linter.unusedSimpArgs false
namespace Go.Proofs
open Go Go.Ab

def unzig (u : Int) : Int := if u % 2 = 0 then u / 2 else -1 - u / 2
/-- A number's digits, read: the number, how many bytes, an error. -/
def rdGo (i : Nat) (u : Int) : List Int → Int × Int × Int
  | [] => (0, 0, 11)
  | c :: l => if i = 9 ∧ 1 < c then (0, 0, 12) else if 128 ≤ c then rdGo (i + 1) (u + (c % 128) * 2 ^ (7 * i)) l else if c = 0 ∧ 0 < i then (0, 0, 12) else (unzig (u + (c % 128) * 2 ^ (7 * i)), i + 1, 0)
/-- A number, read at a place: the number, the place behind it, an error. -/
def rdI (b : List Int) (i : Int) : Int × Int × Int :=
  if i < 0 ∨ b.length < i then (0, 0, 1) else if (rdGo 0 0 (b.drop i.toNat)).2.2 = 0 then ((rdGo 0 0 (b.drop i.toNat)).1, i + (rdGo 0 0 (b.drop i.toNat)).2.1, 0) else (0, 0, (rdGo 0 0 (b.drop i.toNat)).2.2)
theorem tup3 {a a' b b' c c' : Int} (h1 : a = a') (h2 : b = b') (h3 : c = c') : AV.tup [.d (.int .i64 a), .d (.int .i64 b), .d (.int .i64 c)] = .tup [.d (.int .i64 a'), .d (.int .i64 b'), .d (.int .i64 c')] := by rw [h1, h2, h3]
def trI (r : Int × Int × Int) : AV := .tup [.d (.int .i64 r.1), .d (.int .i64 r.2.1), .d (.int .i64 r.2.2)]
def Bytes (b : List Int) : Prop := (∀ c ∈ b, 0 ≤ c ∧ c < 256) ∧ b.length ≤ 140737488355328

theorem pow7 {i : Nat} (h : i ≤ 9) : (2 : Int) ^ (min ((7 * i : Nat) : Int).toNat (IntKind.bits .u64)) = 2 ^ (7 * i) := by
  simp only [Int.toNat_natCast, IntKind.bits]
  rw [Nat.min_eq_left (by omega)]
theorem pow7_cases {i : Nat} (h : i ≤ 9) : 1 ≤ (2 : Int) ^ (7 * i) ∧ (i ≤ 8 → 256 * (2 : Int) ^ (7 * i) ≤ 18446744073709551616) ∧ (2 : Int) ^ (7 * i) ≤ 9223372036854775808 ∧ (2 : Int) ^ (7 * (i + 1)) = 128 * 2 ^ (7 * i) := by
  match i, h with
  | 0, _ => decide
  | 1, _ => decide
  | 2, _ => decide
  | 3, _ => decide
  | 4, _ => decide
  | 5, _ => decide
  | 6, _ => decide
  | 7, _ => decide
  | 8, _ => decide
  | 9, _ => decide
theorem rd_or {u c p : Int} {i : Nat} (hi : i ≤ 9) (hc : 0 ≤ c ∧ c < 256) (h1 : i ≤ 8 ∨ c ≤ 1) (h0 : 0 ≤ u ∧ u < 2 ^ (7 * i)) (hp : p = 2 ^ (7 * i)) : ibits .or .u64 u (IntKind.wrap .u64 (IntKind.wrap .u64 (ibits .and .u8 c 127) * p)) = u + (c % 128) * 2 ^ (7 * i) ∧ 0 ≤ u + (c % 128) * 2 ^ (7 * i) ∧ u + (c % 128) * 2 ^ (7 * i) < 18446744073709551616 ∧ (i ≤ 8 → u + (c % 128) * 2 ^ (7 * i) < 2 ^ (7 * (i + 1))) := by
  obtain ⟨p1, p2, p3, p4⟩ := pow7_cases hi
  have hlt : (c % 128) * 2 ^ (7 * i) < 18446744073709551616 := by
    rcases h1 with h | h
    · have := p2 h
      have hc' : c % 128 ≤ 127 := by omega
      have := Int.mul_le_mul_of_nonneg_right hc' (show 0 ≤ (2 : Int) ^ (7 * i) by omega)
      omega
    · have hc' : c % 128 ≤ 1 := by omega
      have := Int.mul_le_mul_of_nonneg_right hc' (show 0 ≤ (2 : Int) ^ (7 * i) by omega)
      omega
  have hge : 0 ≤ (c % 128) * 2 ^ (7 * i) := Int.mul_nonneg (by omega) (by omega)
  have h127 : (c % 128) * 2 ^ (7 * i) ≤ 127 * 2 ^ (7 * i) := Int.mul_le_mul_of_nonneg_right (by omega) (by omega)
  have hsum : u + (c % 128) * 2 ^ (7 * i) < 18446744073709551616 := by
    rcases h1 with h | h
    · have := p2 h; omega
    · have hc' : c % 128 ≤ 1 := by omega
      have := Int.mul_le_mul_of_nonneg_right hc' (show 0 ≤ (2 : Int) ^ (7 * i) by omega)
      omega
  refine ⟨?_, by omega, hsum, fun h => by omega⟩
  rw [and127 c hc, wrap_u64 (x := c % 128) (by omega) (by omega), hp, wrap_u64 hge hlt, ibits_or rfl (by simp [IntKind.bits]; omega) (by simp [IntKind.bits]; omega)]
  have e1 : ((c % 128) * 2 ^ (7 * i)).toNat = (c % 128).toNat * 2 ^ (7 * i) := by
    obtain ⟨k, hk⟩ : ∃ k : Nat, c % 128 = k := ⟨(c % 128).toNat, by omega⟩
    rw [hk]
    rw [show ((k : Int) * 2 ^ (7 * i)) = ((k * 2 ^ (7 * i) : Nat) : Int) by push_cast; rfl]
    simp only [Int.toNat_natCast]
  rw [e1, or_add (toNat_lt h0.1 h0.2)]
  push_cast
  rw [Int.toNat_of_nonneg h0.1, Int.toNat_of_nonneg (by omega : 0 ≤ c % 128)]
theorem half {u : Int} (h : 0 ≤ u ∧ u < 18446744073709551616) : IntKind.wrap .i64 (u.fdiv (2 ^ (min (1 : Int).toNat (IntKind.bits .u64)))) = u / 2 := by
  have e : (2 : Int) ^ (min (1 : Int).toNat (IntKind.bits .u64)) = 2 := by decide
  rw [e, Int.fdiv_eq_ediv_of_nonneg _ (by omega), wrap_i64 (by omega) (by omega)]
theorem unzig_wire {u : Int} (h : 0 ≤ u ∧ u < 18446744073709551616) : ibits .xor .i64 (IntKind.wrap .i64 (u.fdiv (2 ^ (min (1 : Int).toNat (IntKind.bits .u64))))) (IntKind.wrap .i64 (0 - IntKind.wrap .i64 (ibits .and .u64 u 1))) = unzig u := by
  rw [half h, and1 u h, wrap_i64 (x := u % 2) (by omega) (by omega), wrap_i64 (x := 0 - u % 2) (by omega) (by omega)]
  unfold unzig
  rcases (show u % 2 = 0 ∨ u % 2 = 1 by omega) with h1 | h1
  · rw [h1, if_pos rfl]; exact xor_i64_zero _ (by omega)
  · rw [h1, if_neg (by omega)]; exact xor_i64' _ (by omega)
theorem unzig_ref {u : Int} (h : 0 ≤ u ∧ u < 18446744073709551616) (h1 : decide (ibits .and .u64 u 1 = 1) = true) : ibits .xor .i64 (if IntKind.signed .i64 then -1 else IntKind.max .i64) (IntKind.wrap .i64 (u.fdiv (2 ^ (min (1 : Int).toNat (IntKind.bits .u64))))) = unzig u := by
  have h1 := of_decide_eq_true h1
  rw [and1 u h] at h1
  rw [half h]
  have e : (if IntKind.signed .i64 = true then (-1 : Int) else IntKind.max .i64) = -1 := by decide
  rw [e]
  unfold unzig; rw [if_neg (by omega)]; exact xor_i64 _ (by omega)
theorem unzig_ref' {u : Int} (h : 0 ≤ u ∧ u < 18446744073709551616) (h1 : decide (ibits .and .u64 u 1 = 1) = false) : IntKind.wrap .i64 (u.fdiv (2 ^ (min (1 : Int).toNat (IntKind.bits .u64)))) = unzig u := by
  have h1 := of_decide_eq_false h1
  rw [and1 u h] at h1
  rw [half h]
  unfold unzig; rw [if_pos (by omega)]

set_option maxRecDepth 100000 in
set_option maxHeartbeats 1000000 in
theorem Try.rdW (b : List Int) (hb : Bytes b) (p : Int) : Fun Try.prog 43 [.d (.sl (.ints .u8 b)), .d (.int .i64 p)] (trI (rdI b p)) := by
  refine Try.fun (fn := Try.f43) 0 rfl rfl ?_
  (conv => whnf)
  refine bsplit (fun h => ?_) (fun h => ?_) <;> (conv => whnf)
  · exact leave_eq (by have h := of_decide_eq_true h; unfold rdI; rw [if_pos (.inl h)]; rfl) rfl
  refine bsplit (fun h' => ?_) (fun h' => ?_) <;> (conv => whnf)
  · exact leave_eq (by have h := of_decide_eq_true h'; unfold rdI; rw [if_pos (.inr h)]; rfl) rfl
  have h := of_decide_eq_false h
  have h' := of_decide_eq_false h'
  have hb2 := hb.2
  refine ⟨rfl, ⟨by omega, by omega⟩, ?_⟩
  (conv => whnf)
  have hbl : ∀ c ∈ b.drop p.toNat, 0 ≤ c ∧ c < 256 := fun c hc => hb.1 c (List.mem_of_mem_drop hc)
  have hll : (b.drop p.toNat).length ≤ 140737488355328 ∧ p + (b.drop p.toNat).length ≤ 140737488355328 := by simp; omega
  have hrd : rdI b p = if (rdGo 0 0 (b.drop p.toNat)).2.2 = 0 then ((rdGo 0 0 (b.drop p.toNat)).1, p + (rdGo 0 0 (b.drop p.toNat)).2.1, 0) else (0, 0, (rdGo 0 0 (b.drop p.toNat)).2.2) := by
    unfold rdI; rw [if_neg (by omega)]
  rw [hrd]
  generalize b.drop p.toNat = l at *
  refine loop_of (fun (s : Nat × Int) => [.d (.sl (.ints .u8 b)), .d (.int .i64 p), .top, .top, .top, .top, .top, .d (.int .i64 11), .d (.int .u64 s.2), .d (.int .i64 ((7 * s.1 : Nat) : Int)), .top, .top, .top, .top, .top, .top, .top, .top, .top, .top, .top, .top, .d (.sl (.ints .u8 l)), .d (.int .i64 l.length), .d (.int .i64 s.1), .top, .top, .top, .top, .top, .top, .top, .top, .top, .top, .top, .top, .top, .top, .top, .top, .top, .top, .top, .top, .top, .top, .top, .top, .top, .top, .top, .top, .top, .top, .top, .top, .top, .top, .top, .top, .top, .top, .top, .top, .top, .top, .top]) (fun _ => []) (fun s => s.1 ≤ l.length ∧ s.1 ≤ 9 ∧ 0 ≤ s.2 ∧ s.2 < 2 ^ (7 * s.1) ∧ rdGo s.1 s.2 (l.drop s.1) = rdGo 0 0 l) (fun s => l.length - s.1) (0, 0) (Weak.of ⟨rfl, rfl, rfl, rfl, rfl, rfl, rfl, rfl, trivial⟩) (by simp) fun ⟨i, u⟩ ⟨hi, h9, h0, h1, h2⟩ => ?_
  simp only at hi h9 h0 h1 h2
  obtain ⟨p1, p2, p3, p4⟩ := pow7_cases h9
  (conv => whnf)
  refine bsplit (fun h3 => ?_) (fun h3 => ?_) <;> (conv => whnf)
  · have h3 : (i : Int) < l.length := of_decide_eq_true h3
    refine idx_ok rfl (by omega) (by omega) ?_
    (conv => whnf)
    have hil : i < l.length := by omega
    have hx : l.getD (i : Int).toNat 0 = l[i] := by simp [List.getD_eq_getElem?_getD, List.getElem?_eq_getElem hil]
    have hd : l.drop i = l.getD (i : Int).toNat 0 :: l.drop (i + 1) := by rw [hx]; exact List.drop_eq_getElem_cons hil
    have hc := hbl _ (List.getElem_mem hil)
    rw [← hx] at hc
    rw [hd] at h2
    generalize l.getD (i : Int).toNat 0 = c at *
    refine ⟨by omega, ?_⟩
    (conv => whnf)
    have hor := fun hh => rd_or (u := u) (c := c) h9 hc hh ⟨h0, h1⟩ (pow7 h9)
    refine bsplit (fun h4 => ?_) (fun h4 => ?_) <;> (conv => whnf)
    · have h4 : ((7 * i : Nat) : Int) = 63 := of_decide_eq_true h4
      have i9 : i = 9 := by omega
      refine bsplit (fun h5 => ?_) (fun h5 => ?_) <;> (conv => whnf)
      · have h5 : 1 < c := of_decide_eq_true h5
        refine bsplit (fun h6 => ?_) (fun h6 => absurd h5 (of_decide_eq_false h6)) <;> (conv => whnf)
        refine leave_eq ?_ rfl
        rw [rdGo, if_pos ⟨i9, h5⟩] at h2
        rw [← h2]; rfl
      · have h5 : ¬ 1 < c := of_decide_eq_false h5
        have e := hor (.inr (by omega))
        refine bsplit (fun h6 => ?_) (fun h6 => ?_) <;> (conv => whnf)
        · have h6 : c = 0 := of_decide_eq_true h6
          refine bsplit (fun h8 => ?_) (fun h8 => absurd (show (0 : Int) < i by omega) (of_decide_eq_false h8)) <;> (conv => whnf)
          refine leave_eq ?_ rfl
          rw [rdGo, if_neg (by omega), if_neg (by omega), if_pos ⟨h6, by omega⟩] at h2
          rw [← h2]; rfl
        · have h6 : ¬ c = 0 := of_decide_eq_false h6
          refine bsplit (fun h7 => ?_) (fun h7 => ?_) <;> (conv => whnf)
          · have h7 : c < 128 := of_decide_eq_true h7
            refine ⟨by omega, ?_⟩
            (conv => whnf)
            refine leave_eq ?_ rfl
            rw [rdGo, if_neg (by omega), if_neg (by omega), if_neg (by omega)] at h2
            rw [← h2, if_pos rfl]
            exact tup3 ((unzig_wire (by rw [e.1]; exact ⟨e.2.1, e.2.2.1⟩)).trans (congrArg unzig e.1)) (by rw [wrap_i64 (x := p + (i : Int)) (by omega) (by omega), wrap_i64 (x := p + (i : Int) + 1) (by omega) (by omega)]; exact Int.add_assoc _ _ _) rfl
          · have h7 : ¬ c < 128 := of_decide_eq_false h7
            omega
    · have h4 : ¬ ((7 * i : Nat) : Int) = 63 := of_decide_eq_false h4
      have e := hor (.inl (by omega))
      have hc1 : 0 ≤ (c % 128) * 2 ^ (7 * i) := Int.mul_nonneg (by omega) (by omega)
      refine bsplit (fun h6 => ?_) (fun h6 => ?_) <;> (conv => whnf)
      · have h6 : c = 0 := of_decide_eq_true h6
        refine bsplit (fun h5 => ?_) (fun h5 => ?_) <;> (conv => whnf)
        · have h5 : (0 : Int) < i := of_decide_eq_true h5
          refine leave_eq ?_ rfl
          rw [rdGo, if_neg (by omega), if_neg (by omega), if_pos ⟨h6, by omega⟩] at h2
          rw [← h2]; rfl
        · have h5 : ¬ (0 : Int) < i := of_decide_eq_false h5
          refine bsplit (fun h7 => ?_) (fun h7 => ?_) <;> (conv => whnf)
          · have h7 : c < 128 := of_decide_eq_true h7
            refine ⟨by omega, ?_⟩
            (conv => whnf)
            refine leave_eq ?_ rfl
            rw [rdGo, if_neg (by omega), if_neg (by omega), if_neg (by omega)] at h2
            rw [← h2, if_pos rfl]
            exact tup3 ((unzig_wire (by rw [e.1]; exact ⟨e.2.1, e.2.2.1⟩)).trans (congrArg unzig e.1)) (by rw [wrap_i64 (x := p + (i : Int)) (by omega) (by omega), wrap_i64 (x := p + (i : Int) + 1) (by omega) (by omega)]; exact Int.add_assoc _ _ _) rfl
          · have h7 : ¬ c < 128 := of_decide_eq_false h7
            omega
      · have h6 : ¬ c = 0 := of_decide_eq_false h6
        refine bsplit (fun h7 => ?_) (fun h7 => ?_) <;> (conv => whnf)
        · have h7 : c < 128 := of_decide_eq_true h7
          refine ⟨by omega, ?_⟩
          (conv => whnf)
          refine leave_eq ?_ rfl
          rw [rdGo, if_neg (by omega), if_neg (by omega), if_neg (by omega)] at h2
          rw [← h2, if_pos rfl]
          exact tup3 ((unzig_wire (by rw [e.1]; exact ⟨e.2.1, e.2.2.1⟩)).trans (congrArg unzig e.1)) (by rw [wrap_i64 (x := p + (i : Int)) (by omega) (by omega), wrap_i64 (x := p + (i : Int) + 1) (by omega) (by omega)]; exact Int.add_assoc _ _ _) rfl
        · have h7 : ¬ c < 128 := of_decide_eq_false h7
          have hi8 : i ≤ 8 := by omega
          rw [rdGo, if_neg (by omega), if_pos (by omega)] at h2
          refine again (i + 1, u + (c % 128) * 2 ^ (7 * i)) ?_ ?_ ?_
          · simp only; omega
          · exact Weak.of ⟨rfl, rfl, rfl, congrArg (fun x => AV.d (.int .u64 x)) e.1, congrArg (fun x => AV.d (.int .i64 x)) ((wrap_i64 (by simp only; omega) (by simp only; omega)).trans (by simp only; omega)), rfl, rfl, congrArg (fun x => AV.d (.int .i64 x)) (wrap_i64 (x := (i : Int) + 1) (by omega) (by omega)), trivial⟩
          · exact ⟨by simp only; omega, by simp only; omega, e.2.1, e.2.2.2 hi8, h2⟩
  · have h3 : ¬ (i : Int) < l.length := of_decide_eq_false h3
    refine leave_eq ?_ rfl
    rw [List.drop_eq_nil_of_le (by omega)] at h2
    rw [← h2]; rfl

set_option maxRecDepth 100000 in
set_option maxHeartbeats 1000000 in
theorem Try.rd01 (b : List Int) (hb : Bytes b) (p : Int) : Fun Try.prog 44 [.d (.sl (.ints .u8 b)), .d (.int .i64 p)] (trI (rdI b p)) := by
  refine Try.fun (fn := Try.f44) 0 rfl rfl ?_
  (conv => whnf)
  refine bsplit (fun h => ?_) (fun h => ?_) <;> (conv => whnf)
  · exact leave_eq (by have h := of_decide_eq_true h; unfold rdI; rw [if_pos (.inl h)]; rfl) rfl
  refine bsplit (fun h' => ?_) (fun h' => ?_) <;> (conv => whnf)
  · exact leave_eq (by have h := of_decide_eq_true h'; unfold rdI; rw [if_pos (.inr h)]; rfl) rfl
  have h := of_decide_eq_false h
  have h' := of_decide_eq_false h'
  have hb2 := hb.2
  refine ⟨rfl, ⟨by omega, by omega⟩, ?_⟩
  (conv => whnf)
  have hbl : ∀ c ∈ b.drop p.toNat, 0 ≤ c ∧ c < 256 := fun c hc => hb.1 c (List.mem_of_mem_drop hc)
  have hll : (b.drop p.toNat).length ≤ 140737488355328 ∧ p + (b.drop p.toNat).length ≤ 140737488355328 := by simp; omega
  have hrd : rdI b p = if (rdGo 0 0 (b.drop p.toNat)).2.2 = 0 then ((rdGo 0 0 (b.drop p.toNat)).1, p + (rdGo 0 0 (b.drop p.toNat)).2.1, 0) else (0, 0, (rdGo 0 0 (b.drop p.toNat)).2.2) := by
    unfold rdI; rw [if_neg (by omega)]
  rw [hrd]
  generalize b.drop p.toNat = l at *
  refine loop_of (fun (s : Nat × Int) => [.d (.sl (.ints .u8 b)), .d (.int .i64 p), .top, .top, .top, .top, .top, .d (.sl (.ints .u8 l)), .d (.int .u64 s.2), .d (.int .i64 s.1), .top, .top, .top, .top, .top, .top, .top, .top, .top, .top, .top, .top, .top, .top, .top, .top, .top, .top, .top, .top, .top, .top, .top, .top, .top, .top, .top, .top, .top, .top, .top, .top, .top, .top, .top, .top, .top, .top, .top, .top, .top, .top, .top, .top, .top, .top, .top, .top, .top, .top, .top, .top, .top, .top, .top, .top, .top, .top, .top, .top]) (fun _ => []) (fun s => s.1 ≤ l.length ∧ s.1 ≤ 9 ∧ 0 ≤ s.2 ∧ s.2 < 2 ^ (7 * s.1) ∧ rdGo s.1 s.2 (l.drop s.1) = rdGo 0 0 l) (fun s => l.length - s.1) (0, 0) (Weak.of ⟨rfl, rfl, rfl, rfl, rfl, trivial⟩) (by simp) fun ⟨i, u⟩ ⟨hi, h9, h0, h1, h2⟩ => ?_
  simp only at hi h9 h0 h1 h2
  obtain ⟨p1, p2, p3, p4⟩ := pow7_cases h9
  (conv => whnf)
  refine bsplit (fun hx => ?_) (fun hx => absurd (show (i : Int) < 10 by omega) (of_decide_eq_false hx)) <;> (conv => whnf)
  refine bsplit (fun h3 => ?_) (fun h3 => ?_) <;> (conv => whnf)
  · have h3 : (l.length : Int) ≤ i := of_decide_eq_true h3
    refine leave_eq ?_ rfl
    rw [List.drop_eq_nil_of_le (by omega)] at h2
    rw [← h2]; rfl
  · have h3 : ¬ (l.length : Int) ≤ i := of_decide_eq_false h3
    refine idx_ok rfl (by omega) (by omega) ?_
    (conv => whnf)
    have hil : i < l.length := by omega
    have hx : l.getD (i : Int).toNat 0 = l[i] := by simp [List.getD_eq_getElem?_getD, List.getElem?_eq_getElem hil]
    have hd : l.drop i = l.getD (i : Int).toNat 0 :: l.drop (i + 1) := by rw [hx]; exact List.drop_eq_getElem_cons hil
    have hc := hbl _ (List.getElem_mem hil)
    rw [← hx] at hc
    rw [hd] at h2
    generalize l.getD (i : Int).toNat 0 = c at *
    have w7 : IntKind.wrap .i64 (7 * (i : Int)) = ((7 * i : Nat) : Int) := by rw [wrap_i64 (by omega) (by omega)]; push_cast; rfl
    have hor := fun hh => rd_or (u := u) (c := c) (p := 2 ^ (min (IntKind.wrap .i64 (7 * (i : Int))).toNat (IntKind.bits .u64))) h9 hc hh ⟨h0, h1⟩ (by rw [w7]; exact pow7 h9)
    refine bsplit (fun h4 => ?_) (fun h4 => ?_) <;> (conv => whnf)
    · have h4 : (i : Int) = 9 := of_decide_eq_true h4
      have i9 : i = 9 := by omega
      refine bsplit (fun h5 => ?_) (fun h5 => ?_) <;> (conv => whnf)
      · have h5 : 1 < c := of_decide_eq_true h5
        refine leave_eq ?_ rfl
        rw [rdGo, if_pos ⟨i9, h5⟩] at h2
        rw [← h2]; rfl
      · have h5 : ¬ 1 < c := of_decide_eq_false h5
        have e := hor (.inr (by omega))
        refine ⟨show 0 ≤ IntKind.wrap .i64 (7 * (i : Int)) by rw [w7]; omega, ?_⟩
        (conv => whnf)
        refine bsplit (fun h7 => absurd (of_decide_eq_true h7) (by omega)) (fun h7 => ?_) <;> (conv => whnf)
        refine bsplit (fun h6 => ?_) (fun h6 => ?_) <;> (conv => whnf)
        · have h6 : c = 0 := of_decide_eq_true h6
          refine bsplit (fun h8 => ?_) (fun h8 => absurd (show (0 : Int) < i by omega) (of_decide_eq_false h8)) <;> (conv => whnf)
          refine leave_eq ?_ rfl
          rw [rdGo, if_neg (by omega), if_neg (by omega), if_pos ⟨h6, by omega⟩] at h2
          rw [← h2]; rfl
        · have h6 : ¬ c = 0 := of_decide_eq_false h6
          refine ⟨by omega, ?_⟩
          (conv => whnf)
          rw [rdGo, if_neg (by omega), if_neg (by omega), if_neg (by omega)] at h2
          have eY : IntKind.wrap .i64 (IntKind.wrap .i64 (p + (i : Int)) + 1) = p + ((i : Int) + 1) := by rw [wrap_i64 (x := p + (i : Int)) (by omega) (by omega), wrap_i64 (x := p + (i : Int) + 1) (by omega) (by omega)]; exact Int.add_assoc _ _ _
          have eR : 0 ≤ ibits .or .u64 u (IntKind.wrap .u64 (IntKind.wrap .u64 (ibits .and .u8 c 127) * 2 ^ (min (IntKind.wrap .i64 (7 * (i : Int))).toNat (IntKind.bits .u64)))) ∧ ibits .or .u64 u (IntKind.wrap .u64 (IntKind.wrap .u64 (ibits .and .u8 c 127) * 2 ^ (min (IntKind.wrap .i64 (7 * (i : Int))).toNat (IntKind.bits .u64)))) < 18446744073709551616 := by rw [e.1]; exact ⟨e.2.1, e.2.2.1⟩
          refine bsplit (fun h9 => ?_) (fun h9 => ?_) <;> (conv => whnf)
          · refine leave_eq ?_ rfl
            rw [← h2, if_pos rfl]
            exact tup3 ((unzig_ref eR h9).trans (congrArg unzig e.1)) eY rfl
          · refine leave_eq ?_ rfl
            rw [← h2, if_pos rfl]
            exact tup3 ((unzig_ref' eR h9).trans (congrArg unzig e.1)) eY rfl
    · have h4 : ¬ (i : Int) = 9 := of_decide_eq_false h4
      have e := hor (.inl (by omega))
      have hc1 : 0 ≤ (c % 128) * 2 ^ (7 * i) := Int.mul_nonneg (by omega) (by omega)
      refine ⟨show 0 ≤ IntKind.wrap .i64 (7 * (i : Int)) by rw [w7]; omega, ?_⟩
      (conv => whnf)
      refine bsplit (fun h7 => ?_) (fun h7 => ?_) <;> (conv => whnf)
      · have h7 : 128 ≤ c := of_decide_eq_true h7
        have hi8 : i ≤ 8 := by omega
        rw [rdGo, if_neg (by omega), if_pos (by omega)] at h2
        refine again (i + 1, u + (c % 128) * 2 ^ (7 * i)) ?_ ?_ ?_
        · simp only; omega
        · exact Weak.of ⟨rfl, rfl, rfl, congrArg (fun x => AV.d (.int .u64 x)) e.1, congrArg (fun x => AV.d (.int .i64 x)) (wrap_i64 (x := (i : Int) + 1) (by omega) (by omega)), trivial⟩
        · exact ⟨by simp only; omega, by simp only; omega, e.2.1, e.2.2.2 hi8, h2⟩
      · have h7 : ¬ 128 ≤ c := of_decide_eq_false h7
        refine bsplit (fun h6 => ?_) (fun h6 => ?_) <;> (conv => whnf)
        · have h6 : c = 0 := of_decide_eq_true h6
          refine bsplit (fun h5 => ?_) (fun h5 => ?_) <;> (conv => whnf)
          · have h5 : (0 : Int) < i := of_decide_eq_true h5
            refine leave_eq ?_ rfl
            rw [rdGo, if_neg (by omega), if_neg (by omega), if_pos ⟨h6, by omega⟩] at h2
            rw [← h2]; rfl
          · have h5 : ¬ (0 : Int) < i := of_decide_eq_false h5
            refine ⟨by omega, ?_⟩
            (conv => whnf)
            rw [rdGo, if_neg (by omega), if_neg (by omega), if_neg (by omega)] at h2
            have eY : IntKind.wrap .i64 (IntKind.wrap .i64 (p + (i : Int)) + 1) = p + ((i : Int) + 1) := by rw [wrap_i64 (x := p + (i : Int)) (by omega) (by omega), wrap_i64 (x := p + (i : Int) + 1) (by omega) (by omega)]; exact Int.add_assoc _ _ _
            have eR : 0 ≤ ibits .or .u64 u (IntKind.wrap .u64 (IntKind.wrap .u64 (ibits .and .u8 c 127) * 2 ^ (min (IntKind.wrap .i64 (7 * (i : Int))).toNat (IntKind.bits .u64)))) ∧ ibits .or .u64 u (IntKind.wrap .u64 (IntKind.wrap .u64 (ibits .and .u8 c 127) * 2 ^ (min (IntKind.wrap .i64 (7 * (i : Int))).toNat (IntKind.bits .u64)))) < 18446744073709551616 := by rw [e.1]; exact ⟨e.2.1, e.2.2.1⟩
            refine bsplit (fun h9 => ?_) (fun h9 => ?_) <;> (conv => whnf)
            · refine leave_eq ?_ rfl
              rw [← h2, if_pos rfl]
              exact tup3 ((unzig_ref eR h9).trans (congrArg unzig e.1)) eY rfl
            · refine leave_eq ?_ rfl
              rw [← h2, if_pos rfl]
              exact tup3 ((unzig_ref' eR h9).trans (congrArg unzig e.1)) eY rfl
        · have h6 : ¬ c = 0 := of_decide_eq_false h6
          refine ⟨by omega, ?_⟩
          (conv => whnf)
          rw [rdGo, if_neg (by omega), if_neg (by omega), if_neg (by omega)] at h2
          have eY : IntKind.wrap .i64 (IntKind.wrap .i64 (p + (i : Int)) + 1) = p + ((i : Int) + 1) := by rw [wrap_i64 (x := p + (i : Int)) (by omega) (by omega), wrap_i64 (x := p + (i : Int) + 1) (by omega) (by omega)]; exact Int.add_assoc _ _ _
          have eR : 0 ≤ ibits .or .u64 u (IntKind.wrap .u64 (IntKind.wrap .u64 (ibits .and .u8 c 127) * 2 ^ (min (IntKind.wrap .i64 (7 * (i : Int))).toNat (IntKind.bits .u64)))) ∧ ibits .or .u64 u (IntKind.wrap .u64 (IntKind.wrap .u64 (ibits .and .u8 c 127) * 2 ^ (min (IntKind.wrap .i64 (7 * (i : Int))).toNat (IntKind.bits .u64)))) < 18446744073709551616 := by rw [e.1]; exact ⟨e.2.1, e.2.2.1⟩
          refine bsplit (fun h9 => ?_) (fun h9 => ?_) <;> (conv => whnf)
          · refine leave_eq ?_ rfl
            rw [← h2, if_pos rfl]
            exact tup3 ((unzig_ref eR h9).trans (congrArg unzig e.1)) eY rfl
          · refine leave_eq ?_ rfl
            rw [← h2, if_pos rfl]
            exact tup3 ((unzig_ref' eR h9).trans (congrArg unzig e.1)) eY rfl

end Go.Proofs
