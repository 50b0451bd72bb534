/- Plans as bytes, and back: the reference. -/
import Derived.Test.YtkcoepeeamooiaaFe
set_option linter.unusedVariables false
set_option linter.unusedSimpArgs false
namespace Go.Proofs
open Go Go.Ab

/-- A plan as bytes; what is not right is not written. -/
def encP (p : Pl) : List Int × Int := if p.right = true then (putL p.nums ++ putL p.pen ++ putL p.chg, 0) else ([], 41)
def trB (r : List Int × Int) : AV := .tup [.d (.sl (.ints .u8 r.1)), .d (.int .i64 r.2)]
theorem LE.tup2 {a a' b b' : AV} (h1 : LE a a') (h2 : LE b b') : LE (.tup [a, b]) (.tup [a', b']) :=
  .tup _ _ rfl (LEs.cons h1 (LEs.cons h2 LEs.nil)).2
theorem leave_trB {r : List Int × Int} {x : AV} {e : Int} {H : Hp} (hx : LE x (.d (.sl (.ints .u8 r.1)))) (he : e = r.2) : leave 0 (fun q H => H = [] ∧ q = trB r) (.tup [x, .d (.int .i64 e)]) H := by
  subst he
  exact leave_fun (LE.tup2 hx (.refl _)) rfl
theorem Pl.nums_ok {p : Pl} (hp : p.ok) : ∀ x ∈ p.nums, I64 x := by
  obtain ⟨h1, h2, h3, h4, h5, h6, h7, h8⟩ := hp.nums
  have w : ∀ x, I64 (IntKind.i64.wrap x) := fun x => by
    simp only [IntKind.wrap, IntKind.bits, IntKind.signed, Bool.true_and, decide_eq_true_eq, Nat.reduceSub, Int.reducePow, ge_iff_le]
    split <;> constructor <;> omega
  intro x hx
  simp only [Pl.nums, List.mem_cons, List.not_mem_nil, or_false] at hx
  rcases hx with rfl | rfl | rfl | rfl | rfl | rfl | rfl | rfl | rfl | rfl <;> first | assumption | exact w _
theorem Pl.right_len {p : Pl} (h : p.right = true) : p.pen.length ≤ 16 ∧ p.chg.length ≤ 8 := by
  simp [Pl.right] at h; omega
theorem Try.putL01d (l : List Int) (hl : l.length ≤ 64) (hw : ∀ x ∈ l, I64 x) : Fun Try.prog 23 [.d (.sl (.ints .i64 l))] (.tup [.d (.sl (.ints .u8 (putL l))), .d (.int .i64 0)]) :=
  (Try.putL01 l hl hw).res (LE.tup2 (.app_d _ _) (.refl _))
theorem Try.putL01a (l : List Int) (hl : l.length ≤ 64) (hw : ∀ x ∈ l, I64 x) (hn : l ≠ []) : Fun Try.prog 23 [.d (.sl (.ints .i64 l))] (.tup [.app (23000 + 24) (.ints .u8 (putL l)), .d (.int .i64 0)]) := by
  have := Try.putL01 l hl hw
  rw [if_neg hn] at this
  exact this
theorem putL_len (l : List Int) (h : l.length ≤ 64) : (putL l).length ≤ 800 := by
  have h1 : ∀ (k : List Int), (k.flatMap putI).length ≤ 11 * k.length := by
    intro k
    induction k with
    | nil => simp
    | cons x k ih => simp only [List.flatMap_cons, List.length_append, List.length_cons]; have := putI_len x; omega
  have := h1 l
  have := putI_len l.length
  simp only [putL, List.length_append]
  omega

set_option maxRecDepth 100000 in
set_option maxHeartbeats 1000000 in
theorem Try.put04 (p : Pl) (hp : p.ok) : Fun Try.prog 12 [.d p.D] (trB (encP p)) := by
  refine Try.fun (fn := Try.f12) 12000 rfl rfl ?_
  (conv => whnf)
  refine ⟨ble rfl, ?_⟩
  (conv => whnf)
  refine ⟨rfl, ?_⟩
  refine Fun.kd (Try.right04 p hp) rfl rfl ?_
  (conv => whnf)
  refine bsplit (fun h => ?_) (fun h => ?_) <;> (conv => whnf)
  · have h : p.right = false := by simpa using h
    exact leave_trB (by unfold encP; rw [if_neg (by rw [h]; decide)]; exact .nil_d _ rfl) (by unfold encP; rw [if_neg (by rw [h]; decide)])
  have h : p.right = true := by simpa using h
  have henc : encP p = (putL p.nums ++ putL p.pen ++ putL p.chg, 0) := by unfold encP; rw [if_pos h]
  rw [henc]
  obtain ⟨l1, l2⟩ := Pl.right_len h
  refine loop_of (fun (i : Nat) => [.top, .ptr 0 0, .top, .top, .top, .app (12000 + 31) (.ints .i64 (p.pen.take i)), .d (.int .i64 i), .top, .top, .top, .top, .top, .top, .top, .top, .top, .top, .top, .top, .top, .top, .top, .top, .top, .top, .top, .top, .top, .top, .top, .top, .top, .top, .top, .top, .top, .top, .top, .top, .top, .top, .top, .top, .top, .top, .top, .top, .top, .top, .top, .top, .top, .top, .top, .top, .top, .top, .top, .top, .top, .top, .top, .top, .top, .top, .top, .top, .top, .top, .top, .top, .top, .top, .top, .top]) (fun _ => [some ⟨26, p.cells⟩]) (fun i => i ≤ p.pen.length) (fun i => p.pen.length - i) 0 (Weak.of ⟨rfl, rfl, rfl, trivial⟩) (by simp) fun i hi => ?_
  (conv => whnf)
  refine bsplit (fun h3 => ?_) (fun h3 => ?_) <;> (conv => whnf)
  · have h3 : (i : Int) < p.pen.length := of_decide_eq_true h3
    have hx : p.pen.getD (i : Int).toNat 0 = p.pen[i] := by simp [List.getD_eq_getElem?_getD, List.getElem?_eq_getElem (show i < p.pen.length by omega)]
    refine idx_ok rfl (by omega) (by omega) ?_
    (conv => whnf)
    refine ⟨⟨ble rfl, by decide⟩, ?_⟩
    (conv => whnf)
    refine ⟨⟨by simp [L.len]; omega, by decide⟩, ?_⟩
    (conv => whnf)
    refine again (i + 1) ?_ ?_ ?_
    · omega
    · refine Weak.of ⟨rfl, congrArg (fun x => AV.app _ (.ints .i64 x)) ?_, congrArg (fun x => AV.d (.int .i64 x)) (wrap_i64 (x := (i : Int) + 1) (by omega) (by omega)), trivial⟩
      rw [hx, List.take_succ_eq_append_getElem (by omega)]
    · omega
  · have h3 : ¬ (i : Int) < p.pen.length := of_decide_eq_false h3
    refine ⟨⟨ble rfl, by decide⟩, ?_⟩
    (conv => whnf)
    refine ⟨rfl, ?_⟩
    refine Fun.kd (Try.putL01a p.nums (ble rfl) (Pl.nums_ok hp) (fun e => by cases e)) rfl rfl ?_
    (conv => whnf)
    have htake : p.pen.take i = p.pen := List.take_of_length_le (by omega)
    rw [htake]
    refine ⟨rfl, ?_⟩
    refine Fun.kd (Try.putL01d p.pen (by omega) hp.pen) rfl rfl ?_
    (conv => whnf)
    refine ⟨rfl, ?_⟩
    refine Fun.kd (Try.putL01d p.chg (by omega) hp.chg) rfl rfl ?_
    (conv => whnf)
    have q1 := putL_len p.nums (ble rfl)
    have q2 := putL_len p.pen (by omega)
    have q3 := putL_len p.chg (by omega)
    refine ⟨⟨by simp [L.len]; omega, by decide⟩, ?_⟩
    (conv => whnf)
    refine ⟨⟨by simp [L.len]; omega, by decide⟩, ?_⟩
    (conv => whnf)
    exact leave_trB (.app_d _ _) rfl

/-- A plan out of lists, as the reference makes it; and plainly. -/
def mkSm (l pen chg : List Int) : Pl := ⟨l.getD 0 0, smallI (l.getD 1 0), smallI (l.getD 2 0), smallI (l.getD 3 0), smallI (l.getD 4 0), l.getD 5 0, l.getD 6 0, l.getD 7 0, IntKind.u64.wrap (l.getD 8 0), IntKind.u64.wrap (l.getD 9 0), pen.map smallI, chg⟩
def mkPl (l pen chg : List Int) : Pl := ⟨l.getD 0 0, l.getD 1 0, l.getD 2 0, l.getD 3 0, l.getD 4 0, l.getD 5 0, l.getD 6 0, l.getD 7 0, l.getD 8 0, l.getD 9 0, pen, chg⟩
def zeroPl : Pl := ⟨0, 0, 0, 0, 0, 0, 0, 0, 0, 0, [], []⟩
/-- A plan, read. -/
def decP (b : List Int) : Pl × Int :=
  if (rdL b 0).2.2 = 0 ∧ (rdL b 0).1.length = 10 ∧ (rdL b (rdL b 0).2.1).2.2 = 0 ∧ (rdL b (rdL b (rdL b 0).2.1).2.1).2.2 = 0 ∧ (rdL b (rdL b (rdL b 0).2.1).2.1).2.1 = b.length ∧ 0 ≤ (rdL b 0).1.getD 8 0 ∧ 0 ≤ (rdL b 0).1.getD 9 0 ∧
    (mkPl (rdL b 0).1 (rdL b (rdL b 0).2.1).1 (rdL b (rdL b (rdL b 0).2.1).2.1).1).right = true
  then (mkPl (rdL b 0).1 (rdL b (rdL b 0).2.1).1 (rdL b (rdL b (rdL b 0).2.1).2.1).1, 0) else (zeroPl, 41)
def trP (r : Pl × Int) : AV := .tup [.d r.1.D, .d (.int .i64 r.2)]

/-! ### What is read is in range -/
theorem I64_0 : I64 0 := ⟨by omega, by omega⟩
theorem unzig_range {u : Int} (h : 0 ≤ u ∧ u < 18446744073709551616) : I64 (unzig u) := by
  unfold unzig; split <;> constructor <;> omega
theorem rdGo_range : ∀ (l : List Int) (i : Nat) (u : Int), (∀ c ∈ l, 0 ≤ c ∧ c < 256) → i ≤ 9 → 0 ≤ u ∧ u < 2 ^ (7 * i) → I64 (rdGo i u l).1
  | [], i, u, _, _, _ => I64_0
  | c :: l, i, u, hl, hi, hu => by
    have hc := hl c (by simp)
    unfold rdGo
    split
    · exact I64_0
    · rename_i h1
      have e := rd_or (u := u) (c := c) hi hc (by omega) hu rfl
      split
      · exact rdGo_range l (i + 1) _ (fun x hx => hl x (by simp [hx])) (by omega) ⟨e.2.1, e.2.2.2 (by omega)⟩
      · split
        · exact I64_0
        · exact unzig_range ⟨e.2.1, e.2.2.1⟩
theorem rdI_range {b : List Int} (hb : Bytes b) (p : Int) : I64 (rdI b p).1 := by
  unfold rdI
  split
  · exact I64_0
  · split
    · exact rdGo_range _ 0 0 (fun c hc => hb.1 c (List.mem_of_mem_drop hc)) (by omega) (by simp)
    · exact I64_0
theorem rdN_range {b : List Int} (hb : Bytes b) : ∀ (k : Nat) (p : Int), (∀ x ∈ (rdN b k p).1, I64 x) ∧ (rdN b k p).1.length ≤ k
  | 0, p => by simp [rdN]
  | k + 1, p => by
    have ih := rdN_range hb k (rdI b p).2.1
    unfold rdN
    split
    · split
      · refine ⟨fun x hx => ?_, by simp; exact ih.2⟩
        simp only [List.mem_cons] at hx
        rcases hx with rfl | hx
        · exact rdI_range hb p
        · exact ih.1 x hx
      · simp
    · simp
theorem rdL_range {b : List Int} (hb : Bytes b) (p : Int) : (∀ x ∈ (rdL b p).1, I64 x) ∧ (rdL b p).1.length ≤ 64 := by
  unfold rdL
  split
  · split
    · simp
    · have := rdN_range hb (rdI b p).1.toNat (rdI b p).2.1
      exact ⟨this.1, by omega⟩
  · simp
theorem getD_range {l : List Int} (h : ∀ x ∈ l, I64 x) (i : Nat) : I64 (l.getD i 0) := by
  rw [List.getD_eq_getElem?_getD]
  cases hl : l[i]? with
  | none => exact I64_0
  | some x => exact h x (List.mem_of_getElem? hl)
theorem small_range {x : Int} (h : I64 x) : I64 (smallI x) := by unfold smallI; split <;> constructor <;> omega
theorem mkSm_ok {l pen chg : List Int} (h1 : ∀ x ∈ l, I64 x) (h2 : ∀ x ∈ pen, I64 x) (h3 : ∀ x ∈ chg, I64 x) (n2 : pen.length ≤ 64) (n3 : chg.length ≤ 64) (h8 : 0 ≤ l.getD 8 0) (h9 : 0 ≤ l.getD 9 0) : (mkSm l pen chg).ok := by
  have g := getD_range h1
  refine ⟨⟨g 0, small_range (g 1), small_range (g 2), small_range (g 3), small_range (g 4), g 5, g 6, g 7⟩, ?_, ?_, ?_, h3, ?_, ?_⟩
  · have := g 8; show U64 (IntKind.u64.wrap _); rw [wrap_u64 h8 (by omega)]; constructor <;> omega
  · have := g 9; show U64 (IntKind.u64.wrap _); rw [wrap_u64 h9 (by omega)]; constructor <;> omega
  · intro x hx
    simp only [mkSm, List.mem_map] at hx
    obtain ⟨y, hy, rfl⟩ := hx
    exact small_range (h2 y hy)
  · simp only [mkSm, List.length_map]; omega
  · simp only [mkSm]; omega
theorem small_ge {x : Int} (h : -1 ≤ smallI x) : smallI x = x := by unfold smallI at *; split at h <;> simp_all
theorem small_in {x : Int} (h : -1 ≤ x ∧ x ≤ 1000000) : smallI x = x := by unfold smallI; rw [if_pos h]
theorem mkSm_right {l pen chg : List Int} (h1 : ∀ x ∈ l, I64 x) (h8 : 0 ≤ l.getD 8 0) (h9 : 0 ≤ l.getD 9 0) : ((mkSm l pen chg).right = true → mkSm l pen chg = mkPl l pen chg) ∧ ((mkPl l pen chg).right = true → mkSm l pen chg = mkPl l pen chg) := by
  have g8 := getD_range h1 8
  have g9 := getD_range h1 9
  have w8 : IntKind.u64.wrap (l.getD 8 0) = l.getD 8 0 := wrap_u64 h8 (by omega)
  have w9 : IntKind.u64.wrap (l.getD 9 0) = l.getD 9 0 := wrap_u64 h9 (by omega)
  have hp : (∀ x ∈ pen, smallI x = x) → pen.map smallI = pen := fun h => by
    rw [List.map_congr_left h]; simp
  constructor
  · intro h
    simp only [Pl.right, allIn, mkSm, Bool.and_eq_true, decide_eq_true_eq, List.all_cons, List.all_nil, and_true, List.all_map, List.all_eq_true, Function.comp] at h
    have e : pen.map smallI = pen := hp fun x hx => small_ge (by have := h.1.1.2 x hx; omega)
    simp only [mkSm, mkPl, w8, w9, e, small_ge (show -1 ≤ smallI (l.getD 1 0) by omega), small_ge (show -1 ≤ smallI (l.getD 2 0) by omega), small_ge (show -1 ≤ smallI (l.getD 3 0) by omega), small_ge (show -1 ≤ smallI (l.getD 4 0) by omega)]
  · intro h
    simp only [Pl.right, allIn, mkPl, Bool.and_eq_true, decide_eq_true_eq, List.all_cons, List.all_nil, and_true, List.all_eq_true] at h
    have e : pen.map smallI = pen := hp fun x hx => small_in (by have := h.1.1.2 x hx; omega)
    simp only [mkSm, mkPl, w8, w9, e, small_in (show -1 ≤ l.getD 1 0 ∧ l.getD 1 0 ≤ 1000000 by omega), small_in (show -1 ≤ l.getD 2 0 ∧ l.getD 2 0 ≤ 1000000 by omega), small_in (show -1 ≤ l.getD 3 0 ∧ l.getD 3 0 ≤ 1000000 by omega), small_in (show -1 ≤ l.getD 4 0 ∧ l.getD 4 0 ≤ 1000000 by omega)]

/-- A plan's cells, its penalties told so. -/
def Pl.cellsP (p : Pl) (x : AV) : List AV := [.d (.int .i64 p.e), .d (.int .i64 p.t), .d (.int .i64 p.p), .d (.int .i64 p.s), .d (.int .i64 p.pc), .d (.int .i64 p.st), .d (.int .i64 p.si), .d (.int .i64 p.ra), .d (.int .u64 p.up), .d (.int .u64 p.su), x, .d (.sl (.ints .i64 p.chg))]
def zeroC : List AV := [.d (.int .i64 0), .d (.int .i64 0), .d (.int .i64 0), .d (.int .i64 0), .d (.int .i64 0), .d (.int .i64 0), .d (.int .i64 0), .d (.int .i64 0), .d (.int .u64 0), .d (.int .u64 0), .nils, .nils]
theorem zero_LE : LE (.agg zeroC) (.d zeroPl.D) := by
  have h : LEs zeroC [.d (.int .i64 0), .d (.int .i64 0), .d (.int .i64 0), .d (.int .i64 0), .d (.int .i64 0), .d (.int .i64 0), .d (.int .i64 0), .d (.int .i64 0), .d (.int .u64 0), .d (.int .u64 0), .d (.sl (.ints .i64 [])), .d (.sl (.ints .i64 []))] := weakT_LEs ⟨rfl, rfl, rfl, rfl, rfl, rfl, rfl, rfl, rfl, rfl, rfl, rfl, trivial⟩
  exact .trans (.agg _ _ h.1 h.2) (LE.agg_of rfl)
theorem leave_bad {r : Pl × Int} {H : Hp} (h : r = (zeroPl, 41)) : leave 0 (fun q H => H = [] ∧ q = trP r) (.tup [.agg zeroC, .d (.int .i64 41)]) H := by
  subst h; exact leave_fun (LE.tup2 zero_LE (.refl _)) rfl
set_option maxRecDepth 100000 in
set_option maxHeartbeats 1000000 in
theorem Try.get04 (b : List Int) (hb : Bytes b) : Fun Try.prog 16 [.d (.sl (.ints .u8 b))] (trP (decP b)) := by
  refine Try.fun (fn := Try.f16) 16000 rfl rfl ?_
  (conv => whnf)
  have r0 := rdL_range hb 0
  have r1 := rdL_range hb (rdL b 0).2.1
  have r2 := rdL_range hb (rdL b (rdL b 0).2.1).2.1
  have hdec : decP b = decP b := rfl
  conv at hdec => rhs; unfold decP
  rw [hdec]
  clear hdec
  refine ⟨rfl, ?_⟩
  refine Fun.kd (Try.rdL01 b hb 0) rfl rfl ?_
  (conv => whnf)
  refine bsplit (fun h => ?_) (fun h => ?_) <;> (conv => whnf)
  · refine ⟨⟨rfl, ble rfl, rfl⟩, ?_⟩
    (conv => whnf)
    exact leave_bad (by rw [if_neg (fun hh => by simp [hh.1] at h)])
  have h : (rdL b 0).2.2 = 0 := by simpa using h
  refine bsplit (fun h1 => ?_) (fun h1 => ?_) <;> (conv => whnf)
  · refine ⟨⟨rfl, ble rfl, rfl⟩, ?_⟩
    (conv => whnf)
    exact leave_bad (by rw [if_neg (fun hh => by simp [hh.2.1] at h1)])
  have h1 : (rdL b 0).1.length = 10 := by simp at h1; omega
  refine ⟨rfl, ?_⟩
  refine Fun.kd (Try.rdL01 b hb (rdL b 0).2.1) rfl rfl ?_
  (conv => whnf)
  refine bsplit (fun h2 => ?_) (fun h2 => ?_) <;> (conv => whnf)
  · refine ⟨⟨rfl, ble rfl, rfl⟩, ?_⟩
    (conv => whnf)
    exact leave_bad (by rw [if_neg (fun hh => by simp [hh.2.2.1] at h2)])
  have h2 : (rdL b (rdL b 0).2.1).2.2 = 0 := by simpa using h2
  refine ⟨rfl, ?_⟩
  refine Fun.kd (Try.rdL01 b hb (rdL b (rdL b 0).2.1).2.1) rfl rfl ?_
  (conv => whnf)
  refine bsplit (fun h3 => ?_) (fun h3 => ?_) <;> (conv => whnf)
  · refine ⟨⟨rfl, ble rfl, rfl⟩, ?_⟩
    (conv => whnf)
    exact leave_bad (by rw [if_neg (fun hh => by simp [hh.2.2.2.1] at h3)])
  have h3 : (rdL b (rdL b (rdL b 0).2.1).2.1).2.2 = 0 := by simpa using h3
  refine bsplit (fun h4 => ?_) (fun h4 => ?_) <;> (conv => whnf)
  · refine ⟨⟨rfl, ble rfl, rfl⟩, ?_⟩
    (conv => whnf)
    exact leave_bad (by rw [if_neg (fun hh => by simp [hh.2.2.2.2.1] at h4)])
  have h4 : (rdL b (rdL b (rdL b 0).2.1).2.1).2.1 = b.length := by simpa using h4
  generalize (rdL b (rdL b (rdL b 0).2.1).2.1).1 = chg at *
  generalize (rdL b (rdL b 0).2.1).1 = pen at *
  generalize (rdL b 0).1 = l at *
  refine idx_ok rfl (by omega) (by omega) ?_
  (conv => whnf)
  refine bsplit (fun h5 => ?_) (fun h5 => ?_) <;> (conv => whnf)
  · refine ⟨⟨rfl, ble rfl, rfl⟩, ?_⟩
    (conv => whnf)
    exact leave_bad (by rw [if_neg (fun hh => by have := of_decide_eq_true h5; have := hh.2.2.2.2.2.1; simp at *; omega)])
  have h5 : 0 ≤ l.getD 8 0 := by have := of_decide_eq_false h5; simp at this; simpa using this
  refine idx_ok rfl (by omega) (by omega) ?_
  (conv => whnf)
  refine bsplit (fun h6 => ?_) (fun h6 => ?_) <;> (conv => whnf)
  · refine ⟨⟨rfl, ble rfl, rfl⟩, ?_⟩
    (conv => whnf)
    exact leave_bad (by rw [if_neg (fun hh => by have := of_decide_eq_true h6; have := hh.2.2.2.2.2.2.1; simp at *; omega)])
  have h6 : 0 ≤ l.getD 9 0 := by have := of_decide_eq_false h6; simp at this; simpa using this
  refine ⟨List.range 40, by kernel_rfl, ?_⟩
  (conv => whnf)
  repeat' first
    | (refine idx_ok rfl (by omega) (by omega) ?_; (conv => whnf))
    | (refine And.intro rfl ?_; (conv => whnf); refine Fun.dd (Try.small _) rfl rfl ?_; (conv => whnf))
  refine ⟨⟨rfl, ble rfl, rfl⟩, ?_⟩
  (conv => whnf)
  refine loop_of (fun (i : Nat) => [.top, .top, .ptr 0 0, .d (.int .i64 0), .top, .top, .top, .d (.sl (.ints .i64 pen)), .top, .ptr 1 0, .d (.int .i64 i), .top, .top, .top, .top, .top, .top, .top, .top, .top, .top, .top, .top, .top, .top, .top, .top, .top, .top, .top, .top, .top, .top, .top, .top, .top, .top, .top, .top, .top, .top, .top, .top, .top, .top, .top, .top, .top, .top, .top, .top, .top, .top, .top, .top, .top, .top, .top, .top, .top, .top, .top, .top, .top, .top, .top, .top, .top, .top, .top, .top, .top, .top, .top, .top, .top, .top, .top, .top, .top, .top, .top, .top, .top, .top, .top, .top, .top, .top, .top, .top, .top, .top, .top, .top, .top, .top, .top, .top, .top, .top, .top, .top, .top, .top, .top, .top, .top, .top, .top, .top, .top, .top, .top, .top, .top, .top, .top, .top, .top, .top, .top, .top, .top]) (fun i => [some ⟨26, zeroC⟩, some ⟨26, (mkSm l pen chg).cellsP (.app (16000 + 116) (.ints .i64 ((pen.take i).map smallI)))⟩]) (fun i => i ≤ pen.length) (fun i => pen.length - i) 0 (Weak.ofH ⟨rfl, rfl, rfl, rfl, rfl, trivial⟩ ⟨rfl, ⟨rfl, rfl, rfl, rfl, rfl, rfl, rfl, rfl, rfl, rfl, rfl, rfl, trivial⟩, rfl, ⟨rfl, rfl, rfl, rfl, rfl, rfl, rfl, rfl, rfl, rfl, rfl, rfl, trivial⟩, trivial⟩ rfl rfl) (by simp) fun i hi => ?_
  (conv => whnf)
  refine bsplit (fun h7 => ?_) (fun h7 => ?_) <;> (conv => whnf)
  · have h7 : (i : Int) < pen.length := of_decide_eq_true h7
    have hx : pen.getD (i : Int).toNat 0 = pen[i] := by simp [List.getD_eq_getElem?_getD, List.getElem?_eq_getElem (show i < pen.length by omega)]
    refine ⟨List.range 11, by kernel_rfl, ?_⟩
    (conv => whnf)
    refine idx_ok rfl (by omega) (by omega) ?_
    (conv => whnf)
    refine And.intro rfl ?_
    (conv => whnf)
    refine Fun.dd (Try.small _) rfl rfl ?_
    (conv => whnf)
    refine ⟨⟨ble rfl, by decide⟩, ?_⟩
    (conv => whnf)
    refine ⟨⟨by simp [L.len]; omega, by decide⟩, ?_⟩
    (conv => whnf)
    refine ⟨⟨rfl, ble rfl, rfl⟩, ?_⟩
    (conv => whnf)
    refine again (i + 1) ?_ ?_ ?_
    · omega
    · refine Weak.ofH ⟨rfl, rfl, rfl, rfl, congrArg (fun x => AV.d (.int .i64 x)) (wrap_i64 (x := (i : Int) + 1) (by omega) (by omega)), trivial⟩ ⟨rfl, ⟨rfl, rfl, rfl, rfl, rfl, rfl, rfl, rfl, rfl, rfl, rfl, rfl, trivial⟩, rfl, ⟨rfl, rfl, rfl, rfl, rfl, rfl, rfl, rfl, rfl, rfl, congrArg (fun x => AV.app _ (.ints .i64 x)) ?_, rfl, trivial⟩, trivial⟩ rfl rfl
      rw [hx, List.take_succ_eq_append_getElem (by omega), List.map_append]
      rfl
    · omega
  · have h7 : ¬ (i : Int) < pen.length := of_decide_eq_false h7
    have htake : pen.take i = pen := List.take_of_length_le (by omega)
    rw [htake]
    have hm := mkSm_right (pen := pen) (chg := chg) r0.1 h5 h6
    refine ⟨ble rfl, ?_⟩
    (conv => whnf)
    refine ⟨rfl, ?_⟩
    refine Fun.kd (Try.right04 (mkSm l pen chg) (mkSm_ok r0.1 r1.1 r2.1 r1.2 r2.2 h5 h6)) rfl rfl ?_
    (conv => whnf)
    refine bsplit (fun h8 => ?_) (fun h8 => ?_) <;> (conv => whnf)
    · have h8 : (mkSm l pen chg).right = false := by simpa using h8
      refine ⟨⟨rfl, ble rfl, rfl⟩, ?_⟩
      (conv => whnf)
      exact leave_bad (by rw [if_neg (fun hh => by have := hm.2 hh.2.2.2.2.2.2.2; rw [this, hh.2.2.2.2.2.2.2] at h8; cases h8)])
    · have h8 : (mkSm l pen chg).right = true := by simpa using h8
      have e := hm.1 h8
      rw [e] at h8
      refine ⟨ble rfl, ?_⟩
      (conv => whnf)
      refine ⟨⟨rfl, ble rfl, rfl⟩, ?_⟩
      (conv => whnf)
      rw [if_pos ⟨h, h1, h2, h3, h4, h5, h6, h8⟩, ← e]
      exact leave_fun (LE.tup2 (LE.toD _ rfl) (.refl _)) rfl

end Go.Proofs
