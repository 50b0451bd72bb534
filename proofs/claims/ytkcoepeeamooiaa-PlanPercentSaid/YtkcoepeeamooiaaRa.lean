/- The arguments of the statements on plans. -/
import Derived.Test.YtkcoepeeamooiaaAr0
import Derived.Test.YtkcoepeeamooiaaFl
import Derived.Test.YtkcoepeeamooiaaRows
set_option linter.unusedVariables false
set_option linter.unusedSimpArgs false
namespace Go.Proofs
open Go Go.Ab Go.ChangeShapes Go.WideShapes Go.ChangeAt Go.RowKit

theorem wf_i64 {n : Int} (h : (Lit.int .i64 n).wf = true) : I64 n := by
  simp only [Lit.wf, Bool.and_eq_true, decide_eq_true_eq] at h
  have e1 : IntKind.min .i64 = -9223372036854775808 := by decide
  have e2 : IntKind.max .i64 = 9223372036854775807 := by decide
  rw [e1, e2] at h; constructor <;> omega
theorem wf_u64 {n : Int} (h : (Lit.int .u64 n).wf = true) : U64 n := by
  simp only [Lit.wf, Bool.and_eq_true, decide_eq_true_eq] at h
  have e1 : IntKind.min .u64 = 0 := by decide
  have e2 : IntKind.max .u64 = 18446744073709551615 := by decide
  rw [e1, e2] at h; constructor <;> omega
theorem wf_u8 {n : Int} (h : (Lit.int .u8 n).wf = true) : 0 ≤ n ∧ n < 256 := by
  simp only [Lit.wf, Bool.and_eq_true, decide_eq_true_eq] at h
  have e1 : IntKind.min .u8 = 0 := by decide
  have e2 : IntKind.max .u8 = 255 := by decide
  rw [e1, e2] at h; constructor <;> omega
theorem wf_u16 {n : Int} (h : (Lit.int .u16 n).wf = true) : 0 ≤ n ∧ n < 65536 := by
  simp only [Lit.wf, Bool.and_eq_true, decide_eq_true_eq] at h
  have e1 : IntKind.min .u16 = 0 := by decide
  have e2 : IntKind.max .u16 = 65535 := by decide
  rw [e1, e2] at h; constructor <;> omega
theorem maxLen_le {n : Nat} (h : n ≤ reachBytes) : n ≤ 140737488355328 := Nat.le_trans h (by decide)
theorem has_int {k : IntKind} {x : D} (h : Has (.int k) x) : ∃ n, x = .int k n ∧ (Lit.int k n).wf = true := by cases h with | int _ n h => exact ⟨n, rfl, h⟩
theorem has_ints {k : IntKind} {x : D} (h : Has (.ints k) x) : ∃ l, x = .sl (.ints k l) ∧ (∀ y ∈ l, (Lit.int k y).wf = true) ∧ l.length ≤ 140737488355328 := by cases h with | ints _ l h hm => exact ⟨l, rfl, h, maxLen_le hm⟩
def planLeaves : List Leaf := [.int .i64, .int .i64, .int .i64, .int .i64, .int .i64, .int .i64, .int .i64, .int .i64, .int .u64, .int .u64, .ints .i64, .ints .i64]
theorem plan_of {ds : List D} (h : Hass planLeaves ds) : ∃ p : Pl, p.ok ∧ D.agg ds = p.D := by
  obtain ⟨hl, h⟩ := h
  match ds, hl with
  | [a0, a1, a2, a3, a4, a5, a6, a7, a8, a9, a10, a11], _ =>
    obtain ⟨n0, rfl, w0⟩ := has_int (h 0 (by decide) (by simp))
    obtain ⟨n1, rfl, w1⟩ := has_int (h 1 (by decide) (by simp))
    obtain ⟨n2, rfl, w2⟩ := has_int (h 2 (by decide) (by simp))
    obtain ⟨n3, rfl, w3⟩ := has_int (h 3 (by decide) (by simp))
    obtain ⟨n4, rfl, w4⟩ := has_int (h 4 (by decide) (by simp))
    obtain ⟨n5, rfl, w5⟩ := has_int (h 5 (by decide) (by simp))
    obtain ⟨n6, rfl, w6⟩ := has_int (h 6 (by decide) (by simp))
    obtain ⟨n7, rfl, w7⟩ := has_int (h 7 (by decide) (by simp))
    obtain ⟨n8, rfl, w8⟩ := has_int (h 8 (by decide) (by simp))
    obtain ⟨n9, rfl, w9⟩ := has_int (h 9 (by decide) (by simp))
    obtain ⟨l10, rfl, w10, m10⟩ := has_ints (h 10 (by decide) (by simp))
    obtain ⟨l11, rfl, w11, m11⟩ := has_ints (h 11 (by decide) (by simp))
    exact ⟨⟨n0, n1, n2, n3, n4, n5, n6, n7, n8, n9, l10, l11⟩, ⟨⟨wf_i64 w0, wf_i64 w1, wf_i64 w2, wf_i64 w3, wf_i64 w4, wf_i64 w5, wf_i64 w6, wf_i64 w7⟩, wf_u64 w8, wf_u64 w9, fun y hy => wf_i64 (w10 y hy), fun y hy => wf_i64 (w11 y hy), m10, m11⟩, rfl⟩
theorem RAs.nil {γ : Gh} {w : World} : RAs γ w [] #[] := ⟨rfl, fun i h1 => by simp at h1⟩
theorem ras1 {γ : Gh} {w : World} {a : AV} {u : Value} (h : RA γ w a u) : RAs γ w [a] #[u] := RAs.one h
theorem ras3 {γ : Gh} {w : World} {a b c : AV} {u v x : Value} (h1 : RA γ w a u) (h2 : RA γ w b v) (h3 : RA γ w c x) : RAs γ w [a, b, c] #[u, v, x] := by
  refine ⟨rfl, fun i j1 j2 => ?_⟩
  match i, j1 with
  | 0, _ => exact h1
  | 1, _ => exact h2
  | 2, _ => exact h3
theorem ras4 {γ : Gh} {w : World} {a b c d : AV} {u v x y : Value} (h1 : RA γ w a u) (h2 : RA γ w b v) (h3 : RA γ w c x) (h4 : RA γ w d y) : RAs γ w [a, b, c, d] #[u, v, x, y] := by
  refine ⟨rfl, fun i j1 j2 => ?_⟩
  match i, j1 with
  | 0, _ => exact h1
  | 1, _ => exact h2
  | 2, _ => exact h3
  | 3, _ => exact h4
section
variable {H : Type} {enc : TypeId × Value → H} {w : World} {base : Nat} {spare : Nat → Bool} {held : Bool}
theorem Try.argPlan {v : Value} {d : DataW H} {ps : List MemPlace} {r : _root_.Go.Reach} {base0 : Nat} (hok : Value.okWide Try.prog w r base0 26 v) (h : DataW.Trod enc Try.prog w base spare held 26 v d ps) (hw : Light Try.prog 26 d) : ∃ p : Pl, p.ok ∧ RA Gh.none w (.d p.D) v := by
  obtain ⟨ds, h1, h2⟩ := arg_agg (n := 4) (ls := planLeaves) Try.underlying26 hok h hw (by kernel_rfl)
  obtain ⟨p, h3, h4⟩ := plan_of h1
  exact ⟨p, h3, .d _ _ (h4 ▸ h2)⟩
theorem Try.argBytes {v : Value} {d : DataW H} {ps : List MemPlace} {r : _root_.Go.Reach} {base0 : Nat} (hok : Value.okWide Try.prog w r base0 28 v) (h : DataW.Trod enc Try.prog w base spare held 28 v d ps) (hw : Light Try.prog 28 d) : ∃ l : List Int, Bytes l ∧ RA Gh.none w (.d (.sl (.ints .u8 l))) v := by
  obtain ⟨a, len, cap, rfl⟩ := okWide_slice Try.underlying28 hok
  obtain ⟨x, h1, h2⟩ := arg_one (n := 4) (l := .ints .u8) rfl h hw (by kernel_rfl)
  obtain ⟨l, rfl, h3, h4⟩ := has_ints h1
  exact ⟨l, ⟨fun c hc => wf_u8 (h3 c hc), h4⟩, .d _ _ h2⟩
theorem Try.argInt {t : TypeId} {k : IntKind} (hu : Try.prog.underlying t = some (.int k)) {v : Value} {d : DataW H} {ps : List MemPlace} {r : _root_.Go.Reach} {base0 : Nat} (hok : Value.okWide Try.prog w r base0 t v) (h : DataW.Trod enc Try.prog w base spare held t v d ps) : ∃ n : Int, (Lit.int k n).wf = true ∧ RA Gh.none w (.d (.int k n)) v := by
  obtain ⟨n, rfl, rfl, rfl, wn⟩ := open_int hu hok h
  exact ⟨n, wn, .d _ _ (.int _ _)⟩
end
end Go.Proofs
