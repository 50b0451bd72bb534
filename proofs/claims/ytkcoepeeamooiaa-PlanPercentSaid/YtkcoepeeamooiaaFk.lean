/- The live question of the statements on plans. -/
import Derived.Test.YtkcoepeeamooiaaFj
import Derived.Test.YtkcoepeeamooiaaFg
set_option linter.unusedVariables false
set_option linter.unusedSimpArgs false
namespace Go.Proofs
open Go Go.Ab

theorem Try.putR (p : Pl) (hp : p.ok) (h : p.right = true) : Fun Try.prog 11 [.d p.D] (.tup [.app plT (.ints .u8 p.bytes), .d (.int .i64 0)]) := by
  have := Try.put p hp
  rw [if_pos h] at this; exact this
theorem Try.putN (p : Pl) (hp : p.ok) (h : p.right = false) : Fun Try.prog 11 [.d p.D] (.tup [.nils, .d (.int .i64 41)]) := by
  have := Try.put p hp
  rw [if_neg (by rw [h]; decide)] at this; exact this
theorem Try.getR (p : Pl) (hp : p.ok) (h : p.right = true) : Fun Try.prog 15 [.d (.sl (.ints .u8 p.bytes))] (.tup [.d p.D, .d (.int .i64 0)]) := by
  have := Try.get p.bytes (Pl.bytes_ok hp h).1
  rw [decP_enc hp h] at this; exact this
theorem decP_nil : decP [] = (zeroPl, 41) := by decide
theorem Try.getNil : Fun Try.prog 15 [.nils] (.tup [.d zeroPl.D, .d (.int .i64 41)]) := by
  have := Try.get [] ⟨by simp, by simp⟩
  rw [decP_nil] at this
  exact this.weak (.cons (.nil_d _ rfl) .nil)
def headPl : Pl := ⟨0, 1, 0, 2, 100, 0, 0, 0, 0, 0, [], []⟩
theorem headPl_ok : headPl.ok := ⟨by decide, by decide, by decide, by simp [headPl], by simp [headPl], by simp [headPl], by simp [headPl]⟩
theorem headPl_right : headPl.right = true := by decide
def headC : List AV := [.d (.int .i64 0), .d (.int .i64 1), .d (.int .i64 0), .d (.int .i64 2), .d (.int .i64 100), .d (.int .i64 0), .d (.int .i64 0), .d (.int .i64 0), .d (.int .u64 0), .d (.int .u64 0), .nils, .nils]
theorem LEs.nth {xs ys : List AV} (h : LEs xs ys) : ∀ i (h1 : i < xs.length) (h2 : i < ys.length), LE xs[i] ys[i] := h.2
theorem LE.aggD {cs : List AV} {ds : List D} (h : LEs cs (ds.map .d)) : LE (.agg cs) (.d (.agg ds)) :=
  .agg_d _ _ (by have := h.1; simpa using this) fun i h1 h2 => by have := h.2 i h1 (by simpa using h2); simpa using this
theorem head_LE : LE (.agg headC) (.d headPl.D) :=
  LE.aggD (.cons (.refl _) (.cons (.refl _) (.cons (.refl _) (.cons (.refl _) (.cons (.refl _) (.cons (.refl _) (.cons (.refl _) (.cons (.refl _) (.cons (.refl _) (.cons (.refl _) (.cons (.nil_d _ rfl) (.cons (.nil_d _ rfl) .nil))))))))))))
set_option maxRecDepth 100000 in
set_option maxHeartbeats 1000000 in
theorem Try.headV (p : Pl) (hp : p.ok) (hr : p.right = true) (hc : LE (.agg headC) (.d p.D)) (ht : p.t = 1) (h1 : p.names 1 = true) (h0 : p.names 0 = false) : Fun Try.prog 10 [] (.d (.bool true)) := by
  refine Try.fun (fn := Try.f10) 0 rfl rfl ?_
  (conv => whnf)
  refine ⟨⟨rfl, ble rfl, rfl⟩, ?_⟩
  (conv => whnf)
  refine ⟨ble rfl, ?_⟩
  (conv => whnf)
  refine ⟨rfl, ?_⟩
  refine (Try.putR p hp hr).k (.cons hc .nil) rfl ?_
  (conv => whnf)
  refine ⟨rfl, ?_⟩
  refine Fun.kd (Try.getR p hp hr) rfl rfl ?_
  (conv => whnf)
  refine ⟨⟨rfl, ble rfl, rfl⟩, ?_⟩
  (conv => whnf)
  refine ⟨rfl, ?_⟩
  refine Try.getNil.k (LEs.refl _) rfl ?_
  (conv => whnf)
  refine ⟨⟨rfl, ble rfl, rfl⟩, ?_⟩
  (conv => whnf)
  refine btrue (decide_eq_true ht) ?_; (conv => whnf)
  refine ⟨ble rfl, ?_⟩
  (conv => whnf)
  refine ⟨rfl, ?_⟩
  refine (Try.names p 1).k (.cons hc (.cons (.refl _) .nil)) rfl ?_
  (conv => whnf)
  refine btrue h1 ?_; (conv => whnf)
  refine ⟨ble rfl, ?_⟩
  (conv => whnf)
  refine ⟨rfl, ?_⟩
  refine (Try.names p 0).k (.cons hc (.cons (.refl _) .nil)) rfl ?_
  (conv => whnf)
  refine btrue (by rw [h0]; rfl) ?_; (conv => whnf)
  refine ⟨ble rfl, ?_⟩
  (conv => whnf)
  refine ⟨ble rfl, ?_⟩
  (conv => whnf)
  refine ⟨rfl, ?_⟩
  refine (Try.samePl p p hp hp).k (.cons hc (LEs.dat _)) rfl ?_
  (conv => whnf)
  exact leave_b (decide_eq_true rfl)
theorem Try.head : Fun Try.prog 10 [] (.d (.bool true)) := Try.headV headPl headPl_ok headPl_right head_LE rfl (by decide) (by decide)
end Go.Proofs
