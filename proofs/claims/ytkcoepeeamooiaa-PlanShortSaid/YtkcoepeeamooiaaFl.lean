/- The statements on plans, as contracts. -/
import Derived.Test.YtkcoepeeamooiaaFk
import Derived.Lib.Bytes
set_option linter.unusedVariables false
set_option linter.unusedSimpArgs false
namespace Go.Proofs
open Go Go.Ab

theorem Try.put04R (p : Pl) (hp : p.ok) (h : p.right = true) : Fun Try.prog 12 [.d p.D] (.tup [.d (.sl (.ints .u8 p.bytes)), .d (.int .i64 0)]) := by
  have := Try.put04 p hp
  unfold encP at this; rw [if_pos h] at this; exact this
theorem Try.put04N (p : Pl) (hp : p.ok) (h : p.right = false) : Fun Try.prog 12 [.d p.D] (.tup [.d (.sl (.ints .u8 [])), .d (.int .i64 41)]) := by
  have := Try.put04 p hp
  unfold encP at this; rw [if_neg (by rw [h]; decide)] at this; exact this
theorem beq_refl_ba (a : ByteArray) : (a.toList == a.toList) = true := beq_self_eq_true _

set_option maxRecDepth 100000 in
set_option maxHeartbeats 1000000 in
theorem Try.law3 (p : Pl) (hp : p.ok) : Fun Try.prog 3 [.d p.D] (.d (.bool true)) := by
  refine Try.fun (fn := Try.f3) 3000 rfl rfl ?_
  (conv => whnf)
  refine ⟨rfl, ?_⟩
  refine Try.head.k (LEs.refl _) rfl ?_
  (conv => whnf)
  refine ⟨ble rfl, ?_⟩
  (conv => whnf)
  refine ⟨rfl, ?_⟩
  have R1 := Try.right p hp
  have R2 := Try.right04 p hp
  cases hr : p.right with
  | true =>
    rw [hr] at R1 R2
    refine (Try.putR p hp hr).kd rfl rfl ?_
    (conv => whnf)
    refine ⟨ble rfl, ?_⟩
    (conv => whnf)
    refine ⟨rfl, ?_⟩
    refine (Try.put04R p hp hr).kd rfl rfl ?_
    (conv => whnf)
    refine ⟨List.range 21, by kernel_rfl, ?_⟩
    (conv => whnf)
    refine ⟨ble rfl, ?_⟩
    (conv => whnf)
    refine And.intro rfl ?_
    (conv => whnf)
    refine R1.dd rfl rfl ?_
    (conv => whnf)
    refine ⟨ble rfl, ?_⟩
    (conv => whnf)
    refine And.intro rfl ?_
    (conv => whnf)
    refine R2.dd rfl rfl ?_
    (conv => whnf)
    refine btrue ?_ ?_
    · exact (beq_refl_ba _)
    (conv => whnf)
    exact leave_b rfl
  | false =>
    rw [hr] at R1 R2
    refine ((Try.putN p hp hr).res (LE.tup2 (.nil_d (.ints .u8 []) rfl) (.refl _))).kd rfl rfl ?_
    (conv => whnf)
    refine ⟨ble rfl, ?_⟩
    (conv => whnf)
    refine ⟨rfl, ?_⟩
    refine (Try.put04N p hp hr).kd rfl rfl ?_
    (conv => whnf)
    refine ⟨List.range 21, by kernel_rfl, ?_⟩
    (conv => whnf)
    refine ⟨ble rfl, ?_⟩
    (conv => whnf)
    refine And.intro rfl ?_
    (conv => whnf)
    refine R1.dd rfl rfl ?_
    (conv => whnf)
    refine ⟨ble rfl, ?_⟩
    (conv => whnf)
    refine And.intro rfl ?_
    (conv => whnf)
    refine R2.dd rfl rfl ?_
    (conv => whnf)
    refine btrue ?_ ?_
    · exact (beq_refl_ba _)
    (conv => whnf)
    exact leave_b rfl
set_option maxRecDepth 100000 in
set_option maxHeartbeats 1000000 in
theorem Try.law4 (b : List Int) (hb : Bytes b) : Fun Try.prog 4 [.d (.sl (.ints .u8 b))] (.d (.bool true)) := by
  refine Try.fun (fn := Try.f4) 4000 rfl rfl ?_
  (conv => whnf)
  refine ⟨rfl, ?_⟩
  refine Try.head.k (LEs.refl _) rfl ?_
  (conv => whnf)
  refine ⟨rfl, ?_⟩
  refine (Try.get b hb).kd rfl rfl ?_
  (conv => whnf)
  refine ⟨⟨rfl, ble rfl, rfl⟩, ?_⟩
  (conv => whnf)
  refine ⟨rfl, ?_⟩
  refine (Try.get04 b hb).kd rfl rfl ?_
  (conv => whnf)
  refine ⟨⟨rfl, ble rfl, rfl⟩, ?_⟩
  (conv => whnf)
  refine btrue (decide_eq_true rfl) ?_
  (conv => whnf)
  refine ⟨ble rfl, ?_⟩
  (conv => whnf)
  refine ⟨ble rfl, ?_⟩
  (conv => whnf)
  have ho : (decP b).1.ok := by
    rcases decP_cases b with h | h
    · exact (decP_of hb h).2.1
    · rw [h]; exact ⟨by decide, by decide, by decide, by simp [zeroPl], by simp [zeroPl], by simp [zeroPl], by simp [zeroPl]⟩
  refine ⟨rfl, ?_⟩
  refine (Try.same04 (decP b).1 (decP b).1 ho ho).kd rfl rfl ?_
  (conv => whnf)
  exact leave_b (decide_eq_true rfl)
set_option maxRecDepth 100000 in
set_option maxHeartbeats 1000000 in
theorem Try.law5 (p q : Pl) (x : Int) (hp : p.ok) (hq : q.ok) : Fun Try.prog 5 [.d p.D, .d q.D, .d (.int .i64 x)] (.d (.bool true)) := by
  refine Try.fun (fn := Try.f5) 0 rfl rfl ?_
  (conv => whnf)
  refine ⟨rfl, ?_⟩
  refine Try.head.k (LEs.refl _) rfl ?_
  (conv => whnf)
  refine ⟨List.range 25, by kernel_rfl, ?_⟩
  (conv => whnf)
  refine ⟨ble rfl, ?_⟩
  (conv => whnf)
  refine And.intro rfl ?_
  (conv => whnf)
  refine (Try.names p x).dd rfl rfl ?_
  (conv => whnf)
  refine ⟨ble rfl, ?_⟩
  (conv => whnf)
  refine And.intro rfl ?_
  (conv => whnf)
  refine (Try.names04 p x).dd rfl rfl ?_
  (conv => whnf)
  refine btrue ?_ ?_
  · exact (beq_self_eq_true _)
  (conv => whnf)
  refine ⟨ble rfl, ?_⟩
  (conv => whnf)
  refine ⟨ble rfl, ?_⟩
  (conv => whnf)
  refine And.intro rfl ?_
  (conv => whnf)
  refine (Try.samePl p q hp hq).dd rfl rfl ?_
  (conv => whnf)
  refine ⟨ble rfl, ?_⟩
  (conv => whnf)
  refine ⟨ble rfl, ?_⟩
  (conv => whnf)
  refine And.intro rfl ?_
  (conv => whnf)
  refine (Try.same04 p q hp hq).dd rfl rfl ?_
  (conv => whnf)
  refine btrue ?_ ?_
  · exact (beq_self_eq_true _)
  (conv => whnf)
  refine ⟨ble rfl, ?_⟩
  (conv => whnf)
  refine ⟨ble rfl, ?_⟩
  (conv => whnf)
  refine And.intro rfl ?_
  (conv => whnf)
  refine (Try.samePl p p hp hp).dd rfl rfl ?_
  (conv => whnf)
  exact leave_b (decide_eq_true rfl)
theorem byte_inj {x y : Int} (hx : 0 ≤ x ∧ x < 256) (hy : 0 ≤ y ∧ y < 256) (h : UInt8.ofNat x.toNat = UInt8.ofNat y.toNat) : x = y := by
  have := congrArg UInt8.toNat h
  simp only [UInt8.toNat_ofNat'] at this
  omega
theorem bytes_map_inj : ∀ {a b : List Int}, (∀ c ∈ a, 0 ≤ c ∧ c < 256) → (∀ c ∈ b, 0 ≤ c ∧ c < 256) → Go.Lib.bytesOf a = Go.Lib.bytesOf b → a = b
  | [], [], _, _, _ => rfl
  | [], y :: b, _, _, h => by simp [Go.Lib.bytesOf] at h
  | x :: a, [], _, _, h => by simp [Go.Lib.bytesOf] at h
  | x :: a, y :: b, ha, hb, h => by
    simp only [Go.Lib.bytesOf, List.map_cons, List.cons.injEq] at h
    rw [byte_inj (ha x (by simp)) (hb y (by simp)) h.1, bytes_map_inj (fun c hc => ha c (by simp [hc])) (fun c hc => hb c (by simp [hc])) h.2]
/-- Texts of bytes are the same where the bytes are. -/
theorem str_eq {a b : List Int} (ha : Bytes a) (hb : Bytes b) : ((strOfNums a).toList == (strOfNums b).toList) = decide (a = b) := by
  rw [Go.Lib.strOfNums_toList, Go.Lib.strOfNums_toList]
  by_cases h : a = b
  · subst h; simp
  · rw [decide_eq_false h]
    exact beq_false_of_ne fun e => h (bytes_map_inj ha.1 hb.1 e)
theorem Try.getBad (b : List Int) (hb : Bytes b) (h : decP b = (zeroPl, 41)) : Fun Try.prog 15 [.d (.sl (.ints .u8 b))] (.tup [.d zeroPl.D, .d (.int .i64 41)]) := by
  have := Try.get b hb
  rw [h] at this; exact this
set_option maxRecDepth 100000 in
set_option maxHeartbeats 1000000 in
theorem Try.law6 (p q : Pl) (b : List Int) (hp : p.ok) (hq : q.ok) (hb : Bytes b) : Fun Try.prog 6 [.d p.D, .d q.D, .d (.sl (.ints .u8 b))] (.d (.bool true)) := by
  refine Try.fun (fn := Try.f6) 6000 rfl rfl ?_
  (conv => whnf)
  refine ⟨rfl, ?_⟩
  refine Try.head.k (LEs.refl _) rfl ?_
  (conv => whnf)
  refine ⟨ble rfl, ?_⟩
  (conv => whnf)
  refine ⟨rfl, ?_⟩
  cases hr : p.right with
  | true =>
    refine (Try.putR p hp hr).kd rfl rfl ?_
    (conv => whnf)
    refine ⟨ble rfl, ?_⟩
    (conv => whnf)
    refine ⟨rfl, ?_⟩
    cases hs : q.right with
    | true =>
      refine (Try.putR q hq hs).kd rfl rfl ?_
      (conv => whnf)
      refine ⟨rfl, ?_⟩
      refine (Try.getR p hp hr).kd rfl rfl ?_
      (conv => whnf)
      refine ⟨⟨rfl, ble rfl, rfl⟩, ?_⟩
      (conv => whnf)
      refine ⟨ble rfl, ?_⟩
      (conv => whnf)
      refine ⟨ble rfl, ?_⟩
      (conv => whnf)
      refine ⟨rfl, ?_⟩
      refine (Try.same04 p p hp hp).kd rfl rfl ?_
      (conv => whnf)
      refine bfalse ?_ ?_
      · exact (by simp)
      (conv => whnf)
      refine ⟨List.range 17, by kernel_rfl, ?_⟩
      (conv => whnf)
      refine ⟨ble rfl, ?_⟩
      (conv => whnf)
      refine ⟨ble rfl, ?_⟩
      (conv => whnf)
      refine And.intro rfl ?_
      (conv => whnf)
      refine (Try.same04 p q hp hq).dd rfl rfl ?_
      (conv => whnf)
      refine bfalse (by
        rw [str_eq (Pl.bytes_ok hp hr).1 (Pl.bytes_ok hq hs).1]
        have := bytes_inj hp hr hq hs
        simp [this]) ?_
      (conv => whnf)
      rcases decP_cases b with h0 | h0
      · obtain ⟨g1, g2, g3⟩ := decP_of hb h0
        generalize (decP b).1 = z at g1 g2 g3
        subst g3
        refine ⟨rfl, ?_⟩
        refine (Try.getR z g2 g1).kd rfl rfl ?_
        (conv => whnf)
        refine ⟨⟨rfl, ble rfl, rfl⟩, ?_⟩
        (conv => whnf)
        refine ⟨ble rfl, ?_⟩
        (conv => whnf)
        refine ⟨rfl, ?_⟩
        refine (Try.putR z g2 g1).kd rfl rfl ?_
        (conv => whnf)
        exact leave_b (beq_refl_ba _)
      · refine ⟨rfl, ?_⟩
        refine (Try.getBad b hb h0).kd rfl rfl ?_
        (conv => whnf)
        refine ⟨⟨rfl, ble rfl, rfl⟩, ?_⟩
        (conv => whnf)
        exact leave_b rfl
    | false =>
      refine (Try.putN q hq hs).kd rfl rfl ?_
      (conv => whnf)
      refine ⟨rfl, ?_⟩
      refine (Try.getR p hp hr).kd rfl rfl ?_
      (conv => whnf)
      refine ⟨⟨rfl, ble rfl, rfl⟩, ?_⟩
      (conv => whnf)
      refine ⟨ble rfl, ?_⟩
      (conv => whnf)
      refine ⟨ble rfl, ?_⟩
      (conv => whnf)
      refine ⟨rfl, ?_⟩
      refine (Try.same04 p p hp hp).kd rfl rfl ?_
      (conv => whnf)
      refine bfalse ?_ ?_
      · exact (by simp)
      (conv => whnf)
      refine ⟨List.range 17, by kernel_rfl, ?_⟩
      (conv => whnf)
      rcases decP_cases b with h0 | h0
      · obtain ⟨g1, g2, g3⟩ := decP_of hb h0
        generalize (decP b).1 = z at g1 g2 g3
        subst g3
        refine ⟨rfl, ?_⟩
        refine (Try.getR z g2 g1).kd rfl rfl ?_
        (conv => whnf)
        refine ⟨⟨rfl, ble rfl, rfl⟩, ?_⟩
        (conv => whnf)
        refine ⟨ble rfl, ?_⟩
        (conv => whnf)
        refine ⟨rfl, ?_⟩
        refine (Try.putR z g2 g1).kd rfl rfl ?_
        (conv => whnf)
        exact leave_b (beq_refl_ba _)
      · refine ⟨rfl, ?_⟩
        refine (Try.getBad b hb h0).kd rfl rfl ?_
        (conv => whnf)
        refine ⟨⟨rfl, ble rfl, rfl⟩, ?_⟩
        (conv => whnf)
        exact leave_b rfl
  | false =>
    refine (Try.putN p hp hr).kd rfl rfl ?_
    (conv => whnf)
    refine ⟨ble rfl, ?_⟩
    (conv => whnf)
    refine ⟨rfl, ?_⟩
    cases hs : q.right with
    | true =>
      refine (Try.putR q hq hs).kd rfl rfl ?_
      (conv => whnf)
      refine ⟨List.range 17, by kernel_rfl, ?_⟩
      (conv => whnf)
      rcases decP_cases b with h0 | h0
      · obtain ⟨g1, g2, g3⟩ := decP_of hb h0
        generalize (decP b).1 = z at g1 g2 g3
        subst g3
        refine ⟨rfl, ?_⟩
        refine (Try.getR z g2 g1).kd rfl rfl ?_
        (conv => whnf)
        refine ⟨⟨rfl, ble rfl, rfl⟩, ?_⟩
        (conv => whnf)
        refine ⟨ble rfl, ?_⟩
        (conv => whnf)
        refine ⟨rfl, ?_⟩
        refine (Try.putR z g2 g1).kd rfl rfl ?_
        (conv => whnf)
        exact leave_b (beq_refl_ba _)
      · refine ⟨rfl, ?_⟩
        refine (Try.getBad b hb h0).kd rfl rfl ?_
        (conv => whnf)
        refine ⟨⟨rfl, ble rfl, rfl⟩, ?_⟩
        (conv => whnf)
        exact leave_b rfl
    | false =>
      refine (Try.putN q hq hs).kd rfl rfl ?_
      (conv => whnf)
      refine ⟨List.range 17, by kernel_rfl, ?_⟩
      (conv => whnf)
      rcases decP_cases b with h0 | h0
      · obtain ⟨g1, g2, g3⟩ := decP_of hb h0
        generalize (decP b).1 = z at g1 g2 g3
        subst g3
        refine ⟨rfl, ?_⟩
        refine (Try.getR z g2 g1).kd rfl rfl ?_
        (conv => whnf)
        refine ⟨⟨rfl, ble rfl, rfl⟩, ?_⟩
        (conv => whnf)
        refine ⟨ble rfl, ?_⟩
        (conv => whnf)
        refine ⟨rfl, ?_⟩
        refine (Try.putR z g2 g1).kd rfl rfl ?_
        (conv => whnf)
        exact leave_b (beq_refl_ba _)
      · refine ⟨rfl, ?_⟩
        refine (Try.getBad b hb h0).kd rfl rfl ?_
        (conv => whnf)
        refine ⟨⟨rfl, ble rfl, rfl⟩, ?_⟩
        (conv => whnf)
        exact leave_b rfl
set_option maxRecDepth 100000 in
set_option maxHeartbeats 1000000 in
theorem Try.law7 (p : Pl) (hp : p.ok) : Fun Try.prog 7 [.d p.D] (.d (.bool true)) := by
  refine Try.fun (fn := Try.f7) 0 rfl rfl ?_
  (conv => whnf)
  refine ⟨rfl, ?_⟩
  refine Try.head.k (LEs.refl _) rfl ?_
  (conv => whnf)
  refine loop_of (fun (i : Nat) => [.top, .ptr 0 0, .top, .d (.bool true), .d (.int .i64 ((List.range i).countP (fun (k : Nat) => p.names k) : Nat)), .d (.int .i64 i), .top, .top, .top, .top, .top, .top, .top, .top, .top, .top, .top, .top, .top, .top, .top, .top, .top, .top, .top, .top, .top, .top, .top, .top, .top, .top, .top, .top, .top, .top, .top, .top, .top, .top, .top, .top]) (fun _ => [some ⟨26, p.cells⟩]) (fun i => i ≤ 16) (fun i => 16 - i) 0 (Weak.of ⟨rfl, rfl, rfl, rfl, trivial⟩) (by simp) fun i hi => ?_
  (conv => whnf)
  have hf := names_few p i
  refine bsplit (fun h3 => ?_) (fun h3 => ?_) <;> (conv => whnf)
  · have h3 : (i : Int) < 16 := of_decide_eq_true h3
    refine ⟨ble rfl, ?_⟩
    (conv => whnf)
    refine ⟨rfl, ?_⟩
    refine (Try.names p i).kd rfl rfl ?_
    (conv => whnf)
    refine bsplit (fun h4 => ?_) (fun h4 => ?_) <;> (conv => whnf)
    · refine again (i + 1) (by omega) (Weak.of ⟨rfl, rfl, congrArg (fun x => AV.d (.int .i64 x)) ?_, congrArg (fun x => AV.d (.int .i64 x)) (wrap_i64 (x := (i : Int) + 1) (by omega) (by omega)), trivial⟩) (by omega)
      rw [wrap_i64 (by omega) (by omega), List.range_succ, List.countP_append]
      simp [h4]
    · refine again (i + 1) (by omega) (Weak.of ⟨rfl, rfl, congrArg (fun x => AV.d (.int .i64 x)) ?_, congrArg (fun x => AV.d (.int .i64 x)) (wrap_i64 (x := (i : Int) + 1) (by omega) (by omega)), trivial⟩) (by omega)
      rw [List.range_succ, List.countP_append]
      simp [h4]
  · refine btrue ?_ ?_
    · exact (decide_eq_true (by omega))
    (conv => whnf)
    refine ⟨ble rfl, ?_⟩
    (conv => whnf)
    refine ⟨rfl, ?_⟩
    refine (Try.names p (-1)).kd rfl rfl ?_
    (conv => whnf)
    refine bsplit (fun h4 => ?_) (fun h4 => ?_) <;> (conv => whnf)
    · exact leave_b rfl
    · have h4 : ¬ p.t < 0 := of_decide_eq_false h4
      refine bsplit (fun h5 => ?_) (fun h5 => ?_) <;> (conv => whnf)
      · exact leave_b rfl
      · refine ⟨ble rfl, ?_⟩
        (conv => whnf)
        refine ⟨rfl, ?_⟩
        refine (Try.names p p.t).kd rfl rfl ?_
        (conv => whnf)
        exact leave_b (by simp [Pl.names]; omega)
set_option maxRecDepth 100000 in
set_option maxHeartbeats 1000000 in
theorem Try.law8 (p : Pl) (cut more : Int) (hp : p.ok) (hc : 0 ≤ cut ∧ cut < 65536) (hm : 0 ≤ more ∧ more < 256) : Fun Try.prog 8 [.d p.D, .d (.int .u16 cut), .d (.int .u8 more)] (.d (.bool true)) := by
  refine Try.fun (fn := Try.f8) 8000 rfl rfl ?_
  (conv => whnf)
  refine ⟨rfl, ?_⟩
  refine Try.head.k (LEs.refl _) rfl ?_
  (conv => whnf)
  refine ⟨ble rfl, ?_⟩
  (conv => whnf)
  refine ⟨rfl, ?_⟩
  cases hr : p.right with
  | true =>
    refine (Try.putR p hp hr).kd rfl rfl ?_
    (conv => whnf)
    have hpos : 0 < p.bytes.length := List.length_pos_iff.2 (Pl.bytes_ne p)
    obtain ⟨hbb, hlen⟩ := Pl.bytes_ok hp hr
    have hw : IntKind.i64.wrap cut = cut := wrap_i64 (by omega) (by omega)
    rw [hw]
    refine ⟨by omega, ?_⟩
    (conv => whnf)
    have k0 := Int.tmod_nonneg (b := (p.bytes.length : Int)) hc.1
    have k1 := Int.tmod_lt_of_pos cut (b := (p.bytes.length : Int)) (by omega)
    generalize Int.tmod cut p.bytes.length = k at *
    refine ⟨rfl, ⟨by omega, by omega⟩, ?_⟩
    (conv => whnf)
    have hbk : Bytes (p.bytes.take k.toNat) := ⟨fun c hc => hbb.1 c (List.mem_of_mem_take hc), by simp; omega⟩
    refine ⟨rfl, ?_⟩
    refine (Try.getBad _ hbk (decP_cut hp hr (by omega))).kd rfl rfl ?_
    (conv => whnf)
    refine ⟨⟨rfl, ble rfl, rfl⟩, ?_⟩
    (conv => whnf)
    refine ⟨⟨ble rfl, by decide⟩, ?_⟩
    (conv => whnf)
    refine ⟨⟨by simp [L.len]; omega, by decide⟩, ?_⟩
    (conv => whnf)
    refine ⟨⟨ble rfl, by decide⟩, ?_⟩
    (conv => whnf)
    refine ⟨⟨by simp [L.len]; omega, by decide⟩, ?_⟩
    (conv => whnf)
    have hbm : Bytes (p.bytes ++ [more]) := ⟨fun c hc => by
      rcases List.mem_append.1 hc with hc | hc
      · exact hbb.1 c hc
      · simp at hc; omega, by simp; omega⟩
    refine ⟨rfl, ?_⟩
    refine (Try.getBad _ hbm (decP_more hp hr more)).kd rfl rfl ?_
    (conv => whnf)
    refine ⟨⟨rfl, ble rfl, rfl⟩, ?_⟩
    (conv => whnf)
    exact leave_b rfl
  | false =>
    refine (Try.putN p hp hr).kd rfl rfl ?_
    (conv => whnf)
    exact leave_b rfl
def percPl (t q x c : Int) : Pl := ⟨0, t, q, x, c, 0, 0, 0, 0, 0, [], []⟩
theorem perc_LE (t q x c : Int) : LE (.agg [.d (.int .i64 0), .d (.int .i64 t), .d (.int .i64 q), .d (.int .i64 x), .d (.int .i64 c), .d (.int .i64 0), .d (.int .i64 0), .d (.int .i64 0), .d (.int .u64 0), .d (.int .u64 0), .nils, .nils]) (.d (percPl t q x c).D) :=
  LE.aggD (.cons (.refl _) (.cons (.refl _) (.cons (.refl _) (.cons (.refl _) (.cons (.refl _) (.cons (.refl _) (.cons (.refl _) (.cons (.refl _) (.cons (.refl _) (.cons (.refl _) (.cons (.nil_d _ rfl) (.cons (.nil_d _ rfl) .nil))))))))))))
theorem rem_u8 {a m : Int} (h : 0 ≤ a ∧ a < 256) (hm : 0 < m) : 0 ≤ a.tmod m ∧ a.tmod m < m ∧ (m ≤ 256 → IntKind.i64.wrap (a.tmod m) = a.tmod m) := by
  have k0 := Int.tmod_nonneg (b := m) h.1
  have k1 := Int.tmod_lt_of_pos a hm
  exact ⟨k0, k1, fun hm' => wrap_i64 (by omega) (by omega)⟩
theorem names_of {p : Pl} {i : Int} (h : 0 ≤ i) (k : i = p.t ∨ (i = p.p ∧ p.pc < 100) ∨ i = p.s) : p.names i = true := by
  simp only [Pl.names, Bool.and_eq_true, Bool.or_eq_true, decide_eq_true_eq]
  omega
theorem names_prev {t q x c : Int} (h : 0 ≤ q) (h1 : ¬ q = t) (h2 : ¬ q = x) : (percPl t q x c).names q = decide (c < 100) := by
  show (decide (0 ≤ q) && (decide (q = t) || (decide (q = q) && decide (c < 100)) || decide (q = x))) = decide (c < 100)
  simp [h, h1, h2]
theorem beq_of {a b : Bool} (h : a = b) : (a == b) = true := by subst h; exact beq_self_eq_true _
set_option maxRecDepth 100000 in
set_option maxHeartbeats 1000000 in
theorem Try.law9 (t q x c : Int) (ht : 0 ≤ t ∧ t < 256) (hq : 0 ≤ q ∧ q < 256) (hx : 0 ≤ x ∧ x < 256) (hc : 0 ≤ c ∧ c < 256) : Fun Try.prog 9 [.d (.int .u8 t), .d (.int .u8 q), .d (.int .u8 x), .d (.int .u8 c)] (.d (.bool true)) := by
  refine Try.fun (fn := Try.f9) 0 rfl rfl ?_
  (conv => whnf)
  refine ⟨rfl, ?_⟩
  refine Try.head.k (LEs.refl _) rfl ?_
  (conv => whnf)
  refine ⟨by decide, ?_⟩
  (conv => whnf)
  refine ⟨by decide, ?_⟩
  (conv => whnf)
  refine ⟨by decide, ?_⟩
  (conv => whnf)
  refine ⟨by decide, ?_⟩
  (conv => whnf)
  refine ⟨⟨rfl, ble rfl, rfl⟩, ?_⟩
  (conv => whnf)
  have t' := rem_u8 ht (m := 16) (by decide)
  have q' := rem_u8 hq (m := 16) (by decide)
  have x' := rem_u8 hx (m := 17) (by decide)
  have c' := rem_u8 hc (m := 101) (by decide)
  rw [t'.2.2 (by decide), q'.2.2 (by decide), x'.2.2 (by decide), c'.2.2 (by decide), wrap_i64 (x := x.tmod 17 - 1) (by omega) (by omega)]
  generalize t.tmod 16 = t at *
  generalize q.tmod 16 = q at *
  generalize c.tmod 101 = c at *
  have hx1 : -1 ≤ x.tmod 17 - 1 := by omega
  generalize x.tmod 17 - 1 = x at hx1 ⊢
  refine bsplit (fun h1 => ?_) (fun h1 => ?_) <;> (conv => whnf)
  · have h1 : q = t := of_decide_eq_true h1
    refine ⟨ble rfl, ?_⟩
    (conv => whnf)
    refine ⟨rfl, ?_⟩
    refine (Try.names (percPl t q x c) q).k (.cons (perc_LE _ _ _ _) (.cons (.refl _) .nil)) rfl ?_
    (conv => whnf)
    refine btrue ?_ ?_
    · exact (beq_of (names_of (by show 0 ≤ q; omega) (.inl h1)))
    (conv => whnf)
    (conv => whnf)
    refine ⟨ble rfl, ?_⟩
    (conv => whnf)
    refine ⟨rfl, ?_⟩
    refine (Try.names (percPl t q x c) t).k (.cons (perc_LE _ _ _ _) (.cons (.refl _) .nil)) rfl ?_
    (conv => whnf)
    refine btrue ?_ ?_
    · exact (names_of (by show 0 ≤ t; omega) (.inl rfl))
    (conv => whnf)
    (conv => whnf)
    refine bsplit (fun h5 => ?_) (fun h5 => ?_) <;> (conv => whnf)
    · exact leave_b rfl
    · have h5 : ¬ x < 0 := of_decide_eq_false h5
      refine ⟨ble rfl, ?_⟩
      (conv => whnf)
      refine ⟨rfl, ?_⟩
      refine (Try.names (percPl t q x c) x).k (.cons (perc_LE _ _ _ _) (.cons (.refl _) .nil)) rfl ?_
      (conv => whnf)
      exact leave_b (names_of (by show 0 ≤ x; omega) (.inr (.inr rfl)))
  · have h1 : ¬ q = t := of_decide_eq_false h1
    refine bsplit (fun h2 => ?_) (fun h2 => ?_) <;> (conv => whnf)
    · have h2 : q = x := of_decide_eq_true h2
      refine ⟨ble rfl, ?_⟩
      (conv => whnf)
      refine ⟨rfl, ?_⟩
      refine (Try.names (percPl t q x c) q).k (.cons (perc_LE _ _ _ _) (.cons (.refl _) .nil)) rfl ?_
      (conv => whnf)
      refine btrue ?_ ?_
      · exact (beq_of (names_of (by show 0 ≤ q; omega) (.inr (.inr h2))))
      (conv => whnf)
      (conv => whnf)
      refine ⟨ble rfl, ?_⟩
      (conv => whnf)
      refine ⟨rfl, ?_⟩
      refine (Try.names (percPl t q x c) t).k (.cons (perc_LE _ _ _ _) (.cons (.refl _) .nil)) rfl ?_
      (conv => whnf)
      refine btrue ?_ ?_
      · exact (names_of (by show 0 ≤ t; omega) (.inl rfl))
      (conv => whnf)
      (conv => whnf)
      refine bsplit (fun h5 => ?_) (fun h5 => ?_) <;> (conv => whnf)
      · exact leave_b rfl
      · have h5 : ¬ x < 0 := of_decide_eq_false h5
        refine ⟨ble rfl, ?_⟩
        (conv => whnf)
        refine ⟨rfl, ?_⟩
        refine (Try.names (percPl t q x c) x).k (.cons (perc_LE _ _ _ _) (.cons (.refl _) .nil)) rfl ?_
        (conv => whnf)
        exact leave_b (names_of (by show 0 ≤ x; omega) (.inr (.inr rfl)))
    · have h2 : ¬ q = x := of_decide_eq_false h2
      refine ⟨ble rfl, ?_⟩
      (conv => whnf)
      refine ⟨rfl, ?_⟩
      refine (Try.names (percPl t q x c) q).k (.cons (perc_LE _ _ _ _) (.cons (.refl _) .nil)) rfl ?_
      (conv => whnf)
      refine btrue ?_ ?_
      · exact (beq_of (names_prev (by omega) h1 h2))
      (conv => whnf)
      (conv => whnf)
      refine ⟨ble rfl, ?_⟩
      (conv => whnf)
      refine ⟨rfl, ?_⟩
      refine (Try.names (percPl t q x c) t).k (.cons (perc_LE _ _ _ _) (.cons (.refl _) .nil)) rfl ?_
      (conv => whnf)
      refine btrue ?_ ?_
      · exact (names_of (by show 0 ≤ t; omega) (.inl rfl))
      (conv => whnf)
      (conv => whnf)
      refine bsplit (fun h5 => ?_) (fun h5 => ?_) <;> (conv => whnf)
      · exact leave_b rfl
      · have h5 : ¬ x < 0 := of_decide_eq_false h5
        refine ⟨ble rfl, ?_⟩
        (conv => whnf)
        refine ⟨rfl, ?_⟩
        refine (Try.names (percPl t q x c) x).k (.cons (perc_LE _ _ _ _) (.cons (.refl _) .nil)) rfl ?_
        (conv => whnf)
        exact leave_b (names_of (by show 0 ≤ x; omega) (.inr (.inr rfl)))
end Go.Proofs
