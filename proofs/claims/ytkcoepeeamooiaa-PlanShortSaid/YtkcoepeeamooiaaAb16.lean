/- The run over abstract states is sound: code. -/
import Derived.Test.YtkcoepeeamooiaaAb17
set_option linter.unusedVariables false
set_option linter.unusedSimpArgs false
namespace Go.Ab
open Go Classical

section
variable {P : Program} {ty : TypeId → Option TI} (hty : ∀ t i, ty t = some i → tyOf P t = some i) {tb n0 : Nat} {γ0 γ : Gh} {w0 w : World} {o : Oper} {fr : Fr} {H : Hp} {a : Act} {K : AV → Fr → Hp → Prop}

include hty in
theorem rx_sound {ops : Array Oper} {K' : Exit → Fr → Hp → Prop} : ∀ (rest : List Oper) (i : Nat) {γ : Gh} {fr : Fr} {H : Hp} {a : Act} {w : World}, ops.toList.drop i = rest → rx P ty tb n0 ops rest fr H (K' .normal) → St γ0 w0 n0 γ fr H a w → wpOps P ops (Post γ0 w0 n0 K') ((List.range ops.size).drop i) a w
  | [], i, γ, fr, H, a, w, hd, h, s => by
    have : ops.size ≤ i := by
      have := List.drop_eq_nil_iff.1 hd; simpa using this
    rw [List.drop_eq_nil_of_le (by simpa using this)]
    exact ⟨γ, fr, H, s, h⟩
  | o :: rest, i, γ, fr, H, a, w, hd, h, s => by
    have hlt : i < ops.size := by
      rcases Nat.lt_or_ge i ops.size with hl | hl
      · exact hl
      · rw [List.drop_eq_nil_of_le (by simpa using hl)] at hd; cases hd
    have hd' : ops.toList.drop i = ops[i] :: ops.toList.drop (i + 1) := by
      rw [List.drop_eq_getElem_cons (by simpa using hlt)]; simp
    rw [hd'] at hd
    injection hd with hd1 hd2
    have hr : (List.range ops.size).drop i = i :: (List.range ops.size).drop (i + 1) := by
      rw [List.drop_eq_getElem_cons (by simpa using hlt)]; simp
    rw [hr]
    simp only [wpOps, Array.getElem?_eq_getElem hlt, hd1]
    unfold rx at h
    have go : ∀ {γ' : Gh} {fr' : Fr} {H' : Hp} {v : Value} {r : AV} {w' : World}, rx P ty tb n0 ops rest (match o.dst with | some t => fr'.set t r | none => fr') H' (K' .normal) → Inv γ' H' w' → RAs γ' w' fr' a.tmps → RA γ' w' r v → Evo γ0 w0 γ' w' → wpOps P ops (Post γ0 w0 n0 K') ((List.range ops.size).drop (i + 1)) (a.put o.dst v) w' :=
      fun hk h1 h2 h3 h4 => rx_sound rest (i + 1) hd2 hk ⟨s.own0, s.n0, h1, put_sound h2 o.dst h3, h4, by rw [put_defers]; exact s.defers⟩
    rcases guard_sound s.fr h with ⟨hw, fr1, hf1, hy⟩ | ⟨hw, fr1, hf1, hs⟩
    · rw [if_pos hw]
      refine .inl (op_sound hty (o := o) ⟨s.own0, s.n0, s.inv, hf1, s.evo, s.defers⟩ hy fun γ' v r fr' H' w' hk h1 h2 h3 h4 => ?_)
      rw [forceA_eq, putx_eq] at hk
      exact go hk h1 h2 h3 h4
    · rw [if_neg (by simp [hw])]
      rw [putx_eq] at hs
      exact go hs s.inv hf1 (.tup [] #[] rfl (fun i h1 => by simp at h1)) s.evo

/-- A loop whose rounds lower a number. -/
theorem wp_loop_num {c : Code} {Q : Exit → Act → World → Prop} (J : Nat → Act → World → Prop) {n : Nat} {a : Act} {w : World} (h0 : J n a w)
    (round : ∀ n a w, J n a w → c.wp P (Exit.then (fun a' w' => ∃ m, m < n ∧ J m a' w') Q) a w) : (Code.loop c).wp P Q a w := by
  intro b k cs
  have key : ∀ n a w, J n a w → ∃ e a' w', Q e a' w' ∧ Arrives P (lone (b.at a (.code c :: .inLoop c :: k)) cs w) b k cs e a' w' := by
    intro n
    induction n using Nat.strongRecOn with
    | _ n ih =>
      intro a w hJ
      obtain ⟨e, a₁, w₁, hq, harr⟩ := round n a w hJ b (.inLoop c :: k) cs
      cases e with
      | normal =>
        obtain ⟨m, hlt, hJ₁⟩ := hq
        obtain ⟨e₂, a₂, w₂, hq₂, harr₂⟩ := ih m hlt a₁ w₁ hJ₁
        exact ⟨e₂, a₂, w₂, hq₂, .of_steps (Steps.trans harr (.one step_inLoop)) harr₂⟩
      | exit id => exact ⟨_, a₁, w₁, hq, .pass (x := .inLoop c) rfl (fun _ _ => .inl (by simp)) harr⟩
      | goto l => exact ⟨_, a₁, w₁, hq, .pass (x := .inLoop c) rfl (fun _ _ => .inl (by simp)) harr⟩
      | ret => exact ⟨_, a₁, w₁, hq, .pass (x := .inLoop c) rfl (fun _ _ => .inl (by simp)) harr⟩
      | panic ch => exact ⟨_, a₁, w₁, hq, .pass (x := .inLoop c) rfl (fun _ _ => .inl (by simp)) harr⟩
      | outgrown => exact ⟨_, a₁, w₁, hq, .pass (x := .inLoop c) rfl (fun _ _ => .inl (by simp)) harr⟩
  obtain ⟨e, a', w', hq, harr⟩ := key n a w h0
  exact ⟨e, a', w', hq, .of_steps (.one step_loop) harr⟩

include hty in
/-- Code. -/
theorem ex_sound (hmx : P.follows .mixedOrders = true) : ∀ (c : Code) (K : Exit → Fr → Hp → Prop) {γ : Gh} {fr : Fr} {H : Hp} {a : Act} {w : World}, ex P ty tb n0 c K fr H → St γ0 w0 n0 γ fr H a w → c.wp P (Post γ0 w0 n0 K) a w
  | .skip, K, γ, fr, H, a, w, h, s => wp_skip ⟨γ, fr, H, s, h⟩
  | .label _, K, γ, fr, H, a, w, h, s => wp_label ⟨γ, fr, H, s, h⟩
  | .exit id, K, γ, fr, H, a, w, h, s => wp_exit ⟨γ, fr, H, s, h⟩
  | .ret, K, γ, fr, H, a, w, h, s => wp_ret ⟨γ, fr, H, s, h⟩
  | .region id ops false, K, γ, fr, H, a, w, h, s => wp_region (by
      unfold ex at h
      split at h
      · obtain ⟨ids, h⟩ := h
        obtain ⟨γ', fr', H', s', h'⟩ := frzIds_sound ids h s
        have := rx_sound hty (K' := K) ops.toList 0 rfl h' s'
        simpa using this
      · have := rx_sound hty (K' := K) ops.toList 0 rfl h s
        simpa using this)
  | .seq x y, K, γ, fr, H, a, w, h, s => wp_seq (wp_mono (ex_sound hmx x _ h s) fun e a' w' ⟨γ', fr', H', s', hk⟩ => by
      cases e with
      | normal => exact ex_sound hmx y K hk s'
      | _ => exact ⟨γ', fr', H', s', hk⟩)
  | .cond c x y, K, γ, fr, H, a, w, h, s => by
    unfold ex at h
    have hc := eval_sound s.fr c
    split at h
    · rename_i t he
      rw [he] at hc
      generalize hcv : a.eval c = cv at hc
      cases hc with
      | d _ _ hc =>
        cases hc
        cases t with
        | true => exact wp_cond_true hcv (ex_sound hmx x K h s)
        | false => exact wp_cond_false hcv (ex_sound hmx y K h s)
    · exact h.elim
  | .block id c, K, γ, fr, H, a, w, h, s => wp_block (wp_mono (ex_sound hmx c _ h s) fun e a' w' ⟨γ', fr', H', s', hk⟩ => by
      cases e with
      | exit i =>
        simp only [Exit.inBlock]
        simp only at hk
        split at hk
        · rename_i e; rw [if_pos e]; exact ⟨γ', fr', H', s', hk⟩
        · rename_i e; rw [if_neg e]; exact ⟨γ', fr', H', s', hk⟩
      | _ => exact ⟨γ', fr', H', s', hk⟩)
  | .scope c, K, γ, fr, H, a, w, h, s => wp_scope_straight (wp_mono (ex_sound hmx c _ h s) fun e a' w' ⟨γ', fr', H', s', hk⟩ => by
      cases e with
      | goto l => exact hk.elim
      | _ => exact ⟨γ', fr', H', s', hk⟩)
  | .loop c, K, γ, fr, H, a, w, h, s => by
    unfold ex at h
    obtain ⟨I, ⟨n, fr1, H1, hw, hI⟩, hround⟩ := h
    obtain ⟨γ1, i1, f1, e1⟩ := weak_sound s.n0 hw s.inv s.fr s.evo
    refine wp_loop_num (fun n a w => ∃ γ fr H, St γ0 w0 n0 γ fr H a w ∧ I n fr H) ⟨γ1, fr1, H1, ⟨s.own0, s.n0, i1, f1, e1, s.defers⟩, hI⟩ fun n a w ⟨γ, fr, H, s, hI⟩ => ?_
    refine wp_mono (ex_sound hmx c _ (hround n fr H hI) s) fun e a' w' ⟨γ', fr', H', s', hk⟩ => ?_
    cases e with
    | normal =>
      obtain ⟨m, fr2, H2, hlt, hw2, hI2⟩ := hk
      obtain ⟨γ2, i2, f2, e2⟩ := weak_sound s'.n0 hw2 s'.inv s'.fr s'.evo
      exact ⟨m, hlt, γ2, fr2, H2, ⟨s'.own0, s'.n0, i2, f2, e2, s'.defers⟩, hI2⟩
    | _ => exact ⟨γ', fr', H', s', hk⟩
  | .goto l, K, γ, fr, H, a, w, h, s => by unfold ex at h; exact h.elim
  | .rangeFunc .., K, γ, fr, H, a, w, h, s => by unfold ex at h; exact h.elim
  | .region id ops true, K, γ, fr, H, a, w, h, s => draw_sound hty hmx (by unfold ex at h; exact h) s
  | .refuse _, K, γ, fr, H, a, w, h, s => by unfold ex at h; exact h.elim
end
end Go.Ab
