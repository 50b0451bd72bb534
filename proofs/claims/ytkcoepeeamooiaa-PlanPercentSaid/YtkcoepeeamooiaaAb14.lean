/- The run over abstract states is sound: functions; calls that see the caller's blocks. -/
import Derived.Test.YtkcoepeeamooiaaAb16
set_option linter.unusedVariables false
set_option linter.unusedSimpArgs false
namespace Go.Ab
open Go

section
variable {P : Program} {ty : TypeId → Option TI} (hty : ∀ t i, ty t = some i → tyOf P t = some i)

/-- A result's value. -/
def resV (tmps : Array Value) : ResultVar → Sem Value
  | .tmp t => pure (tmps.getD t undef)
  | .cell a t => do loadVar t (← asAddr (tmps.getD a undef))
include hty in
theorem res1_sound {γ : Gh} {H : Hp} {w : World} {fr : Fr} {tmps : Array Value} (hI : Inv γ H w) (hf : RAs γ w fr tmps) {rv : ResultVar} {r : AV} (h : res1 ty fr H rv = some r) :
    ∃ v, (resV tmps rv).run P w = .ok v w ∧ RA γ w r v := by
  have hev : ∀ t, RA γ w (geta fr t) (tmps.getD t undef) := fun t => eval_sound (a := ⟨tmps, []⟩) hf (.tmp t)
  cases rv with
  | tmp t =>
    simp only [res1, Option.some.injEq] at h; subst h
    exact ⟨_, by simp only [resV, Sem.run_pure], hev t⟩
  | cell p t =>
    unfold res1 at h
    have hp := hev p
    generalize hpv : tmps.getD p undef = pv at hp
    simp only at h
    split at h
    · rename_i i id off hi he
      rw [he] at hp
      obtain ⟨inf, z, d, h1, h2, h3, h4, h5, h6, h7, h8, h9⟩ := ty_parts (hty _ _ hi)
      have hag := agg_of d h9
      rw [← h7] at hag
      split at h
      · rename_i B hB
        cases hp with
        | ptr _ _ b hl =>
          obtain ⟨b', cs, e1, e2, e3, e4⟩ := hI.blk id B hB
          rw [hl] at e1; injection e1 with e1; subst e1
          split at h
          · rename_i hg
            split at h
            · rename_i hle
              injection h with h; subst h
              rw [hg] at hag
              refine ⟨.agg ((List.range inf.size).map fun j => cs[off + j]!).toArray, ?_, .agg _ _ (by simp [h5]; omega) fun j j1 j2 => ?_⟩
              · have := run_loadVar_agg (P := P) h1 h2 hag.symm w b off (fun j => cs[off + j]!) (fun j hj => by
                  rw [cell_of_heap e2]
                  have : off + j < cs.size := by rw [← e3]; omega
                  simp [this])
                simp only [resV, Sem.run_bind, hpv, asAddr, Sem.run_pure, Result.andThen_ok]; exact this
              · simp at j1 j2
                have : off + j < cs.size := by rw [← e3]; omega
                simp [this]
                exact e4 (off + j) (by omega) this
            · cases h
          · rename_i hg
            have hg' : i.k.agg = false := by simpa using hg
            rw [hg'] at hag
            obtain ⟨hlt, rfl⟩ := List.getElem?_eq_some_iff.1 h
            have hlt' : off < cs.size := by rw [← e3]; exact hlt
            refine ⟨cs[off], ?_, e4 off hlt hlt'⟩
            have := run_loadVar_one (P := P) h2 hag.symm w b off cs[off] (by rw [cell_of_heap e2]; simp [hlt'])
            simp only [resV, Sem.run_bind, hpv, asAddr, Sem.run_pure, Result.andThen_ok]; exact this
      · cases h
    · cases h
include hty in
theorem resx_sound {γ : Gh} {H : Hp} {w : World} {fr : Fr} {tmps : Array Value} (hI : Inv γ H w) (hf : RAs γ w fr tmps) : ∀ {l : List ResultVar} {rs : List AV}, resx ty fr H l = some rs →
    ∃ vs : List Value, (l.mapM (m := Sem) (resV tmps)).run P w = .ok vs w ∧ RAs γ w rs vs.toArray
  | [], rs, h => by simp [resx] at h; subst h; exact ⟨[], by simp, rfl, fun i h1 => by simp at h1⟩
  | r :: l, rs, h => by
    unfold resx at h
    split at h
    · rename_i v vs hv hvs
      injection h with h; subst h
      obtain ⟨u, h1, h2⟩ := res1_sound hty hI hf hv
      obtain ⟨us, h3, h4⟩ := resx_sound hI hf hvs
      refine ⟨u :: us, ?_, by have := h4.1; simp at this ⊢; exact this, fun i j1 j2 => ?_⟩
      · rw [List.mapM_cons, Sem.run_bind, h1]; simp [h3]
      · cases i with
        | zero => exact h2
        | succ i => exact h4.2 i (by simpa using j1) (by simpa using j2)
    · cases h
include hty in
/-- A function, by the run of its code. -/
theorem trip_of_ex (hmx : P.follows .mixedOrders = true) {f : FuncId} {fn : Func} {c : Code} {as : List AV} {H : Hp} {Q : AV → Hp → Prop} (tb : Nat) (hf : P.funcs[f]? = some fn) (hb : fn.body = some c)
    (h : ex P ty tb H.length c (endx ty fn (leave H.length Q)) (as ++ List.replicate (fn.ntmps - as.length) (.tup [])) H) : Trip P f as H Q := by
  intro γ w vs hI hA
  refine calls_of_wp hf hb ?_
  have hfr : RAs γ w (as ++ List.replicate (fn.ntmps - as.length) (.tup [])) (vs ++ Array.replicate (fn.ntmps - vs.size) undef) := by
    refine ⟨by simp [hA.1], fun i h1 h2 => ?_⟩
    rcases Nat.lt_or_ge i as.length with hi | hi
    · rw [List.getElem_append_left hi, Array.getElem_append_left (by rw [← hA.1]; exact hi)]; exact hA.2 i hi _
    · rw [List.getElem_append_right hi, Array.getElem_append_right (by rw [← hA.1]; exact hi)]
      simp only [List.getElem_replicate, Array.getElem_replicate]
      exact .tup [] #[] rfl (fun i h1 => by simp at h1)
  refine wp_mono (ex_sound hty hmx (γ0 := γ) (w0 := w) c _ h ⟨hI.own, fun i b hi => hI.live_lt hi, hI, hfr, Evo.refl _ _, rfl⟩) fun e a w' ⟨γ', fr', H', s, hk⟩ => ?_
  have fin : (match resx ty fr' H' fn.results.toList with | some vs => seqA vs fun vs => (match vs with | [v] => leave H.length Q v H' | vs => leave H.length Q (.tup vs) H') | none => False) → bodyPost P fn (fun e w' => ∃ γ' r v H', e = .returned v ∧ Inv γ' H' w' ∧ RA γ' w' r v ∧ Evo γ w γ' w' ∧ Q r H') .ret a w' := by
    intro hk
    split at hk
    · rename_i rs hrs
      rw [seqA_eq] at hk
      obtain ⟨us, h1, h2⟩ := resx_sound hty s.inv s.fr hrs
      have hres : (results fn a.tmps).run P w' = .ok (if h : us.toArray.size = 1 then us.toArray[0] else .tuple us.toArray) w' := by
        have e : results fn a.tmps = (do let vs ← fn.results.mapM (resV a.tmps); pure (if h : vs.size = 1 then vs[0] else .tuple vs)) := rfl
        rw [e, Sem.run_bind, Array.mapM_eq_mapM_toList, Sem.run_map, h1]
        rfl
      have close : ∀ {r : AV} {v : Value}, RA γ' w' r v → (results fn a.tmps).run P w' = .ok v w' → leave H.length Q r H' → bodyPost P fn (fun e w' => ∃ γ' r v H', e = .returned v ∧ Inv γ' H' w' ∧ RA γ' w' r v ∧ Evo γ w γ' w' ∧ Q r H') .ret a w' := by
        intro r v hr hv ⟨r', H'', hw, hq⟩
        obtain ⟨γ2, i2, f2, e2⟩ := weak_sound s.n0 hw s.inv (RAs.one hr) s.evo
        exact ⟨s.defers, v, hv, γ2, r', v, H'', rfl, i2, f2.2 0 (by simp) (by simp), e2, hq⟩
      split at hk
      · rename_i v
        have hl : us.length = 1 := by have := h2.1; simp at this; omega
        obtain ⟨u, rfl⟩ : ∃ u, us = [u] := by
          cases us with
          | nil => simp at hl
          | cons u us' => cases us' with
            | nil => exact ⟨u, rfl⟩
            | cons _ _ => simp at hl
        exact close (h2.2 0 (by simp) (by simp)) (by rw [hres]; rfl) hk
      · rename_i hno
        have hl : us.length ≠ 1 := fun hl => by
          have := h2.1; simp at this
          match rs, this.trans hl with
          | [v], _ => exact hno v rfl
        exact close (.tup rs us.toArray h2.1 h2.2) (by rw [hres, dif_neg (by simpa using hl)]) hk
    · exact hk.elim
  cases e with
  | normal => exact fin hk
  | ret => exact fin hk
  | _ => exact hk.elim
end

/-! ### a call that sees its caller's blocks -/
/-- The callee's ghost state: what has no tag of tg is another's. -/
def Gh.mask (γ : Gh) (tg : Nat → Bool) : Gh :=
  { live := γ.live
    own := fun b => match γ.own b with
      | some (some g, l) => if tg g then some (some g, l) else some (none, l)
      | x => x }
def Gh.unmask (γ γ' : Gh) (tg : Nat → Bool) : Gh :=
  { live := γ'.live
    own := fun b => match γ.own b with
      | some (some g, l) => if tg g then γ'.own b else some (some g, l)
      | _ => γ'.own b }
theorem CallP.shared {P : Program} {f : FuncId} {as : List AV} {fr : Fr} {H : Hp} {K : AV → Fr → Hp → Prop} (tg : Nat → Bool) {Q : AV → Hp → Prop} (hT : Trip P f as H Q)
    (hc : cleans (fun g => !tg g) no as = true) (hcH : cleanH (fun g => !tg g) no H) (hK : ∀ r H', Q r H' → K r (weaks tg no fr) H') : CallP P f as fr H K := by
  intro γ w vs tm hI hA hF
  have hxm : Ext (fun g => !tg g) no γ w (γ.mask tg) w := by
    refine ⟨fun b o v h1 h2 => ⟨⟨h1.1, fun t l ht => ?_⟩, h2⟩, fun _ _ _ h => h, fun b g l cs e hg h1 h2 => ⟨?_, cs, h2, rfl⟩⟩
    · simp only [Gh.mask] at ht
      split at ht
      · rename_i g l0 ho
        have := h1.2 _ _ ho
        split at ht <;> (injection ht with ht; injection ht with _ ht; omega)
      · exact h1.2 t l ht
    · have hg' : tg g = true := by simpa using hg
      simp only [Gh.mask, h1, hg', if_true]
  have hIm : Inv (γ.mask tg) H w := by
    refine ⟨hI.dom, fun i B hB => ?_, hI.inj, fun b x hb => ?_, fun b g l hb => ?_⟩
    · obtain ⟨b, cs, h1, h2, h3, h4⟩ := hI.blk i B hB
      exact ⟨b, cs, h1, h2, h3, fun j j1 j2 => (h4 j j1 j2).mono hxm (cleans_at (hcH i B hB) j j1)⟩
    · simp only [Gh.mask] at hb
      cases ho : γ.own b with
      | none => rw [ho] at hb; cases hb
      | some y => exact hI.own b y ho
    · simp only [Gh.mask] at hb
      split at hb
      · rename_i g0 l0 ho
        split at hb
        · injection hb with hb; injection hb with hb1 hb2; injection hb1 with hb1; subst hb1; subst hb2
          exact hI.tag b _ _ ho
        · cases hb
      · exact hI.tag b g l hb
  refine (hT (γ.mask tg) w vs hIm (hA.mono hxm hc)).mono fun e w' ⟨γ', r, v, H', he, hI', hr, hE, hQ⟩ => ?_
  -- what the callee left alone
  have m_none : ∀ b, γ.own b = none → (γ.mask tg).own b = none := fun b h => by simp only [Gh.mask, h]
  have m_out : ∀ b l, γ.own b = some (none, l) → (γ.mask tg).own b = some (none, l) := fun b l h => by simp only [Gh.mask, h]
  have m_keep : ∀ b g l, γ.own b = some (some g, l) → tg g = false → (γ.mask tg).own b = some (none, l) := fun b g l h hg => by simp [Gh.mask, h, hg]
  have m_tip : ∀ b g l, γ.own b = some (some g, l) → tg g = true → (γ.mask tg).own b = some (some g, l) := fun b g l h hg => by simp [Gh.mask, h, hg]
  have q_keep : ∀ b g l, γ.own b = some (some g, l) → tg g = false → w'.heap[b]? = w.heap[b]? ∧ γ'.own b = some (none, l) := fun b g l ho hg => by
    have := hE.same b (hI.own _ _ ho).1 (hI.own _ _ ho).2 (fun g' l' => by rw [m_keep b g l ho hg]; simp)
    rw [m_keep b g l ho hg] at this; exact this
  have u_keep : ∀ b g l, γ.own b = some (some g, l) → tg g = false → (γ.unmask γ' tg).own b = some (some g, l) := fun b g l ho hg => by simp [Gh.unmask, ho, hg]
  have u_tip : ∀ b g l, γ.own b = some (some g, l) → tg g = true → (γ.unmask γ' tg).own b = γ'.own b := fun b g l ho hg => by simp [Gh.unmask, ho, hg]
  have u_none : ∀ b, γ.own b = none → (γ.unmask γ' tg).own b = γ'.own b := fun b ho => by simp [Gh.unmask, ho]
  have u_out : ∀ b l, γ.own b = some (none, l) → (γ.unmask γ' tg).own b = γ'.own b := fun b l ho => by simp [Gh.unmask, ho]
  have back : ∀ b t l, (γ.unmask γ' tg).own b = some (t, l) → ∃ t', γ'.own b = some (t', l) := fun b t l h => by
    cases ho : γ.own b with
    | none => rw [u_none b ho] at h; exact ⟨t, h⟩
    | some y =>
      obtain ⟨t0, l0⟩ := y
      cases t0 with
      | none => rw [u_out b l0 ho] at h; exact ⟨t, h⟩
      | some g =>
        cases hg : tg g with
        | true => rw [u_tip b g l0 ho hg] at h; exact ⟨t, h⟩
        | false => rw [u_keep b g l0 ho hg] at h; injection h with h; injection h with _ h; subst h; exact ⟨_, (q_keep b g l0 ho hg).2⟩
  have hxu : Ext no no γ' w' (γ.unmask γ' tg) w' := by
    refine ⟨fun b o v h1 h2 => ⟨⟨h1.1, fun t l ht => ?_⟩, h2⟩, fun _ _ _ h => h, fun b g l cs e _ h1 h2 => ⟨?_, cs, h2, rfl⟩⟩
    · obtain ⟨t', ht'⟩ := back b t l ht; exact h1.2 _ _ ht'
    · cases ho : γ.own b with
      | none => rw [u_none b ho]; exact h1
      | some y =>
        obtain ⟨t0, l0⟩ := y
        cases t0 with
        | none => rw [u_out b l0 ho]; exact h1
        | some g0 =>
          cases hg : tg g0 with
          | true => rw [u_tip b g0 l0 ho hg]; exact h1
          | false => rw [(q_keep b g0 l0 ho hg).2] at h1; cases h1
  have hx : Ext tg no γ w (γ.unmask γ' tg) w' := by
    refine ⟨fun b o v h1 h2 => ?_, fun i b _ hi => hE.live i b hi, fun b g l cs e hg h1 h2 => ?_⟩
    · have hb := cell_lt h2
      have hnl : ∀ i, (γ.unmask γ' tg).live i ≠ some b := fun i hi => by
        rcases hE.new i b hi with h | h
        · exact h1.1 i h
        · omega
      cases ho : γ.own b with
      | none =>
        have hs := hE.same b hb h1.1 (fun g l => by rw [m_none b ho]; simp)
        rw [m_none b ho] at hs
        exact ⟨⟨hnl, fun t l ht => by rw [u_none b ho, hs.2] at ht; cases ht⟩, by rw [World.cell?_of_block (w := w) (a := ⟨b, o, none⟩) hs.1]; exact h2⟩
      | some y =>
        obtain ⟨t0, l0⟩ := y
        have hol := h1.2 _ _ ho
        cases t0 with
        | none =>
          have hs := hE.same b hb h1.1 (fun g l => by rw [m_out b l0 ho]; simp)
          rw [m_out b l0 ho] at hs
          exact ⟨⟨hnl, fun t l ht => by rw [u_out b l0 ho, hs.2] at ht; injection ht with ht; injection ht with _ ht; omega⟩, by rw [World.cell?_of_block (w := w) (a := ⟨b, o, none⟩) hs.1]; exact h2⟩
        | some g =>
          cases hg : tg g with
          | false =>
            obtain ⟨k1, k2⟩ := q_keep b g l0 ho hg
            exact ⟨⟨hnl, fun t l ht => by rw [u_keep b g l0 ho hg] at ht; injection ht with ht; injection ht with _ ht; omega⟩, by rw [World.cell?_of_block (w := w) (a := ⟨b, o, none⟩) k1]; exact h2⟩
          | true =>
            obtain ⟨k1, k2⟩ := hE.tip b g l0 (m_tip b g l0 ho hg)
            obtain ⟨cs, e, c1, c2⟩ := hI.tag b g l0 ho
            obtain ⟨cs', d1, d2, d3⟩ := k1 cs e c1
            refine ⟨⟨hnl, fun t l ht => ?_⟩, ?_⟩
            · rw [u_tip b g l0 ho hg] at ht; have := k2 t l ht; omega
            · rw [cell_of_heap d1, d3 o hol]; rw [cell_of_heap c1] at h2; exact h2
    · obtain ⟨k1, k2⟩ := q_keep b g l h1 hg
      exact ⟨u_keep b g l h1 hg, cs, by rw [k1]; exact h2, rfl⟩
  refine ⟨γ.unmask γ' tg, r, v, _, H', he, ⟨hI'.dom, fun i B hB => ?_, hI'.inj, fun b x hb => ?_, fun b g l hb => ?_⟩, hr.mono hxu (AV.clean_no' _), (hF.weak tg no).mono hx (weaks_clean _ _ _), ?_, hK r H' hQ⟩
  · obtain ⟨b, cs, h1, h2, h3, h4⟩ := hI'.blk i B hB
    exact ⟨b, cs, h1, h2, h3, fun j j1 j2 => (h4 j j1 j2).mono hxu (AV.clean_no' _)⟩
  · obtain ⟨t, l⟩ := x
    obtain ⟨t', ht'⟩ := back b t l hb
    exact hI'.own b _ ht'
  · cases ho : γ.own b with
    | none => rw [u_none b ho] at hb; exact hI'.tag b g l hb
    | some y =>
      obtain ⟨t0, l0⟩ := y
      cases t0 with
      | none => rw [u_out b l0 ho] at hb; exact hI'.tag b g l hb
      | some g0 =>
        cases hg : tg g0 with
        | true => rw [u_tip b g0 l0 ho hg] at hb; exact hI'.tag b g l hb
        | false =>
          rw [u_keep b g0 l0 ho hg] at hb
          injection hb with hb; injection hb with hb1 hb2; subst hb2
          obtain ⟨cs, e, c1, c2⟩ := hI.tag b g0 l0 ho
          exact ⟨cs, e, by rw [(q_keep b g0 l0 ho hg).1]; exact c1, c2⟩
  · refine ⟨hE.os, hE.tape, hE.output, hE.size, fun b hb hn ho => ?_, fun b g l ho => ?_, hE.live, hE.new, fun b x hb => ?_⟩
    · cases h1 : γ.own b with
      | none =>
        have hs := hE.same b hb hn (fun g l => by rw [m_none b h1]; simp)
        rw [m_none b h1] at hs
        exact ⟨hs.1, by rw [u_none b h1]; exact hs.2⟩
      | some y =>
        obtain ⟨t0, l0⟩ := y
        cases t0 with
        | none =>
          have hs := hE.same b hb hn (fun g l => by rw [m_out b l0 h1]; simp)
          rw [m_out b l0 h1] at hs
          exact ⟨hs.1, by rw [u_out b l0 h1]; exact hs.2⟩
        | some g => exact absurd h1 (ho g l0)
    · cases hg : tg g with
      | false =>
        obtain ⟨k1, k2⟩ := q_keep b g l ho hg
        refine ⟨fun cs e hc => ⟨cs, by rw [k1]; exact hc, rfl, fun _ _ => rfl⟩, fun t l' ht => ?_⟩
        rw [u_keep b g l ho hg] at ht; injection ht with ht; injection ht with _ ht; omega
      | true =>
        obtain ⟨k1, k2⟩ := hE.tip b g l (m_tip b g l ho hg)
        exact ⟨k1, fun t l' ht => k2 t l' (by rw [← u_tip b g l ho hg]; exact ht)⟩
    · obtain ⟨t, l⟩ := x
      obtain ⟨t', ht'⟩ := back b t l hb
      rcases hE.nown b _ ht' with h | h
      · refine .inl fun e => h (m_none b e)
      · exact .inr h
/-- Arguments may be told weaker. -/
theorem CallP.weak {P : Program} {f : FuncId} {as as' : List AV} {fr : Fr} {H : Hp} {K : AV → Fr → Hp → Prop} (hw : LEs as as') (h : CallP P f as' fr H K) : CallP P f as fr H K :=
  fun γ w vs tm hI hA hF => h γ w vs tm hI (hw.sound hA) hF
theorem CallP.mono {P : Program} {f : FuncId} {as : List AV} {fr : Fr} {H : Hp} {K K' : AV → Fr → Hp → Prop} (h : CallP P f as fr H K) (hk : ∀ r fr H, K r fr H → K' r fr H) : CallP P f as fr H K' :=
  fun γ w vs tm hI hA hF => (h γ w vs tm hI hA hF).mono fun e w' ⟨γ', r, v, fr', H', a1, a2, a3, a4, a5, a6⟩ => ⟨γ', r, v, fr', H', a1, a2, a3, a4, a5, hk _ _ _ a6⟩
theorem Trip.mono {P : Program} {f : FuncId} {as : List AV} {H : Hp} {Q Q' : AV → Hp → Prop} (h : Trip P f as H Q) (hq : ∀ r H, Q r H → Q' r H) : Trip P f as H Q' :=
  fun γ w vs hI hA => (h γ w vs hI hA).mono fun e w' ⟨γ', r, v, H', a1, a2, a3, a4, a5⟩ => ⟨γ', r, v, H', a1, a2, a3, a4, hq _ _ a5⟩
theorem Trip.weak {P : Program} {f : FuncId} {as as' : List AV} {H : Hp} {Q : AV → Hp → Prop} (hw : LEs as as') (h : Trip P f as' H Q) : Trip P f as H Q :=
  fun γ w vs hI hA => h γ w vs hI (hw.sound hA)
end Go.Ab
