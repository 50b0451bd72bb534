/- The run over abstract states is sound: regions whose order is drawn, whole. -/
import Derived.Test.YtkcoepeeamooiaaAb15
set_option linter.unusedVariables false
set_option linter.unusedSimpArgs false
namespace Go.Ab
open Go Classical

section
variable {P : Program} {ty : TypeId → Option TI} (hty : ∀ t i, ty t = some i → tyOf P t = some i) {tb n0 : Nat} {γ0 γ : Gh} {w0 w : World} {o : Oper} {fr : Fr} {H : Hp} {a : Act} {K : AV → Fr → Hp → Prop}

theorem opd_opx {ops : Array Oper} {i : Nat} (h : opd P ty tb n0 ops i o fr H K) : opx P ty tb n0 o fr H K := by
  unfold opd at h
  split at h
  · rename_i f args ts ho
    split at h
    · rename_i g caps he
      obtain ⟨hen, h⟩ := h
      unfold opx; rw [ho]; simp only
      rw [he]
      refine ⟨hen, ?_⟩
      rw [seqA_eq] at h ⊢
      rcases h with ⟨as', v, h1, h2, h3⟩ | ⟨_, h⟩
      · intro γ w vs tm hI ha hf
        refine (h2 fr H (Hle.refl H) γ w vs tm hI (h1.sound ha) hf).mono fun e w' ⟨γ', r, v', fr', H', e1, i1, r1, f1, ev, hr, hfr, hH⟩ => ?_
        subst hr; subst hfr; subst hH
        exact ⟨γ', r, v', fr', H', e1, i1, r1, f1, ev, h3⟩
      · exact h
    · exact h.elim
  · split at h
    · exact h.elim
    · exact h
  · exact h

include hty in
theorem stepd_sound {ops : Array Oper} {i : Nat} (hi : ops[i]? = some o) {K : Fr → Hp → Prop} (h : stepd P ty tb n0 ops i o fr H K) (s : St γ0 w0 n0 γ fr H a w) {next : Act → World → Prop} {Q : Exit → Act → World → Prop}
    (hK : ∀ γ' fr' H' a' w', K fr' H' → St γ0 w0 n0 γ' fr' H' a' w' → next a' w') : wpOp P ops Q i next a w := by
  unfold stepd at h
  unfold wpOp
  simp only [hi]
  rcases guard_sound s.fr h with ⟨hw, fr1, hf1, hy⟩ | ⟨hw, fr1, hf1, hs⟩
  · rw [if_pos hw]
    refine .inl (op_sound hty (o := o) ⟨s.own0, s.n0, s.inv, hf1, s.evo, s.defers⟩ (opd_opx hy) fun γ' v r fr' H' w' hk h1 h2 h3 h4 => ?_)
    rw [forceA_eq, putx_eq] at hk
    exact hK _ _ _ _ _ hk ⟨s.own0, s.n0, h1, put_sound h2 o.dst h3, h4, by rw [put_defers]; exact s.defers⟩
  · rw [if_neg (by simp [hw])]
    rw [putx_eq] at hs
    exact hK _ _ _ _ _ hs ⟨s.own0, s.n0, s.inv, put_sound hf1 o.dst (.tup [] #[] rfl (fun i h1 => by simp at h1)), s.evo, by rw [put_defers]; exact s.defers⟩

/-! ### What is ahead of an operation -/
theorem fold_bits {acc : List Nat} {j : Nat} : ∀ (l : List Edge) (s : Nat), (l.foldl (fun s e => if Region.binds .any e then s ||| 2 ^ e.on ||| acc.getD e.on 0 else s) s).testBit j = true →
    s.testBit j = true ∨ ∃ e ∈ l, Region.binds .any e = true ∧ (e.on = j ∨ (acc.getD e.on 0).testBit j = true)
  | [], s, h => .inl h
  | e :: l, s, h => by
    rw [List.foldl_cons] at h
    rcases fold_bits l _ h with h1 | ⟨e', he', h2⟩
    · split at h1
      · rename_i hb
        rw [Nat.testBit_or, Nat.testBit_or, Bool.or_eq_true, Bool.or_eq_true] at h1
        rcases h1 with (h1 | h1) | h1
        · exact .inl h1
        · rw [Nat.testBit_two_pow] at h1
          exact .inr ⟨e, by simp, hb, .inl (by simpa using h1)⟩
        · exact .inr ⟨e, by simp, hb, .inr h1⟩
      · exact .inl h1
    · exact .inr ⟨e', by simp [he'], h2⟩
/-- What binds operation k is in the set. -/
def InL (ops : Array Oper) (S : Nat → Prop) (k : Nat) : Prop := ∀ o, ops[k]? = some o → ∀ e ∈ o.after, Region.binds .any e = true → S e.on
theorem masks_ok {ops : Array Oper} {S : Nat → Prop} (hS : ∀ k, S k → InL ops S k) : ∀ (l : List Oper) (acc : List Nat) (pre : List Oper), ops.toList = pre ++ l → acc.length = pre.length →
    (∀ k m, acc[k]? = some m → InL ops S k → ∀ j, m.testBit j = true → S j) → ∀ k m, (masks l acc)[k]? = some m → InL ops S k → ∀ j, m.testBit j = true → S j
  | [], acc, pre, _, _, h => by simpa [masks] using h
  | o :: l, acc, pre, hl, hn, h => by
    unfold masks
    refine masks_ok hS l _ (pre ++ [o]) (by simp [hl]) (by simp [hn]) fun k m hk hin j hj => ?_
    rcases Nat.lt_or_ge k acc.length with hlt | hge
    · rw [List.getElem?_append_left hlt] at hk
      exact h k m hk hin j hj
    · rw [List.getElem?_append_right hge] at hk
      have hk0 : k = acc.length := by
        rcases Nat.eq_zero_or_pos (k - acc.length) with h0 | h0
        · omega
        · rw [List.getElem?_eq_none (by simp; omega)] at hk; cases hk
      subst hk0
      simp only [Nat.sub_self, List.getElem?_cons_zero, Option.some.injEq] at hk
      subst hk
      have hok : ops[acc.length]? = some o := by
        rw [← Array.getElem?_toList, hl, List.getElem?_append_right (by omega)]
        simp [hn]
      rcases fold_bits _ _ hj with h0 | ⟨e, he, hb, h1⟩
      · simp at h0
      · have hin' := hin o hok e (by simpa using he) hb
        rcases h1 with rfl | h1
        · exact hin'
        · cases ha : acc[e.on]? with
          | none => rw [List.getD_eq_getElem?_getD, ha] at h1; simp at h1
          | some m' =>
            rw [List.getD_eq_getElem?_getD, ha] at h1
            exact h e.on m' ha (hS _ hin') j h1
theorem mask_in {ops : Array Oper} {S : Nat → Prop} (hS : ∀ k, S k → InL ops S k) {i j : Nat} (hi : InL ops S i) (hj : ((masks ops.toList []).getD i 0).testBit j = true) : S j := by
  cases ha : (masks ops.toList [])[i]? with
  | none => rw [List.getD_eq_getElem?_getD, ha] at hj; simp at hj
  | some m =>
    rw [List.getD_eq_getElem?_getD, ha] at hj
    exact masks_ok hS ops.toList [] [] rfl rfl (fun k m hk => by simp at hk) i m ha hi j hj

/-! ### Any order -/
def Rel (ops : Array Oper) (j i : Nat) : Prop := i ≠ j ∧ (((masks ops.toList []).getD i 0).testBit j = true ∨ (((masks ops.toList []).getD j 0).testBit i = false ∧ swapB ops j i = true))
theorem pairs_rel {ops : Array Oper} : ∀ {π : List Nat}, pairsB ops (masks ops.toList []) π = true → π.Pairwise (Rel ops)
  | [], _ => .nil
  | j :: rest, h => by
    simp only [pairsB, Bool.and_eq_true, List.all_eq_true] at h
    refine .cons (fun i hi => ?_) (pairs_rel h.2)
    have := h.1 i hi
    simp only [bne_iff_ne, ne_eq, Bool.or_eq_true, Bool.and_eq_true, Bool.not_eq_true'] at this
    exact this
theorem exists_least : ∀ (l : List Nat), l ≠ [] → ∃ m ∈ l, ∀ x ∈ l, m ≤ x
  | [x], _ => ⟨x, by simp, by simp⟩
  | x :: y :: l, _ => by
    obtain ⟨m, h1, h2⟩ := exists_least (y :: l) (by simp)
    by_cases h : x ≤ m
    · refine ⟨x, List.mem_cons_self, fun z hz => ?_⟩
      rcases List.mem_cons.1 hz with rfl | hz
      · exact Nat.le_refl _
      · exact Nat.le_trans h (h2 z hz)
    · refine ⟨m, List.mem_cons_of_mem _ h1, fun z hz => ?_⟩
      rcases List.mem_cons.1 hz with rfl | hz
      · omega
      · exact h2 z hz

include hty in
theorem rd_any {ops : Array Oper} {π : List Nat} (hok : drawOK ops π = true) {K : Exit → Fr → Hp → Prop} : ∀ (fuel : Nat) (R : List Nat) (listed : Array Bool) {γ : Gh} {fr : Fr} {H : Hp} {a : Act} {w : World},
    R.length = fuel → R.Sublist π → listed.size = ops.size → (∀ i, i < ops.size → (i ∈ R ↔ listed.getD i true = false)) → (∀ k, listed.getD k false = true → InL ops (fun k => listed.getD k false = true) k) →
    rd P ty tb n0 ops R fr H (K .normal) → St γ0 w0 n0 γ fr H a w → wpAny P .any ops (Post γ0 w0 n0 K) fuel listed a w := by
  simp only [drawOK, Bool.and_eq_true, beq_iff_eq, List.all_eq_true, decide_eq_true_eq] at hok
  obtain ⟨⟨⟨⟨hlen, hlt⟩, hcon⟩, hback⟩, hpairs⟩ := hok
  have hrel := pairs_rel hpairs
  have back : ∀ i o, ops[i]? = some o → ∀ e ∈ o.after, Region.binds .any e = true → e.on < i := by
    intro i o ho e he hb
    have h := hback (o, i) (by
      rw [List.mem_zipIdx_iff_getElem?]; simpa using ho)
    have := h e (by simpa using he)
    simpa [hb] using this
  intro fuel
  induction fuel with
  | zero =>
    intro R listed γ fr H a w hR hsub hsz hmem hdown h s
    have hnil : R = [] := List.length_eq_zero_iff.1 hR
    subst hnil
    refine ⟨?_, γ, fr, H, s, h⟩
    cases hr : Region.ready .any ops listed with
    | nil => rfl
    | cons j l =>
      have hj : j ∈ Region.ready .any ops listed := by rw [hr]; simp
      obtain ⟨h1, o, ho, _⟩ := mem_ready.1 hj
      have := (hmem j (Array.getElem?_eq_some_iff.1 ho).1).2 h1
      simp at this
  | succ fuel ih =>
    intro R listed γ fr H a w hR hsub hsz hmem hdown h s
    have toTrue : ∀ k, k < ops.size → listed.getD k true = listed.getD k false := fun k hk => by simp [Array.getD, show k < listed.size by omega]
    refine ⟨fun hr => ?_, fun i hi => ?_⟩
    · exfalso
      obtain ⟨m, hm, hle⟩ := exists_least R (by intro e; rw [e] at hR; simp at hR)
      have hmn : m < ops.size := hlt m (hsub.subset hm)
      have : m ∈ Region.ready .any ops listed := by
        rw [mem_ready]
        refine ⟨(hmem m hmn).1 hm, ops[m], Array.getElem?_eq_getElem hmn, fun e he hb => ?_⟩
        have hlt' := back m _ (Array.getElem?_eq_getElem hmn) e he hb
        cases hq : listed.getD e.on false with
        | true => rfl
        | false =>
          rw [← toTrue e.on (by omega)] at hq
          have := hle _ ((hmem e.on (by omega)).2 hq)
          omega
      rw [hr] at this
      simp at this
    · obtain ⟨h1, o, ho, hall⟩ := mem_ready.1 hi
      have hin : i < ops.size := (Array.getElem?_eq_some_iff.1 ho).1
      have hiR : i ∈ R := (hmem i hin).2 h1
      obtain ⟨R1, R2, rfl⟩ := List.append_of_mem hiR
      have hpw := hrel.sublist hsub
      have hInL : InL ops (fun k => listed.getD k false = true) i := fun o' ho' e he hb => by
        rw [ho] at ho'; injection ho' with ho'; subst ho'; exact hall e he hb
      have hR1 : ∀ j ∈ R1, j ≠ i ∧ ((masks ops.toList []).getD i 0).testBit j = false ∧ ((masks ops.toList []).getD j 0).testBit i = false ∧ swapB ops j i = true := by
        intro j hj
        have hr := (List.pairwise_append.1 hpw).2.2 j hj i (by simp)
        have hjn : j < ops.size := hlt j (hsub.subset (by simp [hj]))
        have hnb : ((masks ops.toList []).getD i 0).testBit j = false := by
          cases hq : ((masks ops.toList []).getD i 0).testBit j with
          | false => rfl
          | true =>
            have h1 := mask_in hdown hInL hq
            have h2 := (hmem j hjn).1 (by simp [hj])
            rw [toTrue j hjn, h1] at h2
            cases h2
        obtain ⟨hne, hr⟩ := hr
        rcases hr with hr | hr
        · rw [hnb] at hr; cases hr
        · exact ⟨Ne.symm hne, hnb, hr.1, hr.2⟩
      have hp := pull (P := P) (ty := ty) (tb := tb) (n0 := n0) ho R1 R2 hR1 h
      have hnd : (R1 ++ i :: R2).Nodup := hpw.imp fun {x y} hxy => Ne.symm hxy.1
      refine stepd_sound hty ho hp s fun γ' fr' H' a' w' hk hs => ?_
      have hget : ∀ k d, (listed.setIfInBounds i true).getD k d = if k = i then true else listed.getD k d := by
        intro k d
        by_cases e : k = i
        · subst e; simp [Array.getD, show k < listed.size by omega]
        · rw [if_neg e, getD_set_ne d (Ne.symm e)]
      refine ih (R1 ++ R2) (listed.setIfInBounds i true) (by simp at hR ⊢; omega) ((List.Sublist.append_left (List.sublist_cons_self i R2) R1).trans hsub) (by simp [hsz]) (fun k hk' => ?_) (fun k hk' => ?_) hk hs
      · rw [hget]
        by_cases e : k = i
        · subst e
          simp only [if_true]
          constructor
          · intro hmk
            exfalso
            rw [List.nodup_append] at hnd
            rcases List.mem_append.1 hmk with hm | hm
            · exact hnd.2.2 k hm k (by simp) rfl
            · exact (List.nodup_cons.1 hnd.2.1).1 hm
          · intro hc; cases hc
        · rw [if_neg e, ← hmem k hk']
          simp [e]
      · intro o' ho' e he hb
        simp only [hget]
        split
        · rfl
        · rw [hget] at hk'
          split at hk'
          · rename_i e1; subst e1; exact hInL o' ho' e he hb
          · exact hdown k hk' o' ho' e he hb

/-! ### A block that is only read from here on -/
theorem frz_sound {id : Nat} {B : Blk} {ds : List D} (hB : H[id]? = some (some B)) (hd : toDs B.cells = some ds) (ho : ds.all D.one = true) (hn : n0 ≤ id) (s : St γ0 w0 n0 γ fr H a w) :
    ∃ γ', St γ0 w0 n0 γ' (frz id ds fr) ((weakH no (one id) H).set id none) a w := by
  obtain ⟨b, cs, e1, e2, e3, e4⟩ := s.inv.blk id B hB
  have hid : ∀ b, γ0.live id ≠ some b := fun b hb => by have := s.n0 id b hb; omega
  obtain ⟨d1, d2⟩ := toDs_at hd
  have hx := Ext.drop γ w id
  refine ⟨γ.drop id, s.own0, s.n0, step_drop (s.inv.weak no (one id)) id (fun k C hC _ => cleanH_weak _ _ _ k C hC), ?_, s.evo.drop id hid, s.defers⟩
  have hok : ∀ o, (γ.drop id).ok b o := fun o => by
    refine ⟨fun k hk => ?_, fun t l ht => absurd e1 ((s.inv.own b _ ht).2 id)⟩
    simp only [Gh.drop] at hk; split at hk
    · cases hk
    · rename_i hne; exact hne (s.inv.inj k id b hk e1)
  have hone : ∀ j (hj : j < ds.length), ds[j].one = true := fun j hj => List.all_eq_true.1 ho _ (List.getElem_mem hj)
  have val : ∀ (v : AV) (x : Value), RA γ w v x → RA (γ.drop id) w (match v with | .ptr i o => (if i = id then .rp (ds.drop o) else .ptr i o) | v => v.weak no (one id)) x := by
    intro v x hv
    cases v with
    | ptr i o =>
      simp only
      split
      · rename_i e; subst e
        cases hv with
        | ptr _ _ b' hl =>
          rw [e1] at hl; injection hl with hl; subst hl
          refine .rp _ b o (fun j => cs.getD (o + j) undef) (fun j hj => ?_) (fun j hj => ?_) (fun j hj => ?_)
          · simp only [List.getElem_drop]; exact hone _ _
          · simp at hj
            refine ⟨hok _, ?_⟩
            rw [cell_of_heap e2]
            simp [Array.getD, show o + j < cs.size by omega]
          · simp at hj
            simp only [List.getElem_drop]
            have := toD_sound (e4 (o + j) (by omega) (by omega)) (d2 (o + j) (by omega) (by omega))
            have h2 := this.mono hx.ok
            simpa [Array.getD, show o + j < cs.size by omega] using h2
      · rename_i e
        cases hv with
        | ptr _ _ b' hl => exact .ptr _ _ _ (by simp only [Gh.drop]; rw [if_neg e]; exact hl)
    | _ => exact (hv.weak no (one id)).mono hx (AV.weak_clean _ _ _)
  have hlen : ∀ l : Fr, (frz id ds l).length = l.length := by
    intro l
    induction l with
    | nil => rfl
    | cons v l ih => cases v <;> simp [frz, ih]
  have hat : ∀ (l : Fr) (i : Nat) (h1 : i < (frz id ds l).length) (h2 : i < l.length), (frz id ds l)[i] = (match l[i] with | .ptr i o => (if i = id then .rp (ds.drop o) else .ptr i o) | v => v.weak no (one id)) := by
    intro l
    induction l with
    | nil => intro i h1 h2; simp at h2
    | cons v l ih =>
      intro i h1 h2
      cases i with
      | zero => cases v <;> simp [frz]
      | succ i =>
        have := ih i (by rw [hlen]; simpa using h2) (by simpa using h2)
        cases v <;> simpa [frz] using this
  refine ⟨by rw [hlen]; exact s.fr.1, fun i h1 h2 => ?_⟩
  rw [hlen] at h1
  rw [hat fr i (by rw [hlen]; exact h1) h1]
  exact val _ _ (s.fr.2 i h1 h2)

theorem frzx_sound {K : Fr → Hp → Prop} : ∀ (l : List Oper) {γ : Gh} {fr : Fr} {H : Hp}, frzx ty n0 l fr H K → St γ0 w0 n0 γ fr H a w → ∃ γ' fr' H', St γ0 w0 n0 γ' fr' H' a w ∧ K fr' H'
  | [], γ, fr, H, h, s => ⟨γ, fr, H, s, h⟩
  | o :: l, γ, fr, H, h, s => by
    unfold frzx at h
    split at h
    · split at h
      · split at h
        · rename_i B hB
          split at h
          · rename_i ds hd
            obtain ⟨⟨h1, h2⟩, h3⟩ := h
            rw [seqA_eq, seqH_eq] at h3
            obtain ⟨γ', s'⟩ := frz_sound hB hd h2 h1 s
            exact frzx_sound l h3 s'
          · exact h.elim
        · exact h.elim
      · exact frzx_sound l h s
    · exact frzx_sound l h s

theorem frzIds_sound {K : Fr → Hp → Prop} : ∀ (ids : List Nat) {γ : Gh} {fr : Fr} {H : Hp}, frzIds n0 ids fr H K → St γ0 w0 n0 γ fr H a w → ∃ γ' fr' H', St γ0 w0 n0 γ' fr' H' a w ∧ K fr' H'
  | [], γ, fr, H, h, s => ⟨γ, fr, H, s, h⟩
  | id :: ids, γ, fr, H, h, s => by
    unfold frzIds at h
    split at h
    · rename_i B hB
      split at h
      · rename_i ds hd
        obtain ⟨⟨h1, h2⟩, h3⟩ := h
        rw [seqA_eq, seqH_eq] at h3
        obtain ⟨γ', s'⟩ := frz_sound hB hd h2 h1 s
        exact frzIds_sound ids h3 s'
      · exact h.elim
    · exact h.elim

theorem St.drew (s : St γ0 w0 n0 γ fr H a w) : St γ0 w0 n0 γ fr H a w.drew := by
  obtain ⟨h1, h2, h3⟩ := step_drew s.inv
  exact ⟨s.own0, s.n0, h1, s.fr.mono h2 (cleans_no _), s.evo.trans s.own0 h3, s.defers⟩

include hty in
/-- A region whose order is drawn. -/
theorem draw_sound (hm : P.follows .mixedOrders = true) {id : Nat} {ops : Array Oper} {K : Exit → Fr → Hp → Prop} (h : frzx ty n0 ops.toList fr H fun fr H => ∃ π, drawOK ops π = true ∧ rd P ty tb n0 ops π fr H (K .normal)) (s : St γ0 w0 n0 γ fr H a w) :
    (Code.region id ops true).wp P (Post γ0 w0 n0 K) a w := by
  refine wp_region_any hm ?_
  obtain ⟨γ', fr', H', s', π, hok, hrd⟩ := frzx_sound _ h s.drew
  have hok' := hok
  simp only [drawOK, Bool.and_eq_true, beq_iff_eq, List.all_eq_true, decide_eq_true_eq] at hok
  obtain ⟨⟨⟨⟨hlen, hlt⟩, hcon⟩, hback⟩, hpairs⟩ := hok
  have hall : ∀ i, i < ops.size → i ∈ π := fun i hi => by simpa using hcon i (by simpa using hi)
  refine rd_any hty hok' ops.size π _ hlen (List.Sublist.refl _) (by simp) (fun i hi => ?_) (fun k hk => ?_) hrd s'
  · simp [Array.getD, hi, hall i hi]
  · exfalso
    simp only [Array.getD] at hk
    split at hk <;> simp at hk
end
end Go.Ab
