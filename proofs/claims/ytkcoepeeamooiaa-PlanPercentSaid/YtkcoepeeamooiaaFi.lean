/- What is put behind bytes: a range over the digits of a number. -/
import Derived.Test.YtkcoepeeamooiaaFh
set_option linter.unusedVariables false
set_option linter.unusedSimpArgs false
namespace Go.Proofs
open Go Go.Ab Go.RowKit

/-- A frame of which one slot is known. -/
theorem slot_frame {γ : Gh} {w : World} {tm : Array Value} {t : Nat} {x : AV} (h : ∀ v, tm[t]? = some v → RA γ w x v) : RAs γ w ((List.replicate tm.size .top).set t x) tm := by
  refine ⟨by simp, fun i j1 j2 => ?_⟩
  by_cases e : t = i
  · subst e
    simp only [List.getElem_set_self]
    exact h _ (Array.getElem?_eq_getElem j2)
  · simp only [List.getElem_set_ne e, List.getElem_replicate]; exact .top _
theorem slot_get {γ : Gh} {w : World} {fr : Fr} {tm : Array Value} {t : Nat} {x : AV} (h : RAs γ w fr tm) (hk : fr[t]? = some x) : ∃ v, tm[t]? = some v ∧ RA γ w x v := by
  obtain ⟨h1, h2⟩ := List.getElem?_eq_some_iff.1 hk
  have h3 : t < tm.size := by rw [← h.1]; exact h1
  exact ⟨tm[t], Array.getElem?_eq_getElem h3, h2 ▸ h.2 t h1 h3⟩
theorem Inv.others {γ γ' : Gh} {H : Hp} {w w' : World} (hI : Inv γ H w) (hE : Evo γ w γ' w') : KeepsOthers w w' := by
  refine ⟨hE.size, fun k o hk ho => ?_⟩
  have hlt : k < w.heap.size := (Array.getElem?_eq_some_iff.1 hk).1
  have := hE.same k hlt (fun i hi => ?_) (fun g l hg => ?_)
  · rw [this.1]; exact hk
  · obtain ⟨B, hB⟩ := hI.dom i k hi
    obtain ⟨b', cs, k1, k2, _⟩ := hI.blk i B hB
    rw [hi] at k1; injection k1 with k1; subst k1
    rw [hk] at k2; injection k2 with k2; subst k2; simp [Obj.isCells] at ho
  · obtain ⟨cs, e, k2, _⟩ := hI.tag k g l hg
    rw [hk] at k2; injection k2 with k2; subst k2; simp [Obj.isCells] at ho
/-- The state abides the turn of a new block that holds no cells. -/
theorem grown_of {γ0 γ : Gh} {w0 w w' : World} {H : Hp} {fr : Fr} {tm : Array Value} {row : Option Nat} (hown : ∀ b x, γ0.own b = some x → b < w0.heap.size ∧ ∀ i, γ0.live i ≠ some b) (hI : Inv γ H w) (hF : RAs γ w fr tm) (hE : Evo γ0 w0 γ w) (hg : w.grownBy w' row)
    (hr : ∀ r, row = some r → w0.heap.size ≤ r ∧ ∃ o : Obj, w.heap[r]? = some o ∧ o.isCells = false) : Inv γ H w' ∧ RAs γ w' fr tm ∧ Evo γ0 w0 γ w' := by
  have hr' : ∀ r, row = some r → ∃ o : Obj, w.heap[r]? = some o ∧ o.isCells = false := fun r e => (hr r e).2
  have cellb : ∀ {b : Nat} {cs : Array Value} {e : TypeId} {f : Nat × Nat}, w.heap[b]? = some (Obj.cells cs e f) → w'.heap[b]? = w.heap[b]? := fun {b cs e f} h => hg.block b (Array.getElem?_eq_some_iff.1 h).1 (not_row hr' h)
  have hx : Ext no no γ w γ w' := by
    refine ⟨fun b o v h1 h2 => ⟨h1, ?_⟩, fun _ _ _ h => h, fun b g l cs e _ h1 h2 => ⟨h1, cs, by rw [cellb h2]; exact h2, rfl⟩⟩
    have hc : ∃ (cs : Array Value) (e : TypeId) (f : Nat × Nat), w.heap[b]? = some (Obj.cells cs e f) := by
      unfold World.cell? at h2
      cases hb : w.heap[b]? with
      | none => simp [hb] at h2
      | some ob =>
        cases ob with
        | cells cs e f => exact ⟨cs, e, f, rfl⟩
        | _ => simp [hb] at h2
    obtain ⟨cs, e, f, hc⟩ := hc
    rw [World.cell?_of_block (w := w) (a := ⟨b, o, none⟩) (cellb hc)]; exact h2
  have hlow : ∀ b, b < w0.heap.size → w'.heap[b]? = w.heap[b]? := fun b hb => hg.block b (by have := hE.size; omega) (fun e => by have := (hr b e.symm).1; omega)
  refine ⟨hI.keep hx hg.size (fun i b hi => ?_), hF.mono hx (cleans_no _), ⟨hg.os.trans hE.os, hg.tape.trans hE.tape, hg.output.trans hE.output, Nat.le_trans hE.size hg.size, fun b hb h1 h2 => ?_, fun b g l h1 => ?_, hE.live, hE.new, hE.nown⟩⟩
  · obtain ⟨B, hB⟩ := hI.dom i b hi
    obtain ⟨b', cs, k1, k2, _⟩ := hI.blk i B hB
    rw [hi] at k1; injection k1 with k1; subst k1
    exact cellb k2
  · obtain ⟨k1, k2⟩ := hE.same b hb h1 h2
    exact ⟨(hlow b hb).trans k1, k2⟩
  · obtain ⟨k1, k2⟩ := hE.tip b g l h1
    refine ⟨fun cs e hb => ?_, k2⟩
    obtain ⟨cs', j1, j2, j3⟩ := k1 cs e hb
    exact ⟨cs', by rw [hlow b (hown b _ h1).1]; exact j1, j2, j3⟩
theorem RAs.le {γ : Gh} {w : World} {xs ys : List AV} {vs : Array Value} (h : LEs xs ys) (hr : RAs γ w xs vs) : RAs γ w ys vs := h.sound hr

def putFr (n : Int) : Fr := [.top, .d (.int .i64 n), .ptr 0 0, .top, .top, .top, .top, .fn 49 [.rp [.int .i64 n]], .top, .top, .top, .top, .top, .top]
theorem entersF {P : Program} {f : FuncId} {fn : Func} {c : Code} (hf : P.funcs[f]? = some fn) (hname : (fn.name == "runtime.NumGoroutine") = false) (hb : fn.body = some c) (args : Array Value) (w : World) : (callFunc f args).run P w = .ok (.enter f args) w := by
  have h1 : fn.name ≠ "runtime.NumGoroutine" := by simpa using hname
  simp [callFunc, hf, h1, hb, mark]
theorem wpIn_valW {P : Program} {F : Fence} {m : Nat} (hF : ∀ f, F.fn f) {o : Oper} {a : Act} {w w' : World} {next : Act → World → Prop} {Q : Exit → Act → World → Prop} (v : Value) (hd : ∀ c, o.op ≠ .defer c) (hr : (execOp a.eval o).run P w = .ok (.value v) w') (h : next (a.put o.dst v) w') : o.wpIn F m P a w next Q := by
  refine ⟨fun f _ => hF f, ?_⟩
  rw [Oper.semAt_eq _ _ _ hd, hr, Oper.uponIn_value]; exact h
/-- Of a frame, where the box lies. -/
def boxFr : Fr := (List.replicate 14 AV.top).set 2 (.ptr 0 0)
def putT : Nat := 35000 + 12

set_option maxRecDepth 100000 in
set_option maxHeartbeats 1000000 in
theorem Try.putTrip (n : Int) (hn : I64 n) (l : List Int) (hl : l.length ≤ 140737488355300) : Trip Try.prog 35 [.app putT (.ints .u8 l), .d (.int .i64 n)] [] (fun r H => H = [] ∧ r = .app putT (.ints .u8 (l ++ putI n))) := by
  intro γ w vs hI hA
  have hvs : vs.size = 2 := hA.1.symm
  refine (callsIn_wide (n := 3)).1 (callsIn_of_wp_marks (fn := Try.f35) rfl rfl trivial ?_)
  have hfr : RAs γ w ([.app putT (.ints .u8 l), .d (.int .i64 n)] ++ List.replicate 12 (.tup [])) (vs ++ Array.replicate (14 - vs.size) undef) := by
    refine ⟨by simp [hvs], fun i h1 h2 => ?_⟩
    rcases Nat.lt_or_ge i 2 with hi | hi
    · rw [List.getElem_append_left (by simpa using hi), Array.getElem_append_left (by rw [hvs]; exact hi)]; exact hA.2 i (by simpa using hi) _
    · rw [List.getElem_append_right (by simpa using hi), Array.getElem_append_right (by rw [hvs]; exact hi)]
      simp only [List.getElem_replicate, Array.getElem_replicate]
      exact .tup [] #[] rfl (fun i h1 => by simp at h1)
  have s0 : St γ w 0 γ ([.app putT (.ints .u8 l), .d (.int .i64 n)] ++ List.replicate 12 (.tup [])) [] ⟨vs ++ Array.replicate (14 - vs.size) undef, []⟩ w :=
    ⟨hI.own, fun i b hi => by have := hI.live_lt hi; simp at this, hI, hfr, Evo.refl _ _, rfl⟩
  refine wpIn_seq ?_
  refine wpIn_mono (wpIn_wide.2 (ex_sound (tb := 0) Try.tyOK Try.mixed _ (fun e fr H => e = .normal ∧ fr = [.app putT (.ints .u8 l), .d (.int .i64 n), .ptr 0 0, .tup [], .nils] ++ List.replicate 9 (.tup []) ∧ H = [some ⟨28, [.app putT (.ints .u8 l)]⟩]) ?_ s0)) ?_
  · (conv => whnf)
    exact ⟨rfl, rfl, rfl⟩
  rintro e a w1 ⟨γ1, fr1, H1, s1, rfl, rfl, rfl⟩
  refine wpIn_seq (wpIn_seq ?_)
  refine wpIn_mono (wpIn_wide.2 (ex_sound (tb := 0) Try.tyOK Try.mixed _ (fun e fr H => e = .normal ∧ LEs fr (putFr n) ∧ H = [some ⟨28, [.app putT (.ints .u8 l)]⟩]) ?_ s1)) ?_
  · (conv => whnf)
    refine ⟨rfl, ?_⟩
    refine Fun.kd (Try.digits n) rfl rfl ?_
    (conv => whnf)
    exact ⟨rfl, weakT_LEs ⟨rfl, rfl, rfl, trivial⟩, rfl⟩
  rintro e a w2 ⟨γ2, fr2, H2, s2, rfl, hle, rfl⟩
  have f2 := RAs.le hle s2.fr
  obtain ⟨v7, e7, r7⟩ := slot_get f2 (t := 7) (x := .fn 49 [.rp [.int .i64 n]]) rfl
  have hsz : a.tmps.size = 14 := f2.1.symm
  cases r7 with | fn _ _ us hlu hu =>
  have hus : us.size = 1 := hlu.symm
  obtain ⟨b, o, hb0, hcell⟩ : ∃ b o, us = #[.pointer (some ⟨b, o, none⟩)] ∧ w2.cell? ⟨b, o, none⟩ = some (.int .i64 n) := by
    have h0 := hu 0 (by simp) (by omega)
    generalize hq : us[0]'(by omega) = q at h0
    cases h0 with | rp _ b o f ho hc hd =>
    have hc0 := (hc 0 (by simp)).2
    have hd0 := hd 0 (by simp)
    simp only [List.getElem_cons_zero] at hd0
    generalize f 0 = z at hc0 hd0
    cases hd0
    refine ⟨b, o, ?_, by simpa using hc0⟩
    rw [← hq]
    exact Array.ext (by simp [hus]) (fun i h1 h2 => by
      have : i = 0 := by simp at h2; omega
      subst this; rfl)
  subst hb0
  have ev7 : a.eval (.tmp 7) = .func (.func 49) #[] #[.pointer (some ⟨b, o, none⟩)] := by simp [Act.eval, Array.getD_eq_getD_getElem?, e7]
  have hown : ∀ b x, γ.own b = some x → b < w.heap.size ∧ ∀ i, γ.live i ≠ some b := hI.own
  have hwle := s2.evo.size
  -- the frame: only the box counts
  have f3 : RAs γ2 w2 boxFr a.tmps := RAs.le (weakT_LEs (fr := putFr n) (fr' := boxFr) ⟨rfl, trivial⟩) f2
  refine wpIn_block ?_
  refine wpIn_rangeFunc_ownF (F := Fence.wide) rfl (by omega) (gf := 49) (lb := #[.pointer (some ⟨b, o, none⟩)]) ev7 trivial (entersF (fn := Try.f49) rfl (by decide) rfl)
    (Try.digits_seq (W0 := w2) n hn b o hcell) (fun _ _ => trivial) (fun _ _ _ _ _ _ _ _ => trivial) (Below.refl _ _) (fun _ => rfl)
    (fun pre W => ∃ γ', Inv γ' [some ⟨28, [.app putT (.ints .u8 (l ++ pre))]⟩] W ∧ RAs γ' W boxFr a.tmps ∧ Evo γ w γ' W)
    (fun _ _ _ => False)
    (fun pre W W' row ⟨γ', h1, h2, h3⟩ hg hr => ⟨γ', grown_of hown h1 h2 h3 hg fun r e => ⟨by have := (hr r e).1; omega, (hr r e).2⟩⟩)
    (fun _ _ _ _ _ hs _ _ => hs)
    ⟨γ2, by simpa using s2.inv, f3, s2.evo⟩
    (fun x => { tmps := (a.tmps.setIfInBounds 8 (.int .u8 x)).setIfInBounds 5 (.int .u8 x), defers := [] }) ?assign ?body ?done ?stop
  case assign =>
    intro r x W K hK
    refine wpIn_region ?_
    rw [show List.range (Array.size _) = [0] from rfl]
    simp only [wpOpsIn, List.getElem?_toArray, List.getElem?_cons_zero, Region.wanted, if_true]
    refine wpIn_val (fun _ => trivial) (.int .u8 x) (fun c e => by cases e) (by simp [execOp, Act.eval, hsz]) ?_
    simpa [Act.put, Exit.then] using hK
  case body =>
    rintro r pre x W ⟨γ', hi, hf, he⟩ hlen
    obtain ⟨v2, e2, r2⟩ := slot_get hf (t := 2) (x := .ptr 0 0) rfl
    have hfb : RAs γ' W ((boxFr.set 8 (.d (.int .u8 x))).set 5 (.d (.int .u8 x))) ((a.tmps.setIfInBounds 8 (.int .u8 x)).setIfInBounds 5 (.int .u8 x)) :=
      put_sound (a := ⟨a.tmps.setIfInBounds 8 (.int .u8 x), []⟩) (put_sound (a := ⟨a.tmps, []⟩) hf (some 8) (.d _ _ (.int .u8 x))) (some 5) (.d _ _ (.int .u8 x))
    have sb : St γ' W 1 γ' ((boxFr.set 8 (.d (.int .u8 x))).set 5 (.d (.int .u8 x))) [some ⟨28, [.app putT (.ints .u8 (l ++ pre))]⟩] ⟨(a.tmps.setIfInBounds 8 (.int .u8 x)).setIfInBounds 5 (.int .u8 x), []⟩ W :=
      ⟨hi.own, fun i b hb => by have := hi.live_lt hb; simpa using this, hi, hfb, Evo.refl _ _, rfl⟩
    refine wpIn_block ?_
    refine region_in (K := fun fr H => H = [some ⟨28, [.app putT (.ints .u8 (l ++ pre ++ [x]))]⟩]) (tb := 35000) Try.tyOK (fun _ => trivial) (fun _ => True) (fun _ _ _ _ _ => trivial) ?_ rfl ?_ sb trivial
    · rintro γ'' fr'' H'' a'' W'' s'' rfl _
      refine ⟨Inv.others hi s''.evo, trivial, γ'', by rw [← List.append_assoc]; exact s''.inv, ?_, he.trans hown s''.evo⟩
      have : RAs γ'' W'' ((List.replicate a.tmps.size .top).set 2 (.ptr 0 0)) a.tmps := slot_frame fun v hv => by
        rw [e2] at hv; injection hv with hv; subst hv
        cases r2 with | ptr _ _ b h => exact .ptr _ _ _ (s''.evo.live _ _ h)
      rw [hsz] at this; exact this
    · (conv => whnf)
      refine ⟨⟨ble rfl, by decide⟩, ?_⟩
      (conv => whnf)
      refine ⟨⟨by simp [L.len]; omega, by decide⟩, ?_⟩
      (conv => whnf)
      refine ⟨⟨rfl, ble rfl, rfl⟩, ?_⟩
      (conv => whnf)
      rfl
  case done =>
    rintro D ys W hD rfl ⟨γ', hi, hf, he⟩ hK
    refine wpIn_seq (wpIn_region ?_)
    rw [show List.range (Array.size _) = [0, 1] from rfl]
    simp only [wpOpsIn, List.getElem?_toArray, List.getElem?_cons_zero, List.getElem?_cons_succ, Region.wanted, if_true]
    have sd : St γ' W 1 γ' boxFr [some ⟨28, [.app putT (.ints .u8 (l ++ putI n))]⟩] ⟨a.tmps, []⟩ W :=
      ⟨hi.own, fun i b hb => by have := hi.live_lt hb; simpa using this, hi, hf, Evo.refl _ _, rfl⟩
    obtain ⟨res, v, w3, γ3, r3, fr3, H3, g1, g2, g3, g4, g5, g6, g7⟩ := op_done Try.tyOK (tb := 0) (o := ((regOps (body Try.f35) 4)[0]?).getD default) (K := fun r fr H => r = .app putT (.ints .u8 (l ++ putI n)) ∧ H = [some ⟨28, [.app putT (.ints .u8 (l ++ putI n))]⟩]) sd (fun f xs ts e => by cases e) (by
      (conv => whnf)
      exact ⟨rfl, rfl⟩)
    obtain ⟨rfl, rfl⟩ := g7
    have hres : res = .value v := by
      rcases g2 with h | ⟨_, h⟩
      · exact h
      · rw [h] at g5; cases g5
    have hoth := Inv.others hi g6
    have hK3 := hoth.same _ _ hK rfl
    refine wpIn_valW (w' := w3) (fun _ => trivial) v (fun c e => by cases e) (by rw [hres] at g1; exact g1) ?_
    refine wpIn_val (fun _ => trivial) v (fun c e => by cases e) (by simp [execOp, Act.eval, Act.put, hsz]) ?_
    refine wpIn_ret ⟨by simp, .inl ⟨_, _, rfl, run_takeDeferred hK3, ?_⟩⟩
    have hdf : a.defers = [] := s2.defers
    show LeavesInM _ _ _ _ _ _ a.defers _ _
    rw [hdf]
    have e3 := he.trans hown g6
    obtain ⟨k1, k2, k3⟩ := grown_of (fr := [.app putT (.ints .u8 (l ++ putI n))]) (tm := #[v]) hown g3 (RAs.one g5) e3 (grownBy_putObj' w3 D (.deferred none)) (fun r e => by
      injection e with e; subst e; exact ⟨by omega, _, hK3, rfl⟩)
    obtain ⟨γ4, i4, f4, e4⟩ := weak_sound (n0 := 0) (fr' := [.app putT (.ints .u8 (l ++ putI n))]) (H' := []) (fun i b hb => by have := hI.live_lt hb; simp at this) ⟨LEs.refl _, .inr ⟨.nil _, rfl, rfl, fun i hi => by omega⟩⟩ k1 k2 k3
    exact ⟨_, results_tmp rfl _ _ _, γ4, _, v, [], by simp [Act.put, hsz], i4, f4.2 0 (by simp) (by simp), e4, rfl, rfl⟩
  case stop =>
    rintro D c pre W _ _ h _
    exact h.elim
end Go.Proofs
