/- The run over abstract states is sound: literals, append. -/
import Derived.Test.YtkcoepeeamooiaaAb8
import Derived.Deep.Upon
set_option linter.unusedVariables false
set_option linter.unusedSimpArgs false
namespace Go.Ab
open Go

theorem rowsOf_len (s : Nat) : ∀ (n : Nat) (ds : List D), (rowsOf s n ds).length = n
  | 0, _ => rfl
  | n + 1, ds => by simp [rowsOf, rowsOf_len s n]
theorem rowsOf_at (s : Nat) : ∀ (n : Nat) (ds : List D) (i : Nat) (h : i < (rowsOf s n ds).length), (rowsOf s n ds)[i] = (ds.drop (i * s)).take s
  | 0, ds, i, h => by simp [rowsOf] at h
  | n + 1, ds, i, h => by
    cases i with
    | zero => simp [rowsOf]
    | succ i =>
      simp only [rowsOf, List.getElem_cons_succ]
      rw [rowsOf_at s n (ds.drop s) i (by simpa [rowsOf] using h), List.drop_drop]
      congr 2
      rw [Nat.add_mul]; omega
theorem idx_lt {i n j s : Nat} (hi : i < n) (hj : j < s) : i * s + j < n * s := by
  have : (i + 1) * s ≤ n * s := Nat.mul_le_mul_right s hi
  rw [Nat.add_mul] at this; omega
theorem mkL_rows {t : TI} {n : Nat} {cs : List AV} {l : L} (h : mkL t n cs = some l) (hlen : cs.length = n * t.size) :
    l.len = n ∧ l.size = t.size ∧ ∀ i, i < n → (l.row i).length = t.size ∧ ∀ j (hj : j < (l.row i).length) (hc : i * t.size + j < cs.length), cs[i * t.size + j].toD = some (l.row i)[j] ∧ (l.row i)[j].one = true := by
  unfold mkL at h
  split at h
  · split at h
    · rename_i k _ hs
      obtain ⟨xs, hxs, rfl⟩ := Option.map_eq_some_iff.1 h
      obtain ⟨e1, e2⟩ := intsOf_at hxs
      have hn : xs.length = n := by rw [← e1, hlen, hs]; omega
      refine ⟨by simp [L.len, hn], by simp [L.size, hs], fun i hi => ⟨by simp [L.row, hs], fun j hj hc => ?_⟩⟩
      have hj0 : j = 0 := by simp [L.row] at hj; omega
      subst hj0
      have : i * t.size + 0 = i := by rw [hs]; omega
      simp only [this] at hc ⊢
      rw [e2 i hc (by omega)]
      simp [AV.toD, L.row, D.one, hn, hi]
    · cases h
  · split at h
    · rename_i ds hds
      obtain ⟨e1, e2⟩ := toDs_at hds
      split at h
      · rename_i hone
        injection h with h; subst h
        have hdl : ds.length = n * t.size := by rw [← e1]; exact hlen
        refine ⟨by simp [L.len, rowsOf_len], rfl, fun i hi => ?_⟩
        have hr : (L.gen t.size (rowsOf t.size n ds)).row i = (ds.drop (i * t.size)).take t.size := by
          simp only [L.row, List.getD_eq_getElem?_getD]
          rw [List.getElem?_eq_getElem (by rw [rowsOf_len]; exact hi)]
          simp only [Option.getD_some]
          exact rowsOf_at t.size n ds i _
        have hl : ((ds.drop (i * t.size)).take t.size).length = t.size := by
          rw [List.length_take, List.length_drop, hdl]
          have : (i + 1) * t.size ≤ n * t.size := Nat.mul_le_mul_right _ hi
          rw [Nat.add_mul] at this; omega
        refine ⟨by rw [hr]; exact hl, fun j hj hc => ?_⟩
        have e : ((L.gen t.size (rowsOf t.size n ds)).row i)[j] = ds[i * t.size + j]'(by rw [← e1]; exact hc) := by
          simp only [hr]
          rw [List.getElem_take, List.getElem_drop]
        rw [e]
        exact ⟨e2 _ hc _, List.all_eq_true.1 hone _ (List.getElem_mem _)⟩
      · cases h
    · cases h
/-- Cells that lie in a row read as the list. -/
theorem mkL_RD {γ : Gh} {w : World} {t : TI} {n : Nat} {cs : List AV} {l : L} (h : mkL t n cs = some l) (hlen : cs.length = n * t.size) {vs : Array Value} (hr : RAs γ w cs vs) {ok' : Nat → Nat → Prop} {w' : World} {b o : Nat}
    (hcell : ∀ j (hj : j < vs.size), ok' b (o + j) ∧ w'.cell? ⟨b, o + j, none⟩ = some vs[j]) (hmono : ∀ x v, RD γ.ok w x v → RD ok' w' x v) (hm : n ≤ maxLen) : l.len = n ∧ l.size = t.size ∧ RD ok' w' (.sl l) (.slice (some ⟨b, o, none⟩) n n) := by
  obtain ⟨h1, h2, h3⟩ := mkL_rows h hlen
  refine ⟨h1, h2, ?_⟩
  have hvs : vs.size = n * t.size := by rw [← hr.1]; exact hlen
  have := RD.row (ok := ok') (w := w') l b o n (fun i j => vs[i * t.size + j]!) (by omega) hm (fun i hi => by rw [h2]; exact (h3 i (by omega)).1)
    (fun i j hi hj => ((h3 i (by omega)).2 j hj (by rw [hlen]; exact idx_lt (by omega) (by rw [(h3 i (by omega)).1] at hj; exact hj))).2)
    (fun i j hi hj => by
      rw [h2] at hj ⊢
      have hlt : i * t.size + j < vs.size := by rw [hvs]; exact idx_lt (by omega) hj
      obtain ⟨k1, k2⟩ := hcell _ hlt
      exact ⟨k1, by simp only [hlt, getElem!_pos]; exact k2⟩)
    (fun i j hi hj => by
      have hj' : j < t.size := by rw [(h3 i (by omega)).1] at hj; exact hj
      have hlt : i * t.size + j < vs.size := by rw [hvs]; exact idx_lt (by omega) hj'
      have hlt' : i * t.size + j < cs.length := by rw [hlen]; exact idx_lt (by omega) hj'
      simp only [hlt, getElem!_pos]
      exact hmono _ _ (toD_sound (hr.2 _ hlt' hlt) ((h3 i (by omega)).2 j hj hlt').1))
  rw [h1] at this
  exact this

theorem setAll_len (l : List AV) : ∀ (cs : List AV) (l : List AV) (o : Nat), (setAll l o cs).length = l.length
  | [], l, o => rfl
  | c :: cs, l, o => by simp only [setAll]; rw [setAll_len l cs]; simp
theorem setAll_at : ∀ (cs : List AV) (l : List AV) (o j : Nat) (h : j < (setAll l o cs).length), (setAll l o cs)[j] = if h' : o ≤ j ∧ j - o < cs.length then cs[j - o]'h'.2 else l[j]'(by rw [setAll_len []] at h; exact h)
  | [], l, o, j, h => by simp [setAll]
  | c :: cs, l, o, j, h => by
    simp only [setAll]
    rw [setAll_at cs (l.set o c) (o + 1) j _]
    by_cases h1 : o + 1 ≤ j ∧ j - (o + 1) < cs.length
    · rw [dif_pos h1, dif_pos ⟨by omega, by simp; omega⟩]
      have e : j - o = (j - (o + 1)) + 1 := by omega
      simp only [e, List.getElem_cons_succ]
    · rw [dif_neg h1]
      by_cases h2 : o = j
      · subst h2
        rw [List.getElem_set_self, dif_pos ⟨by omega, by simp⟩]
        simp
      · rw [List.getElem_set_ne h2, dif_neg (by simp; omega)]
/-- A literal's cells. -/
theorem fill_sound {γ : Gh} {w : World} {place : Nat → Option (Nat × Nat)} : ∀ (parts : List (Nat × AV)) (vparts : List (Nat × Value)) (cells cells' : List AV) (vcells : Array Value), fillx place cells parts = some cells' → RAs γ w cells vcells →
    (parts.length = vparts.length ∧ ∀ i (h1 : i < parts.length) (h2 : i < vparts.length), parts[i].1 = vparts[i].1 ∧ RA γ w parts[i].2 vparts[i].2) →
    ∃ vcells', Instr.fill place vcells vparts = some vcells' ∧ RAs γ w cells' vcells'
  | [], [], cells, cells', vcells, h, hr, _ => by
    simp only [fillx, Option.some.injEq] at h; subst h
    exact ⟨vcells, rfl, hr⟩
  | (i, v) :: parts, (i', u) :: vparts, cells, cells', vcells, h, hr, hp => by
    obtain ⟨e1, e2⟩ := hp.2 0 (by simp) (by simp)
    simp only [List.getElem_cons_zero] at e1 e2
    subst e1
    unfold fillx at h
    split at h
    · rename_i off size cs hpl hcs
      split at h
      · rename_i hsz
        have hc := cells_sound e2 hcs
        have key : ∀ (us : List Value) (ds : List AV) (base : Nat) (l : List AV) (vl : Array Value), ds.length = us.length → (∀ j (h1 : j < ds.length) (h2 : j < us.length), RA γ w ds[j] us[j]) → RAs γ w l vl → RAs γ w (setAll l base ds) ((us.zipIdx base).foldl (fun cs x => cs.setIfInBounds x.2 x.1) vl) := by
          intro us
          induction us with
          | nil => intro ds base l vl hl hd hv; cases ds <;> simp at hl; simpa [setAll] using hv
          | cons u us ih =>
            intro ds base l vl hl hd hv
            cases ds with
            | nil => simp at hl
            | cons d ds =>
              simp only [setAll, List.zipIdx_cons, List.foldl_cons]
              refine ih ds (base + 1) _ _ (by simpa using hl) (fun j h1 h2 => by have := hd (j + 1) (by simpa using h1) (by simpa using h2); simpa using this) ⟨by simp [hv.1], fun j h1 h2 => ?_⟩
              by_cases hj : base = j
              · subst hj
                rw [List.getElem_set_self, Array.getElem_setIfInBounds_self]
                exact hd 0 (by simp) (by simp)
              · have h2' : j < vl.size := by simpa using h2
                rw [List.getElem_set_ne hj, Array.getElem_setIfInBounds_ne h2' hj]
                exact hv.2 j (by simpa using h1) h2'
        have hfold : (u.cells.zipIdx.foldl (fun cs x => cs.setIfInBounds (off + x.2) x.1) vcells) = ((u.cells.toList.zipIdx off).foldl (fun cs x => cs.setIfInBounds x.2 x.1) vcells) := by
          rw [← Array.foldl_toList, Array.toList_zipIdx]
          have : ∀ (us : List Value) (k : Nat) (acc : Array Value), (us.zipIdx k).foldl (fun cs x => cs.setIfInBounds (off + x.2) x.1) acc = (us.zipIdx (off + k)).foldl (fun cs x => cs.setIfInBounds x.2 x.1) acc := by
            intro us
            induction us with
            | nil => intro k acc; rfl
            | cons u us ih => intro k acc; simp only [List.zipIdx_cons, List.foldl_cons]; rw [ih (k + 1)]; rfl
          simpa using this u.cells.toList 0 vcells
        have hstep := key u.cells.toList cs off cells vcells (by simpa using hc.1) (fun j h1 h2 => by simpa using hc.2 j h1 (by simpa using h2)) hr
        obtain ⟨vc', k1, k2⟩ := fill_sound parts vparts _ cells' _ h hstep ⟨by simpa using hp.1, fun j h1 h2 => by have := hp.2 (j + 1) (by simpa using h1) (by simpa using h2); simpa using this⟩
        refine ⟨vc', ?_, k2⟩
        have hus : u.cells.size = size := by rw [← hc.1]; exact hsz.1
        have hle : ¬ (off + u.cells.size > vcells.size) := by rw [hus, ← hr.1]; omega
        simp only [Instr.fill, hpl]
        rw [if_neg (by simp [hus]; omega), hfold]
        exact k1
      · cases h
    · cases h
  | [], _ :: _, _, _, _, _, _, h => by simp at h
  | _ :: _, [], _, _, _, _, _, h => by simp at h
end Go.Ab
