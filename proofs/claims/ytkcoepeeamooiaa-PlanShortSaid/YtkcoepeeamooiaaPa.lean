/- Numbers, lists and plans as bytes, plainly: what is written is read back; what is read was so written; bytes of one are no beginning of another's. -/
import Derived.Test.YtkcoepeeamooiaaFf
set_option linter.unusedVariables false
set_option linter.unusedSimpArgs false
namespace Go.Proofs
open Go Go.Ab

theorem unzig_zig (n : Int) : unzig (zig n) = n := by unfold unzig zig; split <;> split <;> omega
theorem zig_unzig {u : Int} (h : 0 ≤ u) : zig (unzig u) = u := by unfold unzig zig; split <;> split <;> omega
theorem pow_add7 {i : Nat} (h : i ≤ 8) : (2 : Int) ^ (7 * (i + 1)) = 128 * 2 ^ (7 * i) := (pow7_cases (by omega : i ≤ 9)).2.2.2
theorem rdGo_dig : ∀ (f i : Nat) (u v : Int) (r : List Int), f = 10 - i → i ≤ 9 → 0 ≤ v → v < 2 ^ (64 - 7 * i) → (0 < i → 0 < v) → rdGo i u (dig f v ++ r) = (unzig (u + v * 2 ^ (7 * i)), ((i + (dig f v).length : Nat) : Int), 0)
  | 0, i, u, v, r, hf, hi, h0, h1, h2 => by omega
  | f + 1, i, u, v, r, hf, hi, h0, h1, h2 => by
    have hp := pow_le hi
    rcases (show 128 ≤ v ∨ v < 128 by omega) with h | h
    · have hi8 : i ≤ 8 := by
        rcases hp.2.1 with h' | h'
        · rcases Nat.lt_or_ge i 9 with h'' | h''
          · omega
          · obtain rfl : i = 9 := by omega
            simp at h1; omega
        · subst h'; simp at h1; omega
      have hp8 := hp.2.2 hi8
      rw [dig_big h, List.cons_append, rdGo, if_neg (by omega), if_pos (by omega), rdGo_dig f (i + 1) _ (v / 128) r (by omega) (by omega) (by omega) (by omega) (fun _ => by omega)]
      have e1 : (v % 128 + 128) % 128 = v % 128 := by omega
      have e2 : u + v % 128 * 2 ^ (7 * i) + v / 128 * 2 ^ (7 * (i + 1)) = u + v * 2 ^ (7 * i) := by
        rw [pow_add7 hi8]
        have : v * 2 ^ (7 * i) = (v % 128 + 128 * (v / 128)) * 2 ^ (7 * i) := by rw [show v % 128 + 128 * (v / 128) = v by omega]
        rw [this, Int.add_mul, Int.add_assoc]
        congr 2
        rw [← Int.mul_assoc, Int.mul_comm (v / 128) 128]
      rw [e1, e2]
      simp; omega
    · have hv : v % 128 = v := by omega
      rw [dig_small h, List.cons_append, rdGo, if_neg (by rintro ⟨rfl, h9⟩; simp at h1; omega), if_neg (by omega), if_neg (by omega), hv]
      simp
theorem rdGo_of : ∀ (l : List Int) (i : Nat) (u : Int), (∀ c ∈ l, 0 ≤ c ∧ c < 256) → i ≤ 9 → (rdGo i u l).2.2 = 0 →
    ∃ v r, l = dig (10 - i) v ++ r ∧ 0 ≤ v ∧ v < 2 ^ (64 - 7 * i) ∧ (0 < i → 0 < v) ∧ rdGo i u l = (unzig (u + v * 2 ^ (7 * i)), ((i + (dig (10 - i) v).length : Nat) : Int), 0)
  | [], i, u, hb, hi, h => by simp [rdGo] at h
  | c :: l, i, u, hb, hi, h => by
    have hc := hb c (by simp)
    have hp := pow_le hi
    rw [rdGo] at h ⊢
    by_cases h1 : i = 9 ∧ 1 < c
    · rw [if_pos h1] at h; simp at h
    rw [if_neg h1] at h ⊢
    by_cases h2 : 128 ≤ c
    · rw [if_pos h2] at h ⊢
      have hi8 : i ≤ 8 := by omega
      have hp8 := hp.2.2 hi8
      obtain ⟨v, r, e1, e2, e3, e4, e5⟩ := rdGo_of l (i + 1) _ (fun x hx => hb x (by simp [hx])) (by omega) h
      have e4 := e4 (by omega)
      have ev : (c % 128 + 128 * v) % 128 + 128 = c ∧ (c % 128 + 128 * v) / 128 = v := by omega
      have ed : dig (10 - i) (c % 128 + 128 * v) = c :: dig (10 - (i + 1)) v := by
        rw [show 10 - i = (10 - (i + 1)) + 1 by omega, dig_big (by omega), ev.1, ev.2]
      refine ⟨c % 128 + 128 * v, r, by rw [ed, e1]; rfl, by omega, by omega, fun _ => by omega, ?_⟩
      rw [e5, ed]
      have e2 : u + c % 128 * 2 ^ (7 * i) + v * 2 ^ (7 * (i + 1)) = u + (c % 128 + 128 * v) * 2 ^ (7 * i) := by
        rw [pow_add7 hi8, Int.add_mul, Int.add_assoc]
        congr 2
        rw [← Int.mul_assoc, Int.mul_comm v 128]
      rw [e2]
      simp; omega
    · rw [if_neg h2] at h ⊢
      by_cases h3 : c = 0 ∧ 0 < i
      · rw [if_pos h3] at h; simp at h
      rw [if_neg h3]
      refine ⟨c, l, by rw [dig_small (by omega)]; rfl, by omega, ?_, fun _ => by omega, ?_⟩
      · rcases hp.2.1 with h' | h'
        · omega
        · subst h'; simp; omega
      · rw [dig_small (by omega), show c % 128 = c by omega]; simp
theorem take_of {b a c : List Int} {n : Nat} (h : b = a ++ c) (hn : n = a.length) : b.take n = a := by subst h; subst hn; simp
theorem len_le {b a c : List Int} (h : b = a ++ c) : a.length ≤ b.length := by subst h; simp
theorem same_pre {b a c a' c' : List Int} (h : b = a ++ c) (h' : b = a' ++ c') (hl : a.length = a'.length) : a = a' := by
  rw [← take_of h rfl, hl, take_of h' rfl]
theorem rdI_put {n : Int} (hn : I64 n) (a r : List Int) : rdI (a ++ putI n ++ r) a.length = (n, (((a ++ putI n).length : Nat) : Int), 0) := by
  have hz := zig_range hn
  have hd : (a ++ putI n ++ r).drop ((a.length : Int)).toNat = putI n ++ r := by rw [List.append_assoc, Int.toNat_natCast, List.drop_left]
  have hg := rdGo_dig 10 0 0 (zig n) r rfl (by omega) hz.1 (by simpa using hz.2) (fun h => by omega)
  unfold rdI
  rw [if_neg (by simp; omega), hd]
  unfold putI
  rw [hg]
  simp [unzig_zig]
theorem rdI_of {b : List Int} (hb : Bytes b) {p : Int} (h : (rdI b p).2.2 = 0) : ∃ a r, b = a ++ putI (rdI b p).1 ++ r ∧ p = a.length ∧ (rdI b p).2.1 = ((a ++ putI (rdI b p).1).length : Nat) ∧ I64 (rdI b p).1 := by
  have hI := rdI_range hb p
  unfold rdI at h hI ⊢
  by_cases h1 : p < 0 ∨ b.length < p
  · rw [if_pos h1] at h; simp at h
  rw [if_neg h1] at h hI ⊢
  by_cases h2 : (rdGo 0 0 (b.drop p.toNat)).2.2 = 0
  · rw [if_pos h2] at hI ⊢
    obtain ⟨v, r, e1, e2, e3, e4, e5⟩ := rdGo_of (b.drop p.toNat) 0 0 (fun c hc => hb.1 c (List.mem_of_mem_drop hc)) (by omega) h2
    have hv : (rdGo 0 0 (b.drop p.toNat)).1 = unzig v := by rw [e5]; simp
    have hz : putI (unzig v) = dig 10 v := by unfold putI; rw [zig_unzig e2]
    simp only [hv] at hI ⊢
    refine ⟨b.take p.toNat, r, ?_, by simp; omega, ?_, hI⟩
    · rw [hz, List.append_assoc]
      have : dig 10 v ++ r = b.drop p.toNat := e1.symm
      rw [this, List.take_append_drop]
    · rw [hz, e5]; simp; omega
  · rw [if_neg h2] at h; exact absurd h h2
theorem rdN_put : ∀ (l a r : List Int), (∀ x ∈ l, I64 x) → rdN (a ++ l.flatMap putI ++ r) l.length a.length = (l, (((a ++ l.flatMap putI).length : Nat) : Int), 0)
  | [], a, r, h => by simp [rdN]
  | x :: l, a, r, h => by
    have h1 := rdI_put (h x (by simp)) a (l.flatMap putI ++ r)
    have e : a ++ (x :: l).flatMap putI ++ r = a ++ putI x ++ (l.flatMap putI ++ r) := by simp
    have e' : a ++ putI x ++ (l.flatMap putI ++ r) = (a ++ putI x) ++ l.flatMap putI ++ r := by simp
    have h2 := rdN_put l (a ++ putI x) r (fun y hy => h y (by simp [hy]))
    rw [← e', ← e] at h2
    rw [← e] at h1
    rw [List.length_cons, rdN, h1]
    simp only [if_true, h2]
    simp
theorem rdN_of {b : List Int} (hb : Bytes b) : ∀ (k : Nat) (p : Int), 0 ≤ p → p ≤ b.length → (rdN b k p).2.2 = 0 → ∃ a r, b = a ++ (rdN b k p).1.flatMap putI ++ r ∧ p = a.length ∧ (rdN b k p).2.1 = ((a ++ (rdN b k p).1.flatMap putI).length : Nat) ∧ (rdN b k p).1.length = k
  | 0, p, h0, h1, h => ⟨b.take p.toNat, b.drop p.toNat, by simp [rdN], by simp; omega, by simp [rdN]; omega, rfl⟩
  | k + 1, p, h0, h1, h => by
    rw [rdN] at h ⊢
    by_cases g1 : (rdI b p).2.2 = 0
    · rw [if_pos g1] at h ⊢
      by_cases g2 : (rdN b k (rdI b p).2.1).2.2 = 0
      · rw [if_pos g2] at h ⊢
        obtain ⟨a, r, e1, e2, e3, e4⟩ := rdI_of hb g1
        have hle : (a ++ putI (rdI b p).1).length ≤ b.length := len_le e1
        obtain ⟨a', r', q1, q2, q3, q4⟩ := rdN_of hb k (rdI b p).2.1 (by omega) (by omega) g2
        have ea : a' = a ++ putI (rdI b p).1 := same_pre (q1.trans (List.append_assoc _ _ _)) e1 (by omega)
        subst ea
        refine ⟨a, r', ?_, e2, ?_, by simp [q4]⟩
        · simp only [List.flatMap_cons]
          rw [← List.append_assoc]; exact q1
        · simp only [List.flatMap_cons]
          rw [← List.append_assoc]; exact q3
      · rw [if_neg g2] at h; exact absurd h g2
    · rw [if_neg g1] at h; exact absurd h g1
theorem rdL_put {l : List Int} (hl : l.length ≤ 64) (h : ∀ x ∈ l, I64 x) (a r : List Int) : rdL (a ++ putL l ++ r) a.length = (l, (((a ++ putL l).length : Nat) : Int), 0) := by
  have h1 := rdI_put (n := l.length) (by constructor <;> omega) a (l.flatMap putI ++ r)
  have e : a ++ putL l ++ r = a ++ putI l.length ++ (l.flatMap putI ++ r) := by simp [putL]
  have e' : a ++ putL l ++ r = (a ++ putI l.length) ++ l.flatMap putI ++ r := by simp [putL]
  have h2 := rdN_put l (a ++ putI l.length) r h
  rw [← e] at h1
  rw [← e'] at h2
  unfold rdL
  rw [h1]
  simp only [if_true]
  rw [if_neg (by omega), Int.toNat_natCast, h2]
  simp [putL]
theorem rdL_of {b : List Int} (hb : Bytes b) {p : Int} (h : (rdL b p).2.2 = 0) : ∃ a r, b = a ++ putL (rdL b p).1 ++ r ∧ p = a.length ∧ (rdL b p).2.1 = ((a ++ putL (rdL b p).1).length : Nat) ∧ (rdL b p).1.length ≤ 64 := by
  have hR := rdL_range hb p
  unfold rdL at h hR ⊢
  by_cases g1 : (rdI b p).2.2 = 0
  · rw [if_pos g1] at h hR ⊢
    by_cases g2 : (rdI b p).1 < 0 ∨ 64 < (rdI b p).1
    · rw [if_pos g2] at h; simp at h
    · rw [if_neg g2] at h hR ⊢
      obtain ⟨a, r, e1, e2, e3, e4⟩ := rdI_of hb g1
      have hle : (a ++ putI (rdI b p).1).length ≤ b.length := len_le e1
      obtain ⟨a', r', q1, q2, q3, q4⟩ := rdN_of hb (rdI b p).1.toNat (rdI b p).2.1 (by omega) (by omega) h
      have ea : a' = a ++ putI (rdI b p).1 := same_pre (q1.trans (List.append_assoc _ _ _)) e1 (by omega)
      subst ea
      have en : (((rdN b (rdI b p).1.toNat (rdI b p).2.1).1.length : Nat) : Int) = (rdI b p).1 := by rw [q4]; omega
      refine ⟨a, r', ?_, e2, ?_, hR.2⟩
      · unfold putL; rw [en, ← List.append_assoc]; exact q1
      · unfold putL; rw [en, ← List.append_assoc]; exact q3
  · rw [if_neg g1] at h; exact absurd h g1

/-! ### bytes -/
theorem dig_bytes : ∀ (f i : Nat) (v : Int), f = 10 - i → i ≤ 9 → 0 ≤ v → v < 2 ^ (64 - 7 * i) → ∀ c ∈ dig f v, 0 ≤ c ∧ c < 256
  | 0, i, v, hf, hi, h0, h1 => by omega
  | f + 1, i, v, hf, hi, h0, h1 => by
    have hp := pow_le hi
    rcases (show 128 ≤ v ∨ v < 128 by omega) with h | h
    · have hi8 : i ≤ 8 := by
        rcases hp.2.1 with h' | h'
        · rcases Nat.lt_or_ge i 9 with h'' | h''
          · omega
          · obtain rfl : i = 9 := by omega
            simp at h1; omega
        · subst h'; simp at h1; omega
      have hp8 := hp.2.2 hi8
      rw [dig_big h]
      intro c hc
      rcases List.mem_cons.1 hc with rfl | hc
      · omega
      · exact dig_bytes f (i + 1) (v / 128) (by omega) (by omega) (by omega) (by omega) c hc
    · rw [dig_small h]
      intro c hc
      simp at hc; omega
theorem putI_bytes {n : Int} (h : I64 n) : ∀ c ∈ putI n, 0 ≤ c ∧ c < 256 := by
  have hz := zig_range h
  exact dig_bytes 10 0 (zig n) rfl (by omega) hz.1 (by simpa using hz.2)
theorem putL_bytes {l : List Int} (hl : l.length ≤ 64) (h : ∀ x ∈ l, I64 x) : ∀ c ∈ putL l, 0 ≤ c ∧ c < 256 := by
  intro c hc
  rcases List.mem_append.1 hc with hc | hc
  · exact putI_bytes (by constructor <;> omega) c hc
  · obtain ⟨x, hx, hc⟩ := List.mem_flatMap.1 hc
    exact putI_bytes (h x hx) c hc
/-- A right plan's bytes. -/
def Pl.bytes (p : Pl) : List Int := putL p.nums ++ putL p.pen ++ putL p.chg
theorem Pl.bytes_ok {p : Pl} (hp : p.ok) (h : p.right = true) : Bytes p.bytes ∧ p.bytes.length ≤ 2400 := by
  obtain ⟨l1, l2⟩ := Pl.right_len h
  have q1 := putL_len p.nums (ble rfl)
  have q2 := putL_len p.pen (by omega)
  have q3 := putL_len p.chg (by omega)
  have hl : p.bytes.length ≤ 2400 := by simp only [Pl.bytes, List.length_append]; omega
  refine ⟨⟨fun c hc => ?_, by omega⟩, hl⟩
  rcases List.mem_append.1 hc with hc | hc
  · rcases List.mem_append.1 hc with hc | hc
    · exact putL_bytes (ble rfl) (Pl.nums_ok hp) c hc
    · exact putL_bytes (by omega) hp.pen c hc
  · exact putL_bytes (by omega) hp.chg c hc
theorem putI_ne (n : Int) : putI n ≠ [] := by
  unfold putI dig; split <;> simp
theorem Pl.bytes_ne (p : Pl) : p.bytes ≠ [] := by
  intro h
  have h1 : putL p.nums = [] := by
    unfold Pl.bytes at h; rw [List.append_assoc] at h; exact (List.append_eq_nil_iff.1 h).1
  unfold putL at h1
  exact putI_ne _ (List.append_eq_nil_iff.1 h1).1

theorem wrap_small {x : Int} (h : 0 ≤ x ∧ x < 9223372036854775808) : IntKind.i64.wrap x = x := wrap_i64 (by omega) (by omega)
theorem Pl.right_up {p : Pl} (h : p.right = true) : p.up ≤ 65535 ∧ p.su ≤ 65535 := by
  simp only [Pl.right, Bool.and_eq_true, decide_eq_true_eq] at h; omega
theorem mkPl_nums {p : Pl} (hp : p.ok) (h : p.right = true) : mkPl p.nums p.pen p.chg = p := by
  have hu := Pl.right_up h
  have h1 := hp.up
  have h2 := hp.su
  have e1 : IntKind.i64.wrap p.up = p.up := wrap_small (by constructor <;> omega)
  have e2 : IntKind.i64.wrap p.su = p.su := wrap_small (by constructor <;> omega)
  have : p.nums = [p.e, p.t, p.p, p.s, p.pc, p.st, p.si, p.ra, p.up, p.su] := by unfold Pl.nums; rw [e1, e2]
  rw [this]; rfl
theorem nums_mkPl {l pen chg : List Int} (hl : l.length = 10) (hr : ∀ x ∈ l, I64 x) (h8 : 0 ≤ l.getD 8 0) (h9 : 0 ≤ l.getD 9 0) : (mkPl l pen chg).nums = l := by
  have g8 := getD_range hr 8
  have g9 := getD_range hr 9
  match l, hl with
  | [a, b, c, d, e, f, g, h, i, j], _ =>
    simp only [mkPl, Pl.nums] at *
    rw [wrap_small ⟨h8, by omega⟩, wrap_small ⟨h9, by omega⟩]
    rfl
theorem decP_app {p : Pl} (hp : p.ok) (h : p.right = true) (r : List Int) : decP (p.bytes ++ r) = if r = [] then (p, 0) else (zeroPl, 41) := by
  obtain ⟨l1, l2⟩ := Pl.right_len h
  have r0 := rdL_put (l := p.nums) (ble rfl) (Pl.nums_ok hp) [] (putL p.pen ++ putL p.chg ++ r)
  have r1 := rdL_put (l := p.pen) (by omega) hp.pen (putL p.nums) (putL p.chg ++ r)
  have r2 := rdL_put (l := p.chg) (by omega) hp.chg (putL p.nums ++ putL p.pen) r
  have e0 : [] ++ putL p.nums ++ (putL p.pen ++ putL p.chg ++ r) = p.bytes ++ r := by simp [Pl.bytes]
  have e1 : putL p.nums ++ putL p.pen ++ (putL p.chg ++ r) = p.bytes ++ r := by simp [Pl.bytes]
  have e2 : putL p.nums ++ putL p.pen ++ putL p.chg ++ r = p.bytes ++ r := by simp [Pl.bytes]
  rw [e0] at r0; rw [e1] at r1; rw [e2] at r2
  have r0' : rdL (p.bytes ++ r) 0 = (p.nums, (((putL p.nums).length : Nat) : Int), 0) := by simpa using r0
  unfold decP
  rw [r0']
  simp only [r1, r2, mkPl_nums hp h, h, true_and, and_true]
  have hu := Pl.right_up h
  have h1 := hp.up
  have h2 := hp.su
  have g8 : p.nums.getD 8 0 = p.up := by show IntKind.i64.wrap p.up = p.up; exact wrap_small (by constructor <;> omega)
  have g9 : p.nums.getD 9 0 = p.su := by show IntKind.i64.wrap p.su = p.su; exact wrap_small (by constructor <;> omega)
  rw [g8, g9]
  by_cases hr : r = []
  · subst hr
    rw [if_pos rfl, if_pos]
    refine ⟨rfl, ?_, h1.1, h2.1⟩
    simp [Pl.bytes]
  · rw [if_neg hr, if_neg]
    rintro ⟨_, hlen, _⟩
    have : 0 < r.length := List.length_pos_iff.2 hr
    simp [Pl.bytes] at hlen
    omega
theorem decP_enc {p : Pl} (hp : p.ok) (h : p.right = true) : decP p.bytes = (p, 0) := by
  have := decP_app hp h []
  simpa using this
theorem decP_cases (b : List Int) : (decP b).2 = 0 ∨ decP b = (zeroPl, 41) := by
  unfold decP; split
  · exact .inl rfl
  · exact .inr rfl
theorem decP_of {b : List Int} (hb : Bytes b) (h : (decP b).2 = 0) : (decP b).1.right = true ∧ (decP b).1.ok ∧ b = (decP b).1.bytes := by
  unfold decP at h ⊢
  split at h
  case isFalse => simp at h
  rename_i hh
  rw [if_pos hh]
  obtain ⟨h0, hl, h1, h2, h3, h8, h9, hr⟩ := hh
  have g0 := rdL_range hb 0
  have g1 := rdL_range hb (rdL b 0).2.1
  have g2 := rdL_range hb (rdL b (rdL b 0).2.1).2.1
  obtain ⟨a0, c0, q0, u0, v0, w0⟩ := rdL_of hb h0
  obtain ⟨a1, c1, q1, u1, v1, w1⟩ := rdL_of hb h1
  obtain ⟨a2, c2, q2, u2, v2, w2⟩ := rdL_of hb h2
  generalize rdL b (rdL b (rdL b 0).2.1).2.1 = x2 at *
  generalize rdL b (rdL b 0).2.1 = x1 at *
  generalize rdL b 0 = x0 at *
  refine ⟨hr, ?_, ?_⟩
  · have g := getD_range g0.1
    refine ⟨⟨g 0, g 1, g 2, g 3, g 4, g 5, g 6, g 7⟩, ?_, ?_, g1.1, g2.1, ?_, ?_⟩
    · have := g 8; exact ⟨h8, by show x0.1.getD 8 0 < _; omega⟩
    · have := g 9; exact ⟨h9, by show x0.1.getD 9 0 < _; omega⟩
    · simp only [mkPl]; omega
    · simp only [mkPl]; omega
  · have z0 : a0 = [] := List.eq_nil_of_length_eq_zero (by omega)
    subst z0
    have z1 : a1 = putL x0.1 := same_pre (q1.trans (List.append_assoc _ _ _)) (by simpa using q0) (by simp at v0; omega)
    subst z1
    have z2 : a2 = putL x0.1 ++ putL x1.1 := same_pre (q2.trans (List.append_assoc _ _ _)) q1 (by omega)
    subst z2
    have z3 : c2 = [] := by
      have hlen := congrArg List.length q2
      simp at hlen v2
      exact List.eq_nil_of_length_eq_zero (by omega)
    subst z3
    unfold Pl.bytes
    rw [nums_mkPl hl g0.1 h8 h9]
    simpa [mkPl] using q2
theorem decP_cut {p : Pl} (hp : p.ok) (h : p.right = true) {k : Nat} (hk : k < p.bytes.length) : decP (p.bytes.take k) = (zeroPl, 41) := by
  rcases decP_cases (p.bytes.take k) with h0 | h0
  · exfalso
    obtain ⟨hb, hl⟩ := Pl.bytes_ok hp h
    have hbk : Bytes (p.bytes.take k) := ⟨fun c hc => hb.1 c (List.mem_of_mem_take hc), by simp; omega⟩
    obtain ⟨q1, q2, q3⟩ := decP_of hbk h0
    generalize (decP (p.bytes.take k)).1 = q at *
    have e : p.bytes = q.bytes ++ p.bytes.drop k := by rw [← q3, List.take_append_drop]
    have d1 := decP_enc hp h
    have d2 := decP_app q2 q1 (p.bytes.drop k)
    rw [← e, d1, if_neg (fun e => by have := congrArg List.length e; simp at this; omega)] at d2
    simp [Prod.ext_iff] at d2
  · exact h0
theorem decP_more {p : Pl} (hp : p.ok) (h : p.right = true) (m : Int) : decP (p.bytes ++ [m]) = (zeroPl, 41) := by
  rw [decP_app hp h, if_neg (by simp)]
theorem bytes_inj {p q : Pl} (hp : p.ok) (h : p.right = true) (hq : q.ok) (h' : q.right = true) : p.bytes = q.bytes ↔ p = q := by
  refine ⟨fun e => ?_, fun e => by rw [e]⟩
  have d1 := decP_enc hp h
  have d2 := decP_enc hq h'
  rw [e, d2] at d1
  injection d1 with d1
  exact d1.symm

/-! ### names -/
theorem count_le3 (a b c : Int) (f : Nat → Bool) (hf : ∀ i, f i = true → (i : Int) = a ∨ (i : Int) = b ∨ (i : Int) = c) (n : Nat) : (List.range n).countP f ≤ 3 := by
  have h1 : ∀ (x : Int) (n : Nat), (List.range n).countP (fun (i : Nat) => decide ((i : Int) = x)) ≤ 1 := by
    intro x n
    induction n with
    | zero => simp
    | succ n ih =>
      rw [List.range_succ, List.countP_append]
      by_cases hx : (n : Int) = x
      · have : (List.range n).countP (fun (i : Nat) => decide ((i : Int) = x)) = 0 := by
          rw [List.countP_eq_zero]
          intro i hi
          have := List.mem_range.1 hi
          simp; omega
        simp [this, hx]
      · simp [hx]; exact ih
  have h2 : ∀ (n : Nat), (List.range n).countP f ≤ (List.range n).countP (fun (i : Nat) => decide ((i : Int) = a)) + (List.range n).countP (fun (i : Nat) => decide ((i : Int) = b)) + (List.range n).countP (fun (i : Nat) => decide ((i : Int) = c)) := by
    intro n
    induction n with
    | zero => simp
    | succ n ih =>
      rw [List.range_succ]
      simp only [List.countP_append, List.countP_cons, List.countP_nil]
      cases hfn : f n with
      | false => simp; omega
      | true =>
        rcases hf n hfn with h | h | h <;> simp [h] <;> omega
  have := h1 a n
  have := h1 b n
  have := h1 c n
  have := h2 n
  omega
theorem names_in {p : Pl} {i : Nat} (h : p.names i = true) : (i : Int) = p.t ∨ (i : Int) = p.p ∨ (i : Int) = p.s := by
  simp only [Pl.names, Bool.and_eq_true, Bool.or_eq_true, decide_eq_true_eq] at h
  omega
theorem names_few (p : Pl) (n : Nat) : (List.range n).countP (fun (i : Nat) => p.names i) ≤ 3 := count_le3 p.t p.p p.s _ (fun _ h => names_in h) n
end Go.Proofs
