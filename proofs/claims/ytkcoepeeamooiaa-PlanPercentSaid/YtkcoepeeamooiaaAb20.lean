/- The run of code over abstract states, by bare recursors: the same, in a form in which what is not yet run stands as it is written (the kernel's comparisons stop there). -/
import Derived.Test.YtkcoepeeamooiaaAb14
set_option linter.unusedVariables false
set_option linter.unusedSimpArgs false
namespace Go.Ab
open Go

noncomputable def rxR (P : Program) (ty : TypeId → Option TI) (tb n0 : Nat) (ops : Array Oper) (l : List Oper) : Fr → Hp → (Fr → Hp → Prop) → Prop :=
  List.rec (motive := fun _ => Fr → Hp → (Fr → Hp → Prop) → Prop) (fun fr H K => K fr H)
    (fun o _ ih fr H K => guardx ops o fr (fun fr => opx P ty tb n0 o fr H fun v fr' H' => forceA v fun v => putx fr' o.dst v fun fr' => ih fr' H' K) (fun fr => putx fr o.dst (.tup []) fun fr' => ih fr' H K)) l
theorem rxR_eq (P : Program) (ty : TypeId → Option TI) (tb n0 : Nat) (ops : Array Oper) : ∀ l, rxR P ty tb n0 ops l = rx P ty tb n0 ops l
  | [] => rfl
  | o :: l => by
    have ih := rxR_eq P ty tb n0 ops l
    funext fr H K
    show guardx ops o fr (fun fr => opx P ty tb n0 o fr H fun v fr' H' => forceA v fun v => putx fr' o.dst v fun fr' => rxR P ty tb n0 ops l fr' H' K) (fun fr => putx fr o.dst (.tup []) fun fr' => rxR P ty tb n0 ops l fr' H K) = _
    rw [ih]; rfl
noncomputable def rdR (P : Program) (ty : TypeId → Option TI) (tb n0 : Nat) (ops : Array Oper) (l : List Nat) : Fr → Hp → (Fr → Hp → Prop) → Prop :=
  List.rec (motive := fun _ => Fr → Hp → (Fr → Hp → Prop) → Prop) (fun fr H K => K fr H)
    (fun i _ ih fr H K => match ops[i]? with
      | some o => stepd P ty tb n0 ops i o fr H fun fr H => ih fr H K
      | none => False) l
theorem rdR_eq (P : Program) (ty : TypeId → Option TI) (tb n0 : Nat) (ops : Array Oper) : ∀ l, rdR P ty tb n0 ops l = rd P ty tb n0 ops l
  | [] => rfl
  | i :: l => by
    have ih := rdR_eq P ty tb n0 ops l
    funext fr H K
    show (match ops[i]? with
      | some o => stepd P ty tb n0 ops i o fr H fun fr H => rdR P ty tb n0 ops l fr H K
      | none => False) = _
    rw [ih]; rfl

/-- Where a part ends, the next begins. -/
def seqK (next : Fr → Hp → Prop) (K : Exit → Fr → Hp → Prop) (e : Exit) (fr : Fr) (H : Hp) : Prop := match e with | .normal => next fr H | e => K e fr H
def blockK (id : Nat) (K : Exit → Fr → Hp → Prop) (e : Exit) (fr : Fr) (H : Hp) : Prop := match e with | .exit i => if i = id then K .normal fr H else K (.exit i) fr H | e => K e fr H
def scopeK (K : Exit → Fr → Hp → Prop) (e : Exit) (fr : Fr) (H : Hp) : Prop := match e with | .goto _ => False | e => K e fr H
def loopK (n0 : Nat) (I : Nat → Fr → Hp → Prop) (n : Nat) (K : Exit → Fr → Hp → Prop) (e : Exit) (fr : Fr) (H : Hp) : Prop := match e with | .normal => ∃ m fr' H', m < n ∧ Weak n0 fr H fr' H' ∧ I m fr' H' | e => K e fr H
/-- The run of code. -/
noncomputable def exR (P : Program) (ty : TypeId → Option TI) (tb n0 : Nat) (c : Code) : (Exit → Fr → Hp → Prop) → Fr → Hp → Prop :=
  Code.rec (motive := fun _ => (Exit → Fr → Hp → Prop) → Fr → Hp → Prop)
    (fun K fr H => K .normal fr H)
    (fun _ ops draw K fr H => match draw with
      | false => (match ops.toList.any isMF with
        | true => ∃ ids, frzIds n0 ids fr H fun fr H => rxR P ty tb n0 ops ops.toList fr H (K .normal)
        | false => rxR P ty tb n0 ops ops.toList fr H (K .normal))
      | true => frzx ty n0 ops.toList fr H fun fr H => ∃ π, drawOK ops π = true ∧ rdR P ty tb n0 ops π fr H (K .normal))
    (fun _ _ xa xb K fr H => xa (seqK (xb K) K) fr H)
    (fun c _ _ xa xb K fr H => match aeval fr c with
      | .d (.bool t) => bcase t (xa K fr H) (xb K fr H)
      | _ => False)
    (fun id _ xb K fr H => xb (blockK id K) fr H)
    (fun _ xb K fr H => ∃ I : Nat → Fr → Hp → Prop, (∃ n fr' H', Weak n0 fr H fr' H' ∧ I n fr' H') ∧ ∀ n fr H, I n fr H → xb (loopK n0 I n K) fr H)
    (fun _ _ _ _ _ _ _ _ _ => False)
    (fun id K fr H => K (.exit id) fr H)
    (fun _ xb K fr H => xb (scopeK K) fr H)
    (fun _ K fr H => K .normal fr H)
    (fun _ _ _ _ => False)
    (fun K fr H => K .ret fr H)
    (fun _ _ _ _ => False)
    c
theorem exR_eq (P : Program) (ty : TypeId → Option TI) (tb n0 : Nat) (c : Code) : exR P ty tb n0 c = ex P ty tb n0 c := by
  induction c with
  | skip => rfl
  | region id ops draw =>
    funext K fr H
    cases draw with
    | false =>
      show (match ops.toList.any isMF with
        | true => ∃ ids, frzIds n0 ids fr H fun fr H => rxR P ty tb n0 ops ops.toList fr H (K .normal)
        | false => rxR P ty tb n0 ops ops.toList fr H (K .normal)) = _
      rw [rxR_eq]; rfl
    | true =>
      show (frzx ty n0 ops.toList fr H fun fr H => ∃ π, drawOK ops π = true ∧ rdR P ty tb n0 ops π fr H (K .normal)) = _
      simp only [rdR_eq]; rfl
  | seq a b iha ihb =>
    funext K fr H
    show exR P ty tb n0 a (seqK (exR P ty tb n0 b K) K) fr H = _
    rw [iha, ihb]; rfl
  | cond c a b iha ihb =>
    funext K fr H
    show (match aeval fr c with
      | .d (.bool t) => bcase t (exR P ty tb n0 a K fr H) (exR P ty tb n0 b K fr H)
      | _ => False) = _
    rw [iha, ihb]; rfl
  | block id b ih =>
    funext K fr H
    show exR P ty tb n0 b (blockK id K) fr H = _
    rw [ih]; rfl
  | loop b ih =>
    funext K fr H
    show (∃ I : Nat → Fr → Hp → Prop, (∃ n fr' H', Weak n0 fr H fr' H' ∧ I n fr' H') ∧ ∀ n fr H, I n fr H → exR P ty tb n0 b (loopK n0 I n K) fr H) = _
    rw [ih]; rfl
  | rangeFunc f ps x b _ _ => rfl
  | exit id => rfl
  | scope b ih =>
    funext K fr H
    show exR P ty tb n0 b (scopeK K) fr H = _
    rw [ih]; rfl
  | label l => rfl
  | goto l => rfl
  | ret => rfl
  | refuse s => rfl
end Go.Ab
