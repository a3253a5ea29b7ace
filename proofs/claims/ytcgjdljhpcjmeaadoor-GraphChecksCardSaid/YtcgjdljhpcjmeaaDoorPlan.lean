/- A region that draws its order, by a plan: the operations in one order that is checked once; what yields in every world, or in every world that meets S, is taken first; behind the last stores S need not hold. -/
import Derived.Test.YtcgjdljhpcjmeaaDoorWTab
import Derived.Tactics
namespace Go.Proofs.YtcgjdljhpcjmeaaDoor
open Go.Proofs.YtcgjdljhpcjmeaaDoorW.PrintLast

section
variable {P : Program} {ops : Array Oper} {Q : Exit → Act → World → Prop} {S : World → Prop}

/-- One operation, its world, what comes behind it. -/
def OpWp (P : Program) (ops : Array Oper) (Q : Exit → Act → World → Prop) (o : Oper) (a : Act) (w : World) (K : Act → World → Prop) : Prop :=
  if Region.wanted o (yielded ops a.tmps) = true then Oper.wp P o a w K Q else K (a.put o.dst undef) w

/-- What is owed, operation by operation. Kinds: 0: it yields in every world; 1: in every world that meets S; 2: it may turn the world, S holds behind it; 3: one of the last, S need not. -/
def Plan (P : Program) (ops : Array Oper) (Q : Exit → Act → World → Prop) (S : World → Prop) : List (Nat × Nat) → Act → World → Prop
  | [], a, w => Q .normal a w
  | (i, 0) :: r, a, w => ∃ o v, ops[i]? = some o ∧ Yields P ops o v a ∧ Plan P ops Q S r (a.put o.dst v) w
  | (i, 1) :: r, a, w => ∃ o v, ops[i]? = some o ∧ YieldsIf P ops S o v a ∧ Plan P ops Q S r (a.put o.dst v) w
  | (i, 2) :: r, a, w => ∃ o, ops[i]? = some o ∧ ∀ K : Act → World → Prop, (∀ a' w', S w' → Plan P ops Q S r a' w' → K a' w') → OpWp P ops Q o a w K
  | (i, _ + 3) :: r, a, w => ∃ o, ops[i]? = some o ∧ ∀ K : Act → World → Prop, (∀ a' w', Plan P ops Q S r a' w' → K a' w') → OpWp P ops Q o a w K

def planOk (T : Bool × List (List Nat × List Nat)) (B : List Nat) (ds : List Nat) : List (Nat × Nat) → List Bool → Bool → Bool
  | [], l, _ => readyT T.2 l == []
  | (i, 0) :: r, l, f => anyT T l (l.set i true) i && planOk T B ds r (l.set i true) f
  | (i, 1) :: r, l, f => f && takeW T B ds l (l.set i true) i && planOk T B ds r (l.set i true) f
  | (i, 2) :: r, l, _ => readyT T.2 l == [i] && !ds.contains i && planOk T B ds r (l.set i true) true
  | (i, _ + 3) :: r, l, _ => readyT T.2 l == [i] && ds.contains i && planOk T B ds r (l.set i true) false

theorem plan_sound {T : Bool × List (List Nat × List Nat)} {B ds : List Nat} (hT : rtab .any ops = T) (hB : waitsOk T.2 B = true)
    (hQ : ∀ c a d v w, Q (.panic c) (Act.put a d v) w → Q (.panic c) a w) :
    ∀ (pl : List (Nat × Nat)) (l : List Bool) (f : Bool) (a : Act) (w : World), planOk T B ds pl l f = true → (f = true → S w) → Plan P ops Q S pl a w →
      ∀ fuel, pl.length ≤ fuel → wpAnyLast P .any ops Q S ds fuel l.toArray a w
  | [], l, f, a, w, hp, hf, h, fuel, _ => done_ (done_of hT (by simpa [planOk] using hp)) h
  | (i, 0) :: r, l, f, a, w, hp, hf, h, fuel + 1, hl => by
    simp only [planOk, Bool.and_eq_true] at hp
    obtain ⟨o, v, ho, hy, h⟩ := h
    exact pure_ (l.set i true).toArray ho rfl (any_of hT (by simpa using hp.1)) (fun c a w => hQ c a _ _ w) hy rfl
      (plan_sound hT hB hQ r _ f _ w hp.2 hf h fuel (by simpa using hl))
  | (i, 1) :: r, l, f, a, w, hp, hf, h, fuel + 1, hl => by
    simp only [planOk, Bool.and_eq_true] at hp
    obtain ⟨o, v, ho, hy, h⟩ := h
    exact take_ (l.set i true).toArray ho rfl (take_ofW hT hB (by simpa using hp.1.2)) (fun c a w => hQ c a _ _ w) hy (hf hp.1.1) rfl
      (plan_sound hT hB hQ r _ f _ w hp.2 hf h fuel (by simpa using hl))
  | (i, 2) :: r, l, f, a, w, hp, hf, h, fuel + 1, hl => by
    simp only [planOk, Bool.and_eq_true, Bool.not_eq_true'] at hp
    obtain ⟨o, ho, h⟩ := h
    refine one_ (l.set i true).toArray ho rfl (one_of hT (by simpa using hp.1.1)) (by simpa using hp.1.2) (fun K hK => h K fun a' w' hS hr => ?_)
    exact hK.out a' w' hS fun _ => plan_sound hT hB hQ r _ true _ w' hp.2 (fun _ => hS) hr fuel (by simpa using hl)
  | (i, _ + 3) :: r, l, f, a, w, hp, hf, h, fuel + 1, hl => by
    simp only [planOk, Bool.and_eq_true] at hp
    obtain ⟨o, ho, h⟩ := h
    refine last_ (l.set i true).toArray ho rfl (one_of hT (by simpa using hp.1.1)) (by simpa using hp.1.2) (fun K hK => h K fun a' w' hr => ?_)
    exact hK.out a' w' (plan_sound hT hB hQ r _ false _ w' hp.2 (fun hh => by cases hh) hr fuel (by simpa using hl))

/-- What each operation waits for, as bits. -/
def bitsOf : List (List Nat × List Nat) → Nat → List Nat → List Nat
  | [], _, B => B
  | r :: T, d, B => bitsOf T (d + 1) (B ++ [r.1.foldl (fun m n => m ||| (2 ^ n ||| (if n < d then B.getD n 0 else 0))) 0])
def planB (ops : Array Oper) (ds : List Nat) (pl : List (Nat × Nat)) : Bool :=
  let T := rtab .any ops
  let B := bitsOf T.2 0 []
  waitsOk T.2 B && planOk T B ds pl (List.replicate ops.size false) true && Nat.ble pl.length ops.size

theorem region_plan {id : Nat} {a : Act} {w : World} (S : World → Prop) (ds : List Nat) (pl : List (Nat × Nat)) (hm : P.follows .mixedOrders = true)
    (hp : planB ops ds pl = true) (hQ : ∀ c a d v w, Q (.panic c) (Act.put a d v) w → Q (.panic c) a w) (hS : S w.drew) (h : Plan P ops Q S pl a w.drew) : (Code.region id ops true).wp P Q a w := by
  simp only [planB, Bool.and_eq_true] at hp
  refine start_ (ds := ds) (S := S) (List.replicate ops.size false).toArray hm rfl (by simp) hS fun _ => ?_
  exact plan_sound rfl hp.1.1 hQ pl _ true a w.drew hp.1.2 (fun _ => hS) h _ (Nat.le_of_ble_eq_true hp.2)

/-! One step of a plan -/
variable {i : Nat} {o : Oper} {v : Value} {r : List (Nat × Nat)} {a a' : Act} {w w1 : World}
theorem plan_pure {n : Tmp} (hi : ops[i]? = some o) (hN : o.dst = some n) (hy : Yields P ops o v a) (ha : a.put (some n) v = a') (h : Plan P ops Q S r a' w) : Plan P ops Q S ((i, 0) :: r) a w := by
  subst ha; exact ⟨o, v, hi, hy, hN ▸ h⟩
theorem plan_load {n : Tmp} (hi : ops[i]? = some o) (hN : o.dst = some n) (hy : YieldsIf P ops S o v a) (ha : a.put (some n) v = a') (h : Plan P ops Q S r a' w) : Plan P ops Q S ((i, 1) :: r) a w := by
  subst ha; exact ⟨o, v, hi, hy, hN ▸ h⟩
theorem plan_eff (hi : ops[i]? = some o) (h : ∀ K : Act → World → Prop, Shut (∀ a' w', S w' → Plan P ops Q S r a' w' → K a' w') → OpWp P ops Q o a w K) : Plan P ops Q S ((i, 2) :: r) a w := ⟨o, hi, fun K hK => h K hK⟩
theorem plan_last (hi : ops[i]? = some o) (h : ∀ K : Act → World → Prop, Shut (∀ a' w', Plan P ops Q S r a' w' → K a' w') → OpWp P ops Q o a w K) : Plan P ops Q S ((i, 3) :: r) a w := ⟨o, hi, fun K hK => h K hK⟩
theorem plan_nil (h : Q .normal a w) : Plan P ops Q S [] a w := h
/-- An operation that yields a value, and may make memory. -/
theorem plan_value {n : Tmp} (hi : ops[i]? = some o) (hN : o.dst = some n) (hw : Region.wanted o (yielded ops a.tmps) = true) (hrun : (execOp a.eval o).run P w = .ok (.value v) w1) (hS : S w1) (ha : a.put (some n) v = a') (h : Plan P ops Q S r a' w1) : Plan P ops Q S ((i, 2) :: r) a w := by
  subst ha
  exact plan_eff hi fun K hK => value_ hw rfl hrun (hK.out _ _ hS (hN ▸ h))
/-- A store. -/
theorem plan_store (hi : ops[i]? = some o) (hN : o.dst = none) (hw : Region.wanted o (yielded ops a.tmps) = true) (hrun : (execOp a.eval o).run P w = .ok .skip w1) (h : Plan P ops Q S r a w1) : Plan P ops Q S ((i, 3) :: r) a w :=
  plan_last hi fun K hK => by
    unfold OpWp
    rw [hN]
    exact skip_ hw hN hrun (hK.out _ _ h)
/-- A call of a Go function. -/
theorem plan_call {f : FuncId} {fn : Func} {as : List Operand} {ts : Array TypeId} {n : Tmp} (hi : ops[i]? = some o) (hN : o.dst = some n) (hf : P.funcs[f]? = some fn) (hname : (fn.name == "runtime.NumGoroutine") = false) (hb : fn.body.isSome = true) (args : List Value)
    (hw : Region.wanted o (yielded ops a.tmps) = true) (hop : o.op = .call { callee := .value (.func f), args := as.toArray, argTypes := ts }) (hargs : as.map a.eval = args)
    (h : Calls P f args.toArray w fun e w' => ∃ v, e = .returned v ∧ S w' ∧ Plan P ops Q S r (a.put (some n) v) w') : Plan P ops Q S ((i, 2) :: r) a w := by
  refine plan_eff hi fun K hK => ?_
  unfold OpWp
  rw [hN]
  refine goes_ hf hname hb args.toArray hw hN hop (by rw [List.map_toArray, hargs]) (h.mono fun e w' hh => ?_)
  obtain ⟨v, hv, hs, hp⟩ := hh
  exact ⟨v, hv, hK.out _ _ hs hp⟩
theorem plan_norm (ha : a = a') (h : Plan P ops Q S r a' w) : Plan P ops Q S r a w := ha ▸ h
end
end Go.Proofs.YtcgjdljhpcjmeaaDoor
