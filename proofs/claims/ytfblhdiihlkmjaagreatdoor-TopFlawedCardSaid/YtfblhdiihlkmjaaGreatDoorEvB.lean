/- An evaluator of translated Go code over logical memory, and its soundness (EvB). -/
import Derived.Test.YtfblhdiihlkmjaaGreatDoorEvA
import Derived.Laws.Sem
import Derived.Laws.World
import Derived.Laws.StructEq
/- What logical values and logical memory stand for in the model's own memory; first laws. -/
namespace Go.Ev
open Go

/-! ### lists of cells: what the quick functions come to -/
section lists
variable {α : Type}
theorem dropL_eq (n : Nat) : ∀ l : List α, dropL n l = l.drop n := by
  induction n with
  | zero => intro l; rfl
  | succ n ih => intro l; cases l with
    | nil => rfl
    | cons x l => exact ih l
theorem takeL_eq (n : Nat) : ∀ l : List α, takeL n l = if n ≤ l.length then some (l.take n) else none := by
  induction n with
  | zero => intro l; show some [] = _; simp
  | succ n ih => intro l; cases l with
    | nil => rfl
    | cons x l =>
      show Option.rec (motive := fun _ => Option (List α)) none (fun r => some (x :: r)) (takeL n l) = _
      rw [ih l]
      by_cases h : n ≤ l.length
      · simp [h]
      · simp [h]
theorem takeL_some {n : Nat} {l r : List α} (h : takeL n l = some r) : n ≤ l.length ∧ r = l.take n := by
  rw [takeL_eq] at h
  by_cases hn : n ≤ l.length
  · simp [hn] at h; exact ⟨hn, h.symm⟩
  · simp [hn] at h
theorem rdL_some {vs r : List α} {off n : Nat} (h : rdL vs off n = some r) : off + n ≤ vs.length ∨ n = 0 := by
  unfold rdL at h
  obtain ⟨h1, _⟩ := takeL_some h
  rw [dropL_eq] at h1
  simp at h1
  omega
theorem rdL_eq {vs r : List α} {off n : Nat} (h : rdL vs off n = some r) : r = (vs.drop off).take n ∧ r.length = n := by
  unfold rdL at h
  obtain ⟨h1, h2⟩ := takeL_some h
  rw [dropL_eq] at h1 h2
  exact ⟨h2, by rw [h2]; simp at h1 ⊢; omega⟩
theorem overL_some : ∀ {xs l r : List α}, overL xs l = some r → r = xs ++ l.drop xs.length ∧ xs.length ≤ l.length := by
  intro xs
  induction xs with
  | nil => intro l r h; have : some l = some r := h; simp at this; simp [this]
  | cons x xs ih =>
    intro l r h
    cases l with
    | nil => exact absurd h (by intro h; cases h)
    | cons y l =>
      have h' : Option.rec (motive := fun _ => Option (List α)) none (fun r => some (x :: r)) (overL xs l) = some r := h
      cases ho : overL xs l with
      | none => rw [ho] at h'; cases h'
      | some r' =>
        rw [ho] at h'
        obtain ⟨e1, e2⟩ := ih ho
        cases h'
        exact ⟨by simp [e1], by simp; omega⟩
theorem putL_some : ∀ {n : Nat} {xs l r : List α}, putL n xs l = some r → xs ≠ [] → r = l.take n ++ xs ++ l.drop (n + xs.length) ∧ n + xs.length ≤ l.length := by
  intro n
  induction n with
  | zero =>
    intro xs l r h hx
    have h' : overL xs l = some r := h
    obtain ⟨e1, e2⟩ := overL_some h'
    exact ⟨by simp [e1], by omega⟩
  | succ n ih =>
    intro xs l r h hx
    cases l with
    | nil =>
      cases xs with
      | nil => exact absurd rfl hx
      | cons x xs => exact absurd h (by intro h; cases h)
    | cons y l =>
      have h' : Option.rec (motive := fun _ => Option (List α)) none (fun r => some (y :: r)) (putL n xs l) = some r := h
      cases ho : putL n xs l with
      | none => rw [ho] at h'; cases h'
      | some r' =>
        rw [ho] at h'
        obtain ⟨e1, e2⟩ := ih ho hx
        cases h'
        refine ⟨?_, by simp; omega⟩
        rw [show n + 1 + xs.length = (n + xs.length) + 1 by omega]
        simp [e1]
theorem putL_nil : ∀ {n : Nat} {l r : List α}, putL n ([] : List α) l = some r → r = l := by
  intro n
  induction n with
  | zero => intro l r h; have h' : some l = some r := h; simpa using h'.symm
  | succ n ih =>
    intro l r h
    cases l with
    | nil => have h' : some ([] : List α) = some r := h; simpa using h'.symm
    | cons y l =>
      have h' : Option.rec (motive := fun _ => Option (List α)) none (fun r => some (y :: r)) (putL n [] l) = some r := h
      cases ho : putL n [] l with
      | none => rw [ho] at h'; cases h'
      | some r' => rw [ho] at h'; cases h'; rw [ih ho]
theorem appL_eq (xs ys : List α) : appL xs ys = xs ++ ys := by
  induction xs with
  | nil => rfl
  | cons x xs ih => show x :: appL xs ys = _; rw [ih]; rfl
theorem lenT_eq (n : Nat) : ∀ l : List α, lenT n l = true → l.length = n := by
  induction n with
  | zero => intro l h; cases l with
    | nil => rfl
    | cons x l => cases h
  | succ n ih => intro l h; cases l with
    | nil => cases h
    | cons x l => simp [ih l h]
theorem prefL_some {vs r : List α} {m n : Nat} (hm : m = vs.length) (h : prefL vs m n = some r) : n ≤ vs.length ∧ r = vs.take n := by
  unfold prefL at h
  split at h
  · rename_i he
    have := Nat.eq_of_beq_eq_true he
    simp at h
    subst h
    exact ⟨by omega, by rw [List.take_of_length_le (by omega)]⟩
  · exact takeL_some h
theorem repL_eq (x : List α) (n : Nat) : repL x n = (List.replicate n x).flatten := by
  induction n with
  | zero => rfl
  | succ n ih => show appL x (repL x n) = _; rw [appL_eq, ih, List.replicate_succ, List.flatten_cons]
theorem repL_length (x : List α) (n : Nat) : (repL x n).length = n * x.length := by
  induction n with
  | zero => show ([] : List α).length = _; simp
  | succ n ih => show (appL x (repL x n)).length = _; rw [appL_eq, List.length_append, ih, Nat.succ_mul]; omega
end lists

theorem natK_eq {β : Type} (n : Nat) (k : Nat → β) : natK n k = k n := by cases n <;> rfl
theorem boolAnd_eq (a b : Bool) : boolAnd a b = (a && b) := by cases a <;> rfl
theorem boolNot_eq (a : Bool) : boolNot a = !a := by cases a <;> rfl
theorem boolAnd_true {a b : Bool} : boolAnd a b = true ↔ a = true ∧ b = true := by cases a <;> simp [boolAnd]
theorem eqInt_eq {a b : Int} (h : eqInt a b = true) : a = b := by
  cases a <;> cases b <;> simp only [eqInt, Bool.false_eq_true] at h
  · rw [Nat.eq_of_beq_eq_true h]
  · rw [Nat.eq_of_beq_eq_true h]
theorem eqInt_beq (a b : Int) : eqInt a b = (a == b) := by
  rw [Bool.eq_iff_iff]
  constructor
  · intro h; rw [eqInt_eq h]; simp
  · intro h
    have := eq_of_beq h
    subst this
    cases a <;> simp [eqInt]
theorem ltInt_eq (a b : Int) : ltInt a b = decide (a < b) := by
  unfold ltInt
  split
  · rw [Bool.eq_iff_iff]
    simp only [decide_eq_true_eq, Int.ofNat_eq_natCast, Int.ofNat_lt]
    exact ⟨fun h => Nat.le_of_ble_eq_true h, fun h => Nat.ble_eq_true_of_le h⟩
  · rfl
theorem leInt_eq (a b : Int) : leInt a b = decide (a ≤ b) := by
  unfold leInt
  split
  · rw [Bool.eq_iff_iff]
    simp only [decide_eq_true_eq, Int.ofNat_eq_natCast, Int.ofNat_le]
    exact ⟨fun h => Nat.le_of_ble_eq_true h, fun h => Nat.ble_eq_true_of_le h⟩
  · rfl
theorem addInt_eq (a b : Int) : addInt a b = a + b := by unfold addInt; split <;> rfl
theorem mulInt_eq (a b : Int) : mulInt a b = a * b := by unfold mulInt; split <;> rfl
theorem subInt_eq (a b : Int) : subInt a b = a - b := by
  unfold subInt
  split
  · split
    · rename_i h
      have h := Nat.le_of_ble_eq_true h
      show Int.ofNat (_ - _) = _
      simp only [Int.ofNat_eq_natCast]
      omega
    · rfl
  · rfl
theorem wrapInt_eq (k : IntKind) (n : Int) : wrapInt k n = k.wrap n := by
  unfold wrapInt
  split
  · split
    · rename_i h
      have h := Nat.le_of_ble_eq_true h
      cases k <;> simp [mostOf] at h <;> simp [IntKind.wrap, IntKind.bits, IntKind.signed] <;> omega
    · rfl
  · rfl
theorem inBounds_eq (i : Int) (n : Nat) : inBounds i n = boolAnd (decide (0 ≤ i)) (decide (i < (n : Int))) := by
  unfold inBounds
  split
  · rename_i m
    rw [Bool.eq_iff_iff, boolAnd_eq]
    simp only [Bool.and_eq_true, decide_eq_true_eq, Int.ofNat_eq_natCast]
    exact ⟨fun h => by have := Nat.le_of_ble_eq_true h; omega, fun h => Nat.ble_eq_true_of_le (by omega)⟩
  · rename_i h
    cases i with
    | ofNat m => exact absurd rfl (h m)
    | negSucc m => simp [boolAnd]
theorem evQ_eq (E : Env) (ρ : Operand → LV) (o : Oper) (h : LH) (pa : Path) : evQ E ρ o h pa = evO E ρ o h pa := by
  unfold evQ evO opF
  cases o.op with
  | call c =>
    simp only [oCall, callOF]
    cases c.callee <;> rfl
  | _ => rfl
theorem stepQ_eq (E : Env) (md : Bool) (ih : Rec) : stepQ E md ih = stepC E md ih := by
  funext fr c tm h mks pa
  unfold stepQ stepC codeF
  cases c <;> rfl
theorem kEq_eq {a b : IntKind} (h : kEq a b = true) : a = b := by cases a <;> cases b <;> first | rfl | (exact absurd h (by decide))

/-! ### tries -/
section tries
variable {α : Type}
def Pos.num : Pos → Nat
  | .h => 0
  | .o p => 2 * p.num + 2
  | .i p => 2 * p.num + 1
theorem posF_num : ∀ (f n : Nat), n ≤ f → (posF f n).num = n := by
  intro f
  induction f with
  | zero => intro n h; have : n = 0 := by omega
            subst this; rfl
  | succ f ih =>
    intro n h
    show (Bool.rec (Bool.rec (.o (posF f (Nat.sub (Nat.div n 2) 1))) (.i (posF f (Nat.div n 2))) (Nat.beq (Nat.mod n 2) 1)) .h (Nat.beq n 0) : Pos).num = n
    cases h0 : Nat.beq n 0 with
    | true => simp [Pos.num]; exact (Nat.eq_of_beq_eq_true h0).symm
    | false =>
      have hn : n ≠ 0 := Nat.ne_of_beq_eq_false h0
      cases h1 : Nat.beq (Nat.mod n 2) 1 with
      | true =>
        have e : n % 2 = 1 := Nat.eq_of_beq_eq_true h1
        simp only [Pos.num]
        rw [show Nat.div n 2 = n / 2 from rfl, ih (n / 2) (by omega)]; omega
      | false =>
        have e : n % 2 ≠ 1 := Nat.ne_of_beq_eq_false h1
        simp only [Pos.num]
        rw [show Nat.sub (Nat.div n 2) 1 = n / 2 - 1 from rfl, ih (n / 2 - 1) (by omega)]; omega
theorem pos_num (n : Nat) : (pos n).num = n := posF_num n n (Nat.le_refl n)
theorem pos_inj {m n : Nat} (h : pos m = pos n) : m = n := by rw [← pos_num m, ← pos_num n, h]

theorem Tr.getP_leaf (p : Pos) : Tr.getP p (Tr.leaf : Tr α) = none := by cases p <;> rfl
theorem Tr.getP_setP_same (x : α) : ∀ (p : Pos) (t : Tr α), Tr.getP p (Tr.setP x p t) = some x := by
  intro p
  induction p with
  | h => intro t; cases t <;> rfl
  | o p ih => intro t; cases t <;> exact ih _
  | i p ih => intro t; cases t <;> exact ih _
theorem Tr.getP_setP_ne (x : α) : ∀ (p q : Pos) (t : Tr α), q ≠ p → Tr.getP q (Tr.setP x p t) = Tr.getP q t := by
  intro p
  induction p with
  | h =>
    intro q t hne
    cases q with
    | h => exact absurd rfl hne
    | o q => cases t with
      | leaf => exact Tr.getP_leaf q
      | node v l r => rfl
    | i q => cases t with
      | leaf => exact Tr.getP_leaf q
      | node v l r => rfl
  | o p ih =>
    intro q t hne
    cases q with
    | h => cases t <;> rfl
    | i q => cases t with
      | leaf => exact Tr.getP_leaf q
      | node v l r => rfl
    | o q =>
      have h' : q ≠ p := fun e => hne (by rw [e])
      cases t with
      | leaf => exact (ih q Tr.leaf h').trans (Tr.getP_leaf q)
      | node v l r => exact ih q r h'
  | i p ih =>
    intro q t hne
    cases q with
    | h => cases t <;> rfl
    | o q => cases t with
      | leaf => exact Tr.getP_leaf q
      | node v l r => rfl
    | i q =>
      have h' : q ≠ p := fun e => hne (by rw [e])
      cases t with
      | leaf => exact (ih q Tr.leaf h').trans (Tr.getP_leaf q)
      | node v l r => exact ih q l h'
theorem Tr.get_leaf (n : Nat) : (Tr.leaf : Tr α).get n = none := Tr.getP_leaf _
theorem Tr.get_set (x : α) (t : Tr α) (n m : Nat) : (Tr.set x t n).get m = if m = n then some x else t.get m := by
  unfold Tr.set Tr.get
  by_cases h : m = n
  · subst h; simp [Tr.getP_setP_same]
  · rw [Tr.getP_setP_ne x _ _ _ fun e => h (pos_inj e), if_neg h]
theorem Tr.setPK_eq {β : Type} (x : α) : ∀ (p : Pos) (t : Tr α) (k : Tr α → β), Tr.setPK x p t k = k (Tr.setP x p t) := by
  intro p
  induction p with
  | h => intro t k; cases t <;> rfl
  | o p ih => intro t k; cases t <;> exact ih _ _
  | i p ih => intro t k; cases t <;> exact ih _ _
theorem Tr.setK_eq {β : Type} (x : α) (t : Tr α) (n : Nat) (k : Tr α → β) : Tr.setK x t n k = k (Tr.set x t n) := Tr.setPK_eq x _ t k
end tries

noncomputable def LH.set (h : LH) (id : Nat) (o : LO) : LH := ⟨Tr.set o h.bs id, h.nx, h.ro⟩
noncomputable def LH.add (h : LH) (o : LO) : LH := ⟨Tr.set o h.bs h.nx, h.nx + 1, h.ro⟩
theorem LH.put_eq {β : Type} (h : LH) (id : Nat) (o : LO) (k : LH → β) : h.put id o k = k (h.set id o) := by
  cases h; simp [LH.put, LH.set, Tr.setK_eq]
theorem LH.push_eq {β : Type} (h : LH) (o : LO) (k : Nat → LH → β) : h.push o k = k h.nx (h.add o) := by
  cases h; simp [LH.push, LH.add, Tr.setK_eq, natK_eq]

/-! ### what logical things stand for -/
/-- Where logical blocks lie, and how much room grown ones have. -/
structure Rn where
  s : Nat → Nat
  g : Nat → Nat

def fnR (ρ : Rn) : Fn → Fn
  | .yield l => .yield (ρ.s l)
  | f => f

def LA.real (ρ : Rn) (a : LA) : Addr := ⟨ρ.s a.b, a.off, none⟩

mutual
def LV.real (ρ : Rn) : LV → Value
  | .bool b => .bool b
  | .int k n => .int k n
  | .str s => .string ⟨s.toArray⟩
  | .ptr none => .pointer none
  | .ptr (some a) => .pointer (some (a.real ρ))
  | .slice none l (.kn c) => .slice none l c
  | .slice none l (.un _ _) => .slice none l 0
  | .slice (some a) l (.kn c) => .slice (some (a.real ρ)) l c
  | .slice (some a) l (.un sh back) => .slice (some ⟨ρ.s a.b, if back ≠ 0 ∧ ρ.g a.b = sh then a.off - back else a.off, none⟩) l (ρ.g a.b - sh)
  | .map none => .map none
  | .map (some r) => .map (some (ρ.s r))
  | .fn f first caps => .func (fnR ρ f) (LVs.real ρ first).toArray (LVs.real ρ caps).toArray
  | .nilFn => .nilFunc
  | .iface t v => .iface t (LV.real ρ v)
  | .nilIface => .nilIface
  | .agg cs => .agg (LVs.real ρ cs).toArray
  | .tup vs => .tuple (LVs.real ρ vs).toArray
  | .raw v => v
def LVs.real (ρ : Rn) : List LV → List Value
  | [] => []
  | v :: l => LV.real ρ v :: LVs.real ρ l
end

theorem LVs.real_map (ρ : Rn) (l : List LV) : LVs.real ρ l = l.map (LV.real ρ) := by
  induction l with
  | nil => simp [LVs.real]
  | cons v l ih => simp [LVs.real, ih]

theorem ofV_real (ρ : Rn) (v : Value) : (ofV v).real ρ = v := by
  unfold ofV
  split <;> simp [LV.real]

theorem undefL_real (ρ : Rn) : undefL.real ρ = undef := by simp [undefL, LV.real, LVs.real, undef]

theorem cells_real (ρ : Rn) (v : LV) : (v.real ρ).cells.toList = v.cells.map (LV.real ρ) := by
  cases v with
  | agg cs => simp [LV.real, LV.cells, Value.cells, LVs.real_map]
  | raw v => simp [LV.real, LV.cells, Function.comp_def]
  | ptr a => cases a <;> simp [LV.real, LV.cells, Value.cells]
  | slice a l c => cases a <;> cases c <;> simp [LV.real, LV.cells, Value.cells]
  | map r => cases r <;> simp [LV.real, LV.cells, Value.cells]
  | _ => simp [LV.real, LV.cells, Value.cells]

def ent (ρ : Rn) (e : LV × LV × Nat) : MapEntry := ⟨e.1.real ρ, e.2.1.real ρ, e.2.2⟩

/-- An activation's temporaries. -/
def TmEq (ρ : Rn) (tm : Tr LV) (n : Nat) (T : Array Value) : Prop := T.size = n ∧ ∀ t, T.getD t undef = (tget tm t).real ρ

/-- What a logical object stands for. -/
def OEq (ρ : Rn) (id : Nat) : LO → Option Obj → Prop
  | .cells vs n t gr st, x => n = vs.length ∧ ∃ C fz, x = some (.cells C t fz) ∧ (∃ rest, C.toList = vs.map (LV.real ρ) ++ rest) ∧
      (st = false → fz = (0, 0)) ∧ (∀ o, o < C.size → (decide (fz.1 ≤ o) && decide (o < fz.2)) = false) ∧ (∀ g, gr = some g → C.size = ρ.g id * g)
  | .map es clock, x => x = some (.map (es.map (ent ρ)).toArray clock)
  | .iter s p, x => x = some (.stringIter ⟨s.toArray⟩ p)
  | .loop st pend _ tm n ps as bo df, x => ∃ T fn, x = some (.loop { state := st, pending := pend, fn, tmps := T, params := ps, assign := as, body := bo, defers := ρ.s df }) ∧ TmEq ρ tm n T
  | .defd b, x => x = some (.deferred (match b with
      | true => none
      | false => some []))
  | .dead, _ => True

def LO.live : LO → Bool
  | .dead => false
  | _ => true

/-- So many numbers of blocks are the globals' own. -/
def nG : Nat := 64

/-- What logical memory stands for. -/
structure HEq (ρ : Rn) (h : LH) (w : World) : Prop where
  obj : ∀ id o, h.bs.get id = some o → OEq ρ id o w.heap[ρ.s id]?
  inj : ∀ id id' o o', h.bs.get id = some o → h.bs.get id' = some o' → o.live = true → o'.live = true → ρ.s id = ρ.s id' → id = id'
  glob : ∀ g, g < nG → ρ.s g = g

/-- Blocks that may be written. -/
def Foot (ρ : Rn) (h : LH) (b : Nat) : Prop := ∃ id o, h.bs.get id = some o ∧ o.live = true ∧ h.ro ≤ id ∧ ρ.s id = b

/-- All else is as it was. -/
structure Kept (ρ : Rn) (h : LH) (w w' : World) : Prop where
  size : w.heap.size ≤ w'.heap.size
  same : ∀ b, b < w.heap.size → ¬ Foot ρ h b → w'.heap[b]? = w.heap[b]?
  tape : w'.tape = w.tape
  os : w'.os = w.os
  output : w'.output = w.output

theorem Kept.refl (ρ : Rn) (h : LH) (w : World) : Kept ρ h w w := ⟨Nat.le_refl _, fun _ _ _ => rfl, rfl, rfl, rfl⟩

/-- The blocks that may be written afterwards were so before, or are new. -/
def FootIn (ρ : Rn) (h : LH) (w : World) (ρ' : Rn) (h' : LH) : Prop := ∀ b, Foot ρ' h' b → Foot ρ h b ∨ w.heap.size ≤ b

theorem Kept.trans {ρ ρ' : Rn} {h h' : LH} {w w' w'' : World} (k : Kept ρ h w w') (f : FootIn ρ h w ρ' h') (k' : Kept ρ' h' w' w'') : Kept ρ h w w'' :=
  ⟨Nat.le_trans k.size k'.size, fun b hb hf => by
    rw [k'.same b (Nat.lt_of_lt_of_le hb k.size) (fun hf' => (f b hf').elim hf (fun h => absurd hb (by omega))), k.same b hb hf],
   k'.tape.trans k.tape, k'.os.trans k.os, k'.output.trans k.output⟩
theorem FootIn.trans {ρ ρ' ρ'' : Rn} {h h' h'' : LH} {w w' : World} (f : FootIn ρ h w ρ' h') (hs : w.heap.size ≤ w'.heap.size) (f' : FootIn ρ' h' w' ρ'' h'') : FootIn ρ h w ρ'' h'' :=
  fun b hb => (f' b hb).elim (f b) fun h => .inr (by omega)

end Go.Ev

/- Memory: rows read and written, blocks laid and turned, in the model and in logical memory. -/
namespace Go.Ev
open Go

section
variable {P : Program} {w : World}

theorem run_underlyingE {t : TypeId} {d : TypeDesc} (h : P.underlying t = some d) : (underlying t).run P w = .ok d w := by simp [underlying, h]
theorem run_typeInfoE {t : TypeId} {i : TypeInfo} (h : P.info? t = some i) : (typeInfo t).run P w = .ok i w := by simp [typeInfo, h]
theorem run_sizeOfE {t : TypeId} {i : TypeInfo} (h : P.info? t = some i) : (sizeOf t).run P w = .ok i.size w := by simp [sizeOf, run_typeInfoE h]
theorem run_isAggE {t : TypeId} {d : TypeDesc} (h : P.underlying t = some d) : (isAgg t).run P w = .ok (match d with
    | .struct _ => true
    | .array _ _ => true
    | _ => false) w := by
  simp only [isAgg, Sem.run_bind, run_underlyingE h, Result.andThen_ok]
  cases d <;> rfl
theorem run_zeroValueE {t : TypeId} {i : TypeInfo} {v : Value} (h : P.info? t = some i) (hz : i.zero = some v) : (zeroValue t).run P w = .ok v w := by
  simp [zeroValue, run_typeInfoE h, hz]

theorem add_none (b o i : Nat) : (⟨b, o, none⟩ : Addr).add i = ⟨b, o + i, none⟩ := by
  unfold Addr.add
  split
  · simp [*]
  · rfl

/-- A row of cells that lies at a block. -/
def RowAt (w : World) (b : Nat) (C : Array Value) (t : TypeId) (fz : Nat × Nat) : Prop := w.heap[b]? = some (.cells C t fz)

theorem RowAt.cell {b : Nat} {C : Array Value} {t : TypeId} {fz : Nat × Nat} (h : RowAt w b C t fz) (o : Nat) : w.cell? ⟨b, o, none⟩ = C[o]? := by
  unfold RowAt at h
  simp [World.cell?, h]
theorem RowAt.frozen {b : Nat} {C : Array Value} {t : TypeId} {fz : Nat × Nat} (h : RowAt w b C t fz) (o : Nat) : w.frozen? ⟨b, o, none⟩ = (decide (fz.1 ≤ o) && decide (o < fz.2)) := by
  unfold RowAt at h
  simp [World.frozen?, h]

theorem run_loadCellsFrom_row {b off : Nat} {C : Array Value} {t : TypeId} {fz : Nat × Nat} (h : RowAt w b C t fz) :
    ∀ (n i : Nat) (acc : Array Value), off + i + n ≤ C.size → (loadCellsFrom ⟨b, off, none⟩ i n acc).run P w = .ok (acc ++ C.extract (off + i) (off + i + n)) w := by
  intro n
  induction n with
  | zero => intro i acc _; simp [loadCellsFrom]; omega
  | succ n ih =>
    intro i acc hle
    have hlt : off + i < C.size := by omega
    simp only [loadCellsFrom, Sem.run_bind, run_load, add_none, h.cell, Array.getElem?_eq_getElem hlt, Result.andThen_ok]
    rw [ih (i + 1) _ (by omega)]
    congr 1
    apply Array.ext'
    simp only [Array.toList_append, Array.toList_push, Array.toList_extract, List.append_assoc]
    congr 1
    rw [show off + (i + 1) = off + i + 1 by omega, List.extract_eq_take_drop, List.extract_eq_take_drop,
      show off + i + 1 + n - (off + i + 1) = n by omega, show off + i + (n + 1) - (off + i) = n + 1 by omega]
    have hd : C.toList.drop (off + i) = C[off + i] :: C.toList.drop (off + i + 1) := by
      rw [List.drop_eq_getElem_cons (by simpa using hlt)]; simp
    rw [hd]; rfl

theorem run_loadCells_row {b off n : Nat} {C : Array Value} {t : TypeId} {fz : Nat × Nat} (h : RowAt w b C t fz) (hle : off + n ≤ C.size) :
    (loadCells ⟨b, off, none⟩ n).run P w = .ok (C.extract off (off + n)) w := by
  unfold loadCells
  rw [run_loadCellsFrom_row h n 0 #[] (by omega)]
  simp

/-- The row with some cells laid over. -/
def overlay : List Value → Nat → Array Value → Array Value
  | [], _, C => C
  | v :: vs, o, C => overlay vs (o + 1) (C.setIfInBounds o v)

theorem overlay_size : ∀ (vs : List Value) (o : Nat) (C : Array Value), (overlay vs o C).size = C.size := by
  intro vs
  induction vs with
  | nil => intro o C; rfl
  | cons v vs ih => intro o C; simp [overlay, ih]

theorem overlay_toList : ∀ (vs : List Value) (o : Nat) (C : Array Value), o + vs.length ≤ C.size →
    (overlay vs o C).toList = C.toList.take o ++ vs ++ C.toList.drop (o + vs.length) := by
  intro vs
  induction vs with
  | nil => intro o C _; simp [overlay]
  | cons v vs ih =>
    intro o C h
    simp only [List.length_cons] at h
    simp only [overlay]
    rw [ih (o + 1) _ (by simp; omega)]
    have hlt : o < C.toList.length := by simp; omega
    simp only [Array.toList_setIfInBounds]
    have e1 : (C.toList.set o v).take (o + 1) = C.toList.take o ++ [v] := by
      rw [List.take_succ_eq_append_getElem (by simpa using hlt)]
      simp [List.take_set_of_le]
    have e2 : (C.toList.set o v).drop (o + 1 + vs.length) = C.toList.drop (o + (v :: vs).length) := by
      rw [List.drop_set_of_lt (by omega)]; simp; congr 1; omega
    rw [e1, e2]; simp

/-- A block's row turned. -/
def _root_.Go.World.row (w : World) (b : Nat) (O : Obj) : World := { w with heap := w.heap.setIfInBounds b O }

theorem setCell_row {b o : Nat} {C : Array Value} {t : TypeId} {fz : Nat × Nat} (h : RowAt w b C t fz) (v : Value) : w.setCell ⟨b, o, none⟩ v = w.row b (.cells (C.setIfInBounds o v) t fz) := by
  unfold RowAt at h
  simp only [World.setCell, World.row]
  congr 1
  apply Array.ext_getElem?
  intro i
  obtain ⟨hb, he⟩ := Array.getElem?_eq_some_iff.1 h
  rw [Array.getElem?_modify, Array.getElem?_setIfInBounds]
  by_cases hi : b = i
  · subst hi; simp [hb, he]
  · simp [hi]

theorem rowAt_row {b : Nat} {C C' : Array Value} {t t' : TypeId} {fz fz' : Nat × Nat} (h : RowAt w b C t fz) : RowAt (w.row b (.cells C' t' fz')) b C' t' fz' := by
  unfold RowAt at *
  obtain ⟨hb, _⟩ := Array.getElem?_eq_some_iff.1 h
  simp [World.row, hb]
theorem row_row {b : Nat} {O O' : Obj} : (w.row b O).row b O' = w.row b O' := by
  simp only [World.row]
  congr 1
  apply Array.ext_getElem?
  intro i
  simp only [Array.getElem?_setIfInBounds, Array.size_setIfInBounds]
  split <;> rfl
theorem row_self {b : Nat} {C : Array Value} {t : TypeId} {fz : Nat × Nat} (h : RowAt w b C t fz) : w.row b (.cells C t fz) = w := by
  unfold RowAt at h
  cases w
  simp only [World.row]
  congr 1
  apply Array.ext_getElem?
  intro i
  rw [Array.getElem?_setIfInBounds]
  split
  · rename_i e; subst e
    obtain ⟨hb, he⟩ := Array.getElem?_eq_some_iff.1 h
    rw [if_pos hb]; exact h.symm
  · rfl

theorem run_storeCells_row {b : Nat} {t : TypeId} {fz : Nat × Nat} : ∀ (vs : List Value) (off i : Nat) (w : World) (C : Array Value), RowAt w b C t fz → off + i + vs.length ≤ C.size →
    (∀ o, o < C.size → (decide (fz.1 ≤ o) && decide (o < fz.2)) = false) → (∀ v ∈ vs, v.oneCell' = true) →
    (storeCells ⟨b, off, none⟩ vs i).run P w = .ok () (w.row b (.cells (overlay vs (off + i) C) t fz)) := by
  intro vs
  induction vs with
  | nil => intro off i w C h _ _ _; simp [storeCells, overlay, row_self h]
  | cons v vs ih =>
    intro off i w C h hle hf h1
    simp only [List.length_cons] at hle
    have hlt : off + i < C.size := by omega
    simp only [storeCells, Sem.run_bind, run_store P w _ v .plain (h1 v (by simp)), add_none, h.cell, Array.getElem?_eq_getElem hlt, h.frozen, hf _ hlt, Bool.false_eq_true, if_false, Result.andThen_ok]
    rw [setCell_row h, ih off (i + 1) _ _ (rowAt_row h) (by simp; omega) (by simpa using hf) (fun v hv => h1 v (by simp [hv])), row_row]
    rfl
end

/-! ### logical memory -/
section
variable {ρ : Rn} {h : LH} {w : World}

theorem HEq.heap {w' : World} (hh : HEq ρ h w) (e : w'.heap = w.heap) : HEq ρ h w' := ⟨fun id o ho => by rw [e]; exact hh.obj id o ho, hh.inj, hh.glob⟩
theorem Kept.heap {w' w'' : World} (k : Kept ρ h w w') (e : w''.heap = w'.heap) (e1 : w''.tape = w'.tape) (e2 : w''.os = w'.os) (e3 : w''.output = w'.output) : Kept ρ h w w'' :=
  ⟨by rw [e]; exact k.size, by rw [e]; exact k.same, e1.trans k.tape, e2.trans k.os, e3.trans k.output⟩

theorem OEq.some_of_live {id : Nat} {o : LO} {x : Option Obj} (h : OEq ρ id o x) (hl : o.live = true) : ∃ O, x = some O := by
  cases o with
  | cells vs n t gr st => obtain ⟨_, C, fz, e, _⟩ := h; exact ⟨_, e⟩
  | map es clock => exact ⟨_, h⟩
  | iter s p => exact ⟨_, h⟩
  | loop => obtain ⟨T, fn, e, _⟩ := h; exact ⟨_, e⟩
  | defd b => exact ⟨_, h⟩
  | dead => cases hl

theorem HEq.lt (hh : HEq ρ h w) {id : Nat} {o : LO} (ho : h.bs.get id = some o) (hl : o.live = true) : ρ.s id < w.heap.size := by
  obtain ⟨O, e⟩ := (hh.obj id o ho).some_of_live hl
  exact (Array.getElem?_eq_some_iff.1 e).1

theorem OEq.dead_any {id : Nat} {o : LO} {x y : Option Obj} (h : OEq ρ id o x) (hl : o.live = false) : OEq ρ id o y := by
  cases o <;> first | trivial | cases hl

theorem HEq.add {w' : World} {O : Obj} {o : LO} (hh : HEq ρ h w) (e : w'.heap = w.heap.push O) (hn : ρ.s h.nx = w.heap.size) (ho : OEq ρ h.nx o (some O)) : HEq ρ (h.add o) w' := by
  refine ⟨fun id x hx => ?_, fun id id' x x' hx hx' lx lx' he => ?_, hh.glob⟩
  · simp only [LH.add, Tr.get_set] at hx
    split at hx
    · rename_i e'; subst e'; simp at hx; subst hx
      rw [hn, e]; simpa using ho
    · have hx0 := hh.obj id x hx
      cases hlx : x.live with
      | false => exact hx0.dead_any hlx
      | true =>
        have := hh.lt hx hlx
        rw [e, Array.getElem?_push]
        rw [if_neg (by omega)]; exact hx0
  · simp only [LH.add, Tr.get_set] at hx hx'
    split at hx <;> split at hx'
    · simp_all
    · rename_i e1 _; subst e1
      have := hh.lt hx' lx'
      omega
    · rename_i _ e1; subst e1
      have := hh.lt hx lx
      omega
    · exact hh.inj id id' x x' hx hx' lx lx' he

theorem Kept.add {w' : World} {O : Obj} (e : w'.heap = w.heap.push O) (e1 : w'.tape = w.tape) (e2 : w'.os = w.os) (e3 : w'.output = w.output) : Kept ρ h w w' :=
  ⟨by rw [e]; simp, fun b hb _ => by rw [e, Array.getElem?_push, if_neg (by omega)], e1, e2, e3⟩
theorem FootIn.add {o : LO} (hn : ρ.s h.nx = w.heap.size) : FootIn ρ h w ρ (h.add o) := by
  rintro b ⟨id, x, hx, hl, hr, rfl⟩
  simp only [LH.add, Tr.get_set] at hx
  split at hx
  · rename_i e; subst e; exact .inr (by omega)
  · exact .inl ⟨id, x, hx, hl, hr, rfl⟩

theorem HEq.set {w' : World} {O' : Obj} {o o' : LO} {id : Nat} (hh : HEq ρ h w) (hid : h.bs.get id = some o) (hl : o.live = true) (e : w'.heap = w.heap.setIfInBounds (ρ.s id) O') (ho : OEq ρ id o' (some O')) :
    HEq ρ (h.set id o') w' := by
  have hlt := hh.lt hid hl
  refine ⟨fun id2 x hx => ?_, fun i j x x' hx hx' lx lx' he => ?_, hh.glob⟩
  · simp only [LH.set, Tr.get_set] at hx
    split at hx
    · rename_i e'; subst e'; simp at hx; subst hx
      rw [e]; simpa [hlt] using ho
    · rename_i hne
      have hx0 := hh.obj id2 x hx
      cases hlx : x.live with
      | false => exact hx0.dead_any hlx
      | true =>
        have : ρ.s id ≠ ρ.s id2 := fun e' => hne (hh.inj id2 id x o hx hid hlx hl e'.symm)
        rw [e, Array.getElem?_setIfInBounds_ne this]; exact hx0
  · have look : ∀ k y, (h.set id o').bs.get k = some y → y.live = true → ∃ y', h.bs.get k = some y' ∧ y'.live = true := by
      intro k y hy ly
      simp only [LH.set, Tr.get_set] at hy
      split at hy
      · rename_i e'; subst e'; exact ⟨o, hid, hl⟩
      · exact ⟨y, hy, ly⟩
    obtain ⟨y, hy, ly⟩ := look i x hx lx
    obtain ⟨y', hy', ly'⟩ := look j x' hx' lx'
    exact hh.inj i j y y' hy hy' ly ly' he

theorem Kept.set {w' : World} {O' : Obj} {o : LO} {id : Nat} (hid : h.bs.get id = some o) (hl : o.live = true) (hr : h.ro ≤ id) (e : w'.heap = w.heap.setIfInBounds (ρ.s id) O') (e1 : w'.tape = w.tape) (e2 : w'.os = w.os) (e3 : w'.output = w.output) : Kept ρ h w w' :=
  ⟨by rw [e]; simp, fun b hb hf => by
    rw [e, Array.getElem?_setIfInBounds_ne]
    intro e'; exact hf ⟨id, o, hid, hl, hr, e'⟩, e1, e2, e3⟩
theorem FootIn.set {o o' : LO} {id : Nat} (hid : h.bs.get id = some o) (hl : o.live = true) : FootIn ρ h w ρ (h.set id o') := by
  rintro b ⟨i, x, hx, lx, hr, rfl⟩
  simp only [LH.set, Tr.get_set] at hx
  have hr' : h.ro ≤ i := hr
  split at hx
  · rename_i e; subst e; exact .inl ⟨i, o, hid, hl, hr', rfl⟩
  · exact .inl ⟨i, x, hx, lx, hr', rfl⟩
theorem FootIn.refl (ρ : Rn) (h : LH) (w : World) : FootIn ρ h w ρ h := fun _ hb => .inl hb

/-- A row of a logical block. -/
theorem HEq.row (hh : HEq ρ h w) {b : Nat} {vs : List LV} {n : Nat} {t : TypeId} {gr : Option Nat} {st : Bool} (hb : h.bs.get b = some (.cells vs n t gr st)) :
    n = vs.length ∧ ∃ C fz, RowAt w (ρ.s b) C t fz ∧ (∃ rest, C.toList = vs.map (LV.real ρ) ++ rest) ∧ (st = false → fz = (0, 0)) ∧
      (∀ o, o < C.size → (decide (fz.1 ≤ o) && decide (o < fz.2)) = false) ∧ (∀ g, gr = some g → C.size = ρ.g b * g) := by
  obtain ⟨h1, C, fz, e, r⟩ := hh.obj b _ hb
  exact ⟨h1, C, fz, e, r⟩
end
end Go.Ev

/- Operations that read: what the evaluator tells of them is what the model does. -/
namespace Go.Ev
open Go

section
variable {E : Env}

theorem chooseBr {β : Type} (c : Bool) (pa : Path) (k : Bool → Path → β) : ∃ d pa', br c pa k = k d pa' ∧ (pa'.as = true → pa.as = true ∧ d = c) := by
  unfold br
  split
  · rename_i d ps _
    refine ⟨d, _, rfl, fun h => ?_⟩
    obtain ⟨h1, h2⟩ := boolAnd_true.1 h
    exact ⟨h1, by simpa using (eq_of_beq h2).symm⟩
  · cases c
    · exact ⟨false, pa, rfl, fun h => ⟨h, rfl⟩⟩
    · exact ⟨true, pa, rfl, fun h => ⟨h, rfl⟩⟩

theorem brX {β : Type} {c : Bool} {pa : Path} {k : Bool → Path → β} {X : β} (h : br c pa k = X) : ∃ d pa', k d pa' = X ∧ (pa'.as = true → pa.as = true ∧ d = c) := by
  obtain ⟨d, pa', e, hd⟩ := chooseBr c pa k
  exact ⟨d, pa', e ▸ h, hd⟩

theorem sizeL_some {t : TypeId} {n : Nat} (h : sizeL E t = some n) : ∃ i, E.P.info? t = some i ∧ i.size = n := by
  unfold sizeL at h
  split at h
  · rename_i i hi; exact ⟨i, hi, by simpa using h⟩
  · cases h
theorem run_sizeL {t : TypeId} {n : Nat} (h : sizeL E t = some n) (w : World) : (sizeOf t).run E.P w = .ok n w := by
  obtain ⟨i, hi, rfl⟩ := sizeL_some h
  exact run_sizeOfE hi
theorem run_isAggL {t : TypeId} {b : Bool} (h : isAggL E t = some b) (w : World) : (isAgg t).run E.P w = .ok b w := by
  unfold isAggL at h
  split at h
  · rename_i hu; rw [run_isAggE hu]; simp at h; subst h; rfl
  · rename_i hu; rw [run_isAggE hu]; simp at h; subst h; rfl
  · rename_i d h1 h2 hu
    rw [run_isAggE hu]; simp at h; subst h
    cases d <;> first | rfl | exact (h1 _ rfl).elim | exact (h2 _ _ rfl).elim
  · cases h
theorem zeroL_some {t : TypeId} {z : List LV} (h : zeroL E t = some z) : ∃ i v, E.P.info? t = some i ∧ i.zero = some v ∧ ∀ ρ : Rn, v.cells.toList = z.map (LV.real ρ) := by
  unfold zeroL at h
  split at h
  · rename_i i hi
    split at h
    · rename_i cs hz
      refine ⟨i, _, hi, hz, fun ρ => ?_⟩
      simp at h; subst h
      simp [Value.cells, Function.comp_def, ofV_real]
    · rename_i v hne hz
      refine ⟨i, v, hi, hz, fun ρ => ?_⟩
      simp at h; subst h
      have : v.cells = #[v] := by cases v <;> first | rfl | exact (hne _ rfl).elim
      simp [this, ofV_real]
    · cases h
  · cases h
theorem run_zeroL {t : TypeId} {z : List LV} (h : zeroL E t = some z) (w : World) : ∃ v, (zeroValue t).run E.P w = .ok v w ∧ ∀ ρ : Rn, v.cells.toList = z.map (LV.real ρ) := by
  obtain ⟨i, v, hi, hz, hc⟩ := zeroL_some h
  exact ⟨v, run_zeroValueE hi hz, hc⟩
/-- The zero value of a type that is no struct or array is one cell, and stands by itself. -/
theorem agg_zero {t : TypeId} {z : List LV} (h : zeroL E t = some z) {v : Value} {w : World} (hv : (zeroValue t).run E.P w = .ok v w) :
    (∃ cs : List LV, v = .agg (cs.map (LV.real ⟨id, id⟩)).toArray ∧ z = cs) ∨ ∃ x : LV, z = [x] ∧ ∀ ρ : Rn, v = x.real ρ := by
  unfold zeroL at h
  split at h
  · rename_i i hi
    split at h
    · rename_i cs hz
      rw [run_zeroValueE hi hz] at hv
      simp at hv h
      refine .inl ⟨z, ?_, rfl⟩
      subst h; rw [← hv]
      congr 1
      apply Array.ext'
      simp [Function.comp_def, ofV_real]
    · rename_i v' hne hz
      rw [run_zeroValueE hi hz] at hv
      simp at hv h
      exact .inr ⟨ofV v', h.symm, fun ρ => by rw [ofV_real]; exact hv.symm⟩
    · cases h
  · cases h

theorem real_ext {cs : List LV} {ρ : Rn} {C : Array Value} {rest : List Value} (hC : C.toList = cs.map (LV.real ρ) ++ rest) {off n : Nat} {l : List LV} (h : rdL cs off n = some l) :
    C.extract off (off + n) = (l.map (LV.real ρ)).toArray ∧ (off + n ≤ C.size ∨ n = 0) := by
  have h1 := rdL_some h
  obtain ⟨rfl, h3⟩ := rdL_eq h
  have hs : C.size = cs.length + rest.length := by rw [← Array.length_toList, hC]; simp
  refine ⟨?_, by omega⟩
  apply Array.ext'
  simp only [Array.toList_extract, List.extract_eq_take_drop, hC]
  rcases h1 with h1 | h1
  · rw [List.drop_append_of_le_length (by simp; omega), List.take_append_of_le_length (by simp; omega), show off + n - off = n by omega]
    simp [List.map_take, List.map_drop]
  · subst h1; simp

theorem partL_sound {t : TypeId} {cs : List LV} {off : Nat} {v : LV} (h : partL E t cs off = some v) {ρ : Rn} {C : Array Value} {rest : List Value} (hC : C.toList = cs.map (LV.real ρ) ++ rest) (w : World) :
    (part t C off).run E.P w = .ok (v.real ρ) w := by
  unfold partL at h
  split at h
  · rename_i ha
    split at h
    · rename_i n hn
      split at h
      · rename_i l hl
        simp at h; subst h
        obtain ⟨e, _⟩ := real_ext hC hl
        simp [part, run_isAggL ha, run_sizeL hn, e, LV.real, LVs.real_map]
      · cases h
    · cases h
  · rename_i ha
    rw [dropL_eq] at h
    split at h
    · rename_i x tl hd
      simp at h; subst h
      have hlt : off < cs.length := by
        rcases Nat.lt_or_ge off cs.length with h | h
        · exact h
        · rw [List.drop_eq_nil_of_le h] at hd; cases hd
      have hx : cs[off]? = some x := by
        rw [List.drop_eq_getElem_cons hlt, List.cons.injEq] at hd
        rw [List.getElem?_eq_getElem hlt, hd.1]
      have : C[off]? = some (x.real ρ) := by
        rw [← Array.getElem?_toList, hC, List.getElem?_append_left (by simpa using hlt)]
        simp [hx]
      simp [part, run_isAggL ha, this]
    · cases h
  · cases h

theorem loadL_sound {t : TypeId} {a : LA} {h : LH} {v : LV} (hl : loadL E t a h = some v) {ρ : Rn} {w : World} (hh : HEq ρ h w) : (loadVar t (a.real ρ)).run E.P w = .ok (v.real ρ) w := by
  unfold loadL at hl
  split at hl
  · rename_i vs n tt gr st hb
    obtain ⟨_, C, fz, hrow, ⟨rest, hC⟩, _⟩ := hh.row hb
    unfold partL at hl
    split at hl
    · rename_i ha
      split at hl
      · rename_i m hm
        split at hl
        · rename_i l hr
          simp at hl; subst hl
          obtain ⟨e, hle⟩ := real_ext hC hr
          have hload : (loadCells (a.real ρ) m).run E.P w = .ok (C.extract a.off (a.off + m)) w := by
            rcases hle with hle | rfl
            · exact run_loadCells_row hrow hle
            · simp [loadCells, loadCellsFrom]; omega
          simp [loadVar, run_isAggL ha, run_sizeL hm, hload, e, LV.real, LVs.real_map]
        · cases hl
      · cases hl
    · rename_i ha
      rw [dropL_eq] at hl
      split at hl
      · rename_i x tl hd
        simp at hl; subst hl
        have hlt : a.off < vs.length := by
          rcases Nat.lt_or_ge a.off vs.length with h | h
          · exact h
          · rw [List.drop_eq_nil_of_le h] at hd; cases hd
        have hx : vs[a.off]? = some x := by
          rw [List.drop_eq_getElem_cons hlt, List.cons.injEq] at hd
          rw [List.getElem?_eq_getElem hlt, hd.1]
        have : C[a.off]? = some (x.real ρ) := by
          rw [← Array.getElem?_toList, hC, List.getElem?_append_left (by simpa using hlt)]
          simp [hx]
        have hc : w.cell? (a.real ρ) = some (x.real ρ) := by rw [← this]; exact hrow.cell _
        simp [loadVar, run_isAggL ha, hc]
      · cases hl
    · cases hl
  · cases hl

theorem okv_val {h h' : LH} {pa pa' : Path} {o : Option LV} {v : LV} {c : Bool} (hx : okv h pa o = .val v h' pa' c) : o = some v ∧ h' = h ∧ pa' = pa ∧ c = true := by
  unfold okv at hx
  split at hx
  · cases hx; exact ⟨rfl, rfl, rfl, rfl⟩
  · cases hx

theorem oLoad_sound {t : TypeId} {a v : LV} {h h' : LH} {pa pa' : Path} {c : Bool} (hx : oLoad E t a h pa = .val v h' pa' c) :
    h' = h ∧ pa' = pa ∧ ∀ (ρ : Rn) (w : World), HEq ρ h w → (Instr.loadAt t (a.real ρ)).run E.P w = .ok (v.real ρ) w := by
  unfold oLoad at hx
  split at hx
  · rename_i a
    obtain ⟨h1, h2, h3, _⟩ := okv_val hx
    refine ⟨h2, h3, fun ρ w hh => ?_⟩
    simp [Instr.loadAt, LV.real, Instr.sureAddr, loadL_sound h1 hh]
  · cases hx

/-! ### numbers, texts -/
theorem binK_sound {op : BinOp} {k : IntKind} {a b : Int} {v : LV} {ok : Bool} (h : binK op k a b = some (v, ok)) (hok : ok = true) (ρ : Rn) (w : World) (P : Program) (t : TypeId) :
    (binOp op t (.int k a) (.int k b)).run P w = .ok (v.real ρ) w := by
  cases op <;> simp only [eqInt_beq, ltInt_eq, leInt_eq, addInt_eq, subInt_eq, mulInt_eq, wrapInt_eq, binK, bAdd, bSub, bMul, bQuo, bRem, bAnd, bOr, bXor, bAndNot, bShl, bShr, tb, Option.some.injEq, Prod.mk.injEq] at h <;> obtain ⟨rfl, h2⟩ := h
  case shl =>
    rw [← h2] at hok
    have hb : ¬ b < 0 := by have := of_decide_eq_true hok; omega
    simp [binOp, Op.shift, hb, LV.real]
  case shr =>
    rw [← h2] at hok
    have hb : ¬ b < 0 := by have := of_decide_eq_true hok; omega
    simp [binOp, Op.shift, hb, LV.real]
  case quo =>
    rw [← h2, boolNot_eq] at hok
    have hb : b ≠ 0 := by intro e; subst e; simp at hok
    simp [binOp, Op.intDiv, hb, LV.real]
  case rem =>
    rw [← h2, boolNot_eq] at hok
    have hb : b ≠ 0 := by intro e; subst e; simp at hok
    simp [binOp, Op.intDiv, hb, LV.real]
  all_goals simp [binOp, Op.intArith, Op.intBits, Op.intCmp, LV.real, boolNot_eq, bne]

theorem shift_sound {op : BinOp} {k k' : IntKind} {a b : Int} {v : LV} {ok : Bool} (hs : isShift op = true) (h : binK op k a b = some (v, ok)) (hok : ok = true) (ρ : Rn) (w : World) (P : Program) (t : TypeId) :
    (binOp op t (.int k a) (.int k' b)).run P w = .ok (v.real ρ) w := by
  cases op <;> first | (cases hs; done) | skip
  all_goals
    simp only [binK, bShl, bShr, Option.some.injEq, Prod.mk.injEq] at h
    obtain ⟨rfl, h2⟩ := h
    rw [← h2] at hok
    have hb : ¬ b < 0 := by have := of_decide_eq_true hok; omega
    simp [binOp, Op.shift, hb, LV.real]

theorem toList_str (s : List UInt8) : (⟨s.toArray⟩ : ByteArray).toList = s := by simp

theorem binL_sound {op : BinOp} {x y v : LV} {ok : Bool} (h : binL op x y = some (v, ok)) (hok : ok = true) (ρ : Rn) (w : World) (P : Program) (t : TypeId) (xo yo : Operand) :
    (do eqGuard op t xo yo (x.real ρ) (y.real ρ); binOp op t (x.real ρ) (y.real ρ)).run P w = .ok (v.real ρ) w := by
  unfold binL at h
  split at h
  · rename_i k a
    split at h
    · rename_i k' b
      have hg : (eqGuard op t xo yo (.int k a) (.int k' b)).run P w = .ok () w := by unfold eqGuard; split <;> simp
      simp only [LV.real, Sem.run_bind, hg, Result.andThen_ok]
      unfold binI at h
      split at h
      · rename_i hk
        obtain rfl := kEq_eq hk
        exact binK_sound h hok ρ w P t
      · split at h
        · rename_i hs
          exact shift_sound hs h hok ρ w P t
        · cases h
    · cases h
  · rename_i a
    split at h
    · rename_i b
      have hg : (eqGuard op t xo yo (.string ⟨a.toArray⟩) (.string ⟨b.toArray⟩)).run P w = .ok () w := by unfold eqGuard; split <;> simp
      simp only [LV.real, Sem.run_bind, hg, Result.andThen_ok]
      unfold binS at h
      split at h
      · simp only [Option.some.injEq, Prod.mk.injEq] at h
        obtain ⟨rfl, h2⟩ := h
        rw [← h2] at hok
        have hle := Nat.le_of_ble_eq_true hok
        have e1 : (⟨a.toArray⟩ : ByteArray).size = a.length := by simp [ByteArray.size]
        have e2 : (⟨b.toArray⟩ : ByteArray).size = b.length := by simp [ByteArray.size]
        have e3 : ((⟨a.toArray⟩ : ByteArray) ++ (⟨b.toArray⟩ : ByteArray)) = ⟨(a ++ b).toArray⟩ := ByteArray.ext (by simp)
        have hm : IntKind.i64.max = 9223372036854775807 := by decide
        have hn : ¬ (((a.length + b.length : Nat) : Int) > IntKind.i64.max) := by rw [hm]; omega
        simp only [binOp, Op.stringOp, LV.real]
        rw [e1, e2, if_neg hn, e3]
        rfl
      · simp only [tb, Option.some.injEq, Prod.mk.injEq] at h
        obtain ⟨rfl, h2⟩ := h
        simp [binOp, Op.stringOp, LV.real]
      · simp only [tb, Option.some.injEq, Prod.mk.injEq] at h
        obtain ⟨rfl, h2⟩ := h
        simp [binOp, Op.stringOp, LV.real, boolNot_eq]
      · cases h
    · cases h
  · cases h

theorem unL_sound {op : UnOp} {x v : LV} (h : unL op x = some v) (ρ : Rn) (w : World) (P : Program) : (Op.unary op (x.real ρ)).run P w = .ok (v.real ρ) w := by
  unfold unL at h
  split at h <;> simp at h <;> try subst h
  all_goals simp [Op.unary, Op.intArith, Op.intBits, LV.real, boolNot_eq]
end
end Go.Ev

/- More operations that read, or only reckon: equality, slices, addresses, parts, look-ups. -/
namespace Go.Ev
open Go

/-- What is asked of the program and of what is told beside it. -/
structure EnvBase (E : Env) : Prop where
  eq : ∀ t, E.eqOk t = true → E.P.stoodInHeld t = false ∧ E.P.eqGuardType E.P.depth t = false

section
variable {E : Env}

theorem agg_toList (ρ : Rn) (cs : List LV) : ((LVs.real ρ cs).toArray : Array Value).toList = cs.map (LV.real ρ) ++ [] := by simp [LVs.real_map]

theorem slice_real (ρ : Rn) (a : Option LA) (l : Nat) (c : Cp) : ∃ a' c', (LV.slice a l c).real ρ = .slice a' l c' ∧ a'.isNone = a.isNone := by
  cases a with
  | none => cases c <;> exact ⟨_, _, rfl, rfl⟩
  | some a => cases c <;> exact ⟨_, _, rfl, rfl⟩
theorem map_real (ρ : Rn) (r : Option Nat) : ∃ r', (LV.map r).real ρ = .map r' ∧ r'.isNone = r.isNone := by
  cases r <;> exact ⟨_, rfl, rfl⟩

theorem eqFields_sound {eq : TypeId → LV → LV → Option Bool} {d : Nat} {ρ : Rn} {w : World}
    (heq : ∀ t x y b, eq t x y = some b → (Op.equalIn d t (x.real ρ) (y.real ρ)).run E.P w = .ok b w) :
    ∀ (fs : List Field) (xs ys : List LV) (b : Bool), eqFields E eq fs xs ys = some b → (Op.eqFields d (LVs.real ρ xs).toArray (LVs.real ρ ys).toArray fs).run E.P w = .ok b w := by
  intro fs
  induction fs with
  | nil => intro xs ys b h; simp [eqFields] at h; subst h; simp [Op.eqFields]
  | cons f fs ih =>
    intro xs ys b h
    simp only [eqFields] at h
    split at h
    · cases h
    · rename_i hn
      split at h
      · rename_i a b' ha hb
        split at h
        · rename_i e he
          split at h
          · rename_i r hr
            simp only [Option.some.injEq] at h
            have hne : f.name ≠ "_" := by intro e; rw [e] at hn; simp at hn
            have h1 := partL_sound ha (agg_toList ρ xs) w
            have h2 := partL_sound hb (agg_toList ρ ys) w
            simp only [Op.eqFields, hne, ne_eq, not_false_eq_true, if_true, Sem.run_bind, h1, h2, Result.andThen_ok, heq _ _ _ _ he]
            cases e
            · simp [boolAnd] at h; subst h; simp
            · simp [boolAnd] at h; subst h; simp [ih _ _ _ hr]
          · cases h
        · cases h
      · cases h

theorem row_shape {w : World} {b : Nat} {C : Array Value} {t : TypeId} {fz : Nat × Nat} (h : RowAt w b C t fz) : w.shape? b = some (t, C.size) := by
  unfold RowAt at h; simp [World.shape?, h]

theorem row_frozen0 {w : World} {b : Nat} {C : Array Value} {t : TypeId} (h : RowAt w b C t (0, 0)) (o : Nat) (s : Option Nat) : w.frozen? ⟨b, o, s⟩ = false := by
  unfold RowAt at h; simp [World.frozen?, h]

theorem run_sameAddr_rows {w : World} {a b : Addr} {C D : Array Value} {t u : TypeId} (ha : RowAt w a.block C t (0, 0)) (hb : RowAt w b.block D u (0, 0)) (P : Program) :
    (sameAddr a b).run P w = .ok (a == b) w := by
  obtain ⟨ab, ao, as⟩ := a
  obtain ⟨bb, bo, bs⟩ := b
  simp only at ha hb
  unfold sameAddr
  by_cases he : ab = bb
  · subst he; simp
  · have hne : (⟨ab, ao, as⟩ : Addr) ≠ ⟨bb, bo, bs⟩ := fun e => he (by injection e)
    have h0 : (ab == bb) = false := by simpa using he
    have h1 : ((⟨ab, ao, as⟩ : Addr) == ⟨bb, bo, bs⟩) = false := by simpa using hne
    simp only [h0, Bool.false_eq_true, if_false, h1]
    simp [row_frozen0 ha, row_frozen0 hb, noView, viewAt, mayBeOne, stringish, row_shape ha, row_shape hb]

theorem eqL_sound (hE : EnvBase E) {h : LH} {ρ : Rn} {w : World} (hh : HEq ρ h w) : ∀ (n D : Nat), n ≤ D → ∀ (t : TypeId) (x y : LV) (b : Bool), eqL E h n t x y = some b →
    (Op.equalIn D t (x.real ρ) (y.real ρ)).run E.P w = .ok b w := by
  intro n
  induction n with
  | zero => intro D _ t x y b h; cases h
  | succ n ih =>
    intro D hD t x y b hx
    obtain ⟨D, rfl⟩ : ∃ D', D = D' + 1 := ⟨D - 1, by omega⟩
    have ih' := ih D (by omega)
    change eqStep E h (eqL E h n) t x y = some b at hx
    unfold eqStep at hx
    split at hx
    · rename_i hu; simp at hx; subst hx; simp [LV.real, run_equalIn_bool' w D t _ _ hu]
    · rename_i hu
      split at hx
      · rename_i hk
        obtain rfl := kEq_eq hk
        simp at hx; subst hx
        simp [LV.real, run_equalIn_int w D t _ _ _ _ hu]
      · cases hx
    · rename_i hu; simp at hx; subst hx; simp [LV.real, run_equalIn_string w D t _ _ hu]
    · rename_i hu; simp at hx; subst hx; simp [LV.real, Op.equalIn, run_underlyingE hu]
    · rename_i hu; simp at hx; subst hx; simp [LV.real, Op.equalIn, run_underlyingE hu]
    · rename_i hu; simp at hx; subst hx; simp [LV.real, Op.equalIn, run_underlyingE hu]
    · rename_i e p q hu
      split at hx
      · rename_i m hs
        split at hx
        · rename_i hp hq
          obtain ⟨_, C, fz, hC, _, hz, _⟩ := hh.row hp
          obtain ⟨_, D', fz', hD', _, hz', _⟩ := hh.row hq
          obtain rfl := hz rfl
          obtain rfl := hz' rfl
          have hsame := run_sameAddr_rows (a := p.real ρ) (b := q.real ρ) hC hD' E.P
          have hb : ((p.real ρ) == (q.real ρ)) = b := by
            split at hx
            · rename_i hbb
              have hbb := Nat.eq_of_beq_eq_true hbb
              simp only [Option.some.injEq] at hx
              subst hx
              simp only [LA.real, hbb]
              rw [Bool.eq_iff_iff]
              simp
            · rename_i hbb
              have hbb := Nat.ne_of_beq_eq_false hbb
              simp only [Option.some.injEq] at hx
              subst hx
              have : ρ.s p.b ≠ ρ.s q.b := fun e => hbb (hh.inj _ _ _ _ hp hq rfl rfl e)
              simp [LA.real, this]
          simp only [LV.real, Op.equalIn, Sem.run_bind, run_underlyingE hu, Result.andThen_ok, run_sizeL hs, ne_eq]
          simp only [Nat.succ_eq_add_one, Nat.add_eq_zero_iff, Nat.succ_ne_self, and_false, not_false_eq_true, if_true]
          rw [hsame, hb]
        · cases hx
      · cases hx
    · rename_i l1 c1 sb l2 c2 hu
      obtain ⟨a1, c1', e1, n1⟩ := slice_real ρ none l1 c1
      obtain ⟨a2, c2', e2, n2⟩ := slice_real ρ sb l2 c2
      simp only [Option.some.injEq] at hx
      rw [e1, e2]
      obtain rfl : a1 = none := by simpa using n1
      simp [Op.equalIn, run_underlyingE hu, n2, hx]
    · rename_i sa l1 c1 l2 c2 hnn hu
      obtain ⟨a1, c1', e1, n1⟩ := slice_real ρ sa l1 c1
      obtain ⟨a2, c2', e2, n2⟩ := slice_real ρ none l2 c2
      simp only [Option.some.injEq] at hx
      rw [e1, e2]
      obtain rfl : a2 = none := by simpa using n2
      cases sa with
      | none => exact (hnn rfl).elim
      | some sa =>
        obtain ⟨a1', rfl⟩ : ∃ z, a1 = some z := by cases a1 <;> simp at n1 ⊢
        simp [Op.equalIn, run_underlyingE hu, hx]
    · rename_i r hu
      obtain ⟨r', e2, n2⟩ := map_real ρ r
      simp only [Option.some.injEq] at hx
      rw [e2]
      simp [LV.real, Op.equalIn, run_underlyingE hu, n2, hx]
    · rename_i r hnn hu
      simp only [Option.some.injEq] at hx
      cases r with
      | none => exact (hnn rfl).elim
      | some r => simp [LV.real, Op.equalIn, run_underlyingE hu, hx]
    · rename_i hu; simp at hx; subst hx; simp [LV.real, Op.equalIn, run_underlyingE hu]
    · rename_i hu; simp at hx; subst hx; simp [LV.real, Op.equalIn, run_underlyingE hu]
    · rename_i hu; simp at hx; subst hx; simp [LV.real, Op.equalIn, run_underlyingE hu]
    · rename_i fields xs ys hu
      split at hx
      · rename_i he
        obtain ⟨h1, _⟩ := hE.eq t he
        have hf : E.P.fieldsOf t = fields := by simp [Program.fieldsOf, hu]
        simp only [LV.real]
        rw [run_equalIn_struct w D t _ _ (by rw [hf]; exact hu) h1, hf]
        exact eqFields_sound ih' _ _ _ _ hx
      · cases hx
    · cases hx
end
end Go.Ev

/- Operations that only reckon: building, addresses, parts, slices, conversions. -/
namespace Go.Ev
open Go

section
variable {E : Env}

/-! ### building -/
theorem zipFold (off : Nat) : ∀ (l : List Value) (k : Nat) (C : Array Value), (l.zipIdx k).foldl (fun cs x => cs.setIfInBounds (off + x.2) x.1) C = overlay l (off + k) C := by
  intro l
  induction l with
  | nil => intro k C; rfl
  | cons v l ih => intro k C; simp only [List.zipIdx_cons, List.foldl_cons, overlay]; rw [ih (k + 1)]; rfl

theorem fillL_sound {place : Nat → Option (Nat × Nat)} {place' : Nat → Option (Nat × Nat)} (hp : ∀ i x, place i = some x → place' i = some x) (ρ : Rn) :
    ∀ (parts : List (Nat × LV)) (cells cells' : List LV) (C : Array Value), C.toList = cells.map (LV.real ρ) → fillL place cells parts = some cells' →
      ∃ C' : Array Value, Instr.fill place' C (parts.map fun p => (p.1, p.2.real ρ)) = some C' ∧ C'.toList = cells'.map (LV.real ρ) := by
  intro parts
  induction parts with
  | nil => intro cells cells' C hC h; simp [fillL] at h; subst h; exact ⟨C, rfl, hC⟩
  | cons p parts ih =>
    intro cells cells' C hC h
    obtain ⟨i, v⟩ := p
    simp only [fillL] at h
    split at h
    · cases h
    · rename_i off size hpl
      split at h
      · cases h
      rename_i m
      split at h
      · cases h
      · rename_i hlen
        have hlen := lenT_eq _ _ hlen
        split at h
        · rename_i cells2 hput
          have hvc : (v.real ρ).cells.size = v.cells.length := by rw [← Array.length_toList, cells_real]; simp
          have hCs : C.size = cells.length := by rw [← Array.length_toList, hC]; simp
          have hfold : ((v.real ρ).cells.zipIdx.foldl (fun cs (c, j) => cs.setIfInBounds (off + j) c) C) = overlay (v.cells.map (LV.real ρ)) off C := by
            rw [← Array.foldl_toList, Array.toList_zipIdx, cells_real]
            exact zipFold off _ 0 C
          simp only [List.map_cons, Instr.fill, hp _ _ hpl, hfold]
          have hnil : v.cells ≠ [] := by intro e; rw [e] at hlen; cases hlen
          obtain ⟨e1, e2⟩ := putL_some hput hnil
          have hc1 : ((v.real ρ).cells.size ≠ m + 1 || off + (v.real ρ).cells.size > C.size) = false := by
            rw [hvc, hCs]; simp; omega
          have hov : (overlay (v.cells.map (LV.real ρ)) off C).toList = cells2.map (LV.real ρ) := by
            rw [overlay_toList _ _ _ (by rw [hCs]; simpa using e2), hC, e1]
            simp [List.map_take, List.map_drop]
          obtain ⟨C', h1, h2⟩ := ih cells2 cells' _ hov h
          refine ⟨C', ?_, h2⟩
          rw [← h1]
          rw [if_neg (by rw [hc1]; simp)]
        · cases h

theorem fieldAt_some {fields : Array Field} {i : Nat} {x : Nat × Nat} (h : fieldAt E fields i = some x) : ∃ f, fields[i]? = some f ∧ f.offset = x.1 ∧ sizeL E f.type = some x.2 := by
  unfold fieldAt at h
  split at h
  · rename_i f hf
    split at h
    · rename_i s hs
      simp only [Option.some.injEq] at h
      subst h
      exact ⟨f, hf, rfl, hs⟩
    · cases h
  · cases h

theorem run_places (w : World) : ∀ (l : List Field), (∀ f ∈ l, (sizeL E f.type).isSome = true) →
    (l.mapM (fun f => do pure (f.offset, ← sizeOf f.type) : Field → Sem (Nat × Nat))).run E.P w = .ok (l.map fun f => (f.offset, (sizeL E f.type).getD 0)) w := by
  intro l
  induction l with
  | nil => intro _; simp
  | cons f l ih =>
    intro h
    obtain ⟨n, hn⟩ := Option.isSome_iff_exists.1 (h f (by simp))
    simp only [List.mapM_cons, Sem.run_bind, run_sizeL hn, Result.andThen_ok, Sem.run_pure]
    rw [ih fun f hf => h f (by simp [hf])]
    simp [hn]

theorem okAgg_val {h h' : LH} {pa pa' : Path} {o : Option (List LV)} {v : LV} {c : Bool} (hx : okAgg h pa o = .val v h' pa' c) : ∃ cs, o = some cs ∧ v = .agg cs ∧ h' = h ∧ pa' = pa := by
  unfold okAgg at hx
  split at hx
  · cases hx; exact ⟨_, rfl, rfl, rfl, rfl⟩
  · cases hx

theorem oBuild_sound {t : TypeId} {parts : List (Nat × LV)} {v : LV} {h h' : LH} {pa pa' : Path} {c : Bool} (hx : oBuild E t parts h pa = .val v h' pa' c) :
    h' = h ∧ pa' = pa ∧ ∀ (ρ : Rn) (w : World) (ps : Array (Nat × Value)), ps.toList = parts.map (fun p => (p.1, p.2.real ρ)) → (Instr.build t ps).run E.P w = .ok (v.real ρ) w := by
  unfold oBuild at hx
  split at hx
  · cases hx
  rename_i z hz
  split at hx
  · rename_i fields hu
    split at hx
    · rename_i hall
      obtain ⟨cs, hf, rfl, rfl, rfl⟩ := okAgg_val hx
      refine ⟨rfl, rfl, fun ρ w ps hps => ?_⟩
      obtain ⟨zv, hzv, hzc⟩ := run_zeroL hz w
      have hall' : ∀ f ∈ fields.toList, (sizeL E f.type).isSome = true := by
        intro f hf; exact (Array.all_eq_true_iff_forall_mem.1 hall) f (by simpa using hf)
      have hpl := run_places (E := E) w fields.toList hall'
      have hmap : (fields.mapM (fun f => do pure (f.offset, ← sizeOf f.type) : Field → Sem (Nat × Nat))).run E.P w = .ok (fields.toList.map fun f => (f.offset, (sizeL E f.type).getD 0)).toArray w := by
        rw [Array.mapM_eq_mapM_toList]
        simp only [Sem.run_map, hpl, Result.andThen_ok]
      obtain ⟨C', h1, h2⟩ := fillL_sound (place' := fun i => (fields.toList.map fun f => (f.offset, (sizeL E f.type).getD 0)).toArray[i]?) (fun i x hi => by
        obtain ⟨f, hf, ho, hs⟩ := fieldAt_some hi
        have : fields.toList[i]? = some f := by simpa using hf
        simp [hf, hs, ho]) ρ parts z cs zv.cells (hzc ρ) hf
      rw [← hps] at h1
      simp only [Instr.build, Sem.run_bind, hzv, run_underlyingE hu, Result.andThen_ok, hmap, h1, Sem.run_pure, LV.real]
      congr 2
      apply Array.ext'
      rw [h2]; simp [LVs.real_map]
    · cases hx
  · rename_i n e hu
    split at hx
    · cases hx
    rename_i s hs
    obtain ⟨cs, hf, rfl, rfl, rfl⟩ := okAgg_val hx
    refine ⟨rfl, rfl, fun ρ w ps hps => ?_⟩
    obtain ⟨zv, hzv, hzc⟩ := run_zeroL hz w
    obtain ⟨C', h1, h2⟩ := fillL_sound (place' := fun i => some (i * s, s)) (fun i x hi => hi) ρ parts z cs zv.cells (hzc ρ) hf
    rw [← hps] at h1
    simp only [Instr.build, Sem.run_bind, hzv, run_underlyingE hu, Result.andThen_ok, run_sizeL hs, h1, Sem.run_pure, LV.real]
    congr 2
    apply Array.ext'
    rw [h2]; simp [LVs.real_map]
  · cases hx

/-! ### equality -/
theorem binOp_eql {t : TypeId} {X Y : Value} (h : ∀ k n, X ≠ .int k n) (h1 : ∀ s, X ≠ .string s) (h2 : ∀ k b, X ≠ .float k b) (h3 : ∀ k a b, X ≠ .complex k a b) :
    binOp .eql t X Y = (do pure (.bool (← Op.equal t X Y))) := by
  cases X <;> first | exact absurd rfl (h _ _) | exact absurd rfl (h1 _) | exact absurd rfl (h2 _ _) | exact absurd rfl (h3 _ _ _) | (cases Y <;> rfl)
theorem binOp_neq {t : TypeId} {X Y : Value} (h : ∀ k n, X ≠ .int k n) (h1 : ∀ s, X ≠ .string s) (h2 : ∀ k b, X ≠ .float k b) (h3 : ∀ k a b, X ≠ .complex k a b) :
    binOp .neq t X Y = (do pure (.bool (!(← Op.equal t X Y)))) := by
  cases X <;> first | exact absurd rfl (h _ _) | exact absurd rfl (h1 _) | exact absurd rfl (h2 _ _) | exact absurd rfl (h3 _ _ _) | (cases Y <;> rfl)

theorem eqAsk_guard (hE : EnvBase E) {t : TypeId} {x y : LV} (h : eqAsk E t x y = true) (op : BinOp) (ρ : Rn) (w : World) (xo yo : Operand) :
    (eqGuard op t xo yo (x.real ρ) (y.real ρ)).run E.P w = .ok () w ∧ (∀ k n, x.real ρ ≠ .int k n) ∧ (∀ s, x.real ρ ≠ .string s) ∧ (∀ k b, x.real ρ ≠ .float k b) ∧ (∀ k a b, x.real ρ ≠ .complex k a b) := by
  have plain : ∀ X Y : Value, (X ≠ .nilIface) → (∀ cs, X ≠ .agg cs) → (eqGuard op t xo yo X Y).run E.P w = .ok () w := by
    intro X Y h1 h2
    cases op <;> first
      | rfl
      | (cases X <;> first
          | exact absurd rfl h1
          | exact absurd rfl (h2 _)
          | rfl)
  cases x with
  | int k n => cases h
  | str s => cases h
  | raw v => cases h
  | nilIface => cases h
  | agg cs =>
    cases y with
    | agg ds =>
      have he : E.eqOk t = true := h
      refine ⟨?_, by simp [LV.real], by simp [LV.real], by simp [LV.real], by simp [LV.real]⟩
      cases op <;> first
        | rfl
        | simp [eqGuard, LV.real, (hE.eq t he).2]
    | _ => cases h
  | ptr a => cases a <;> exact ⟨plain _ _ (by simp [LV.real]) (by simp [LV.real]), by simp [LV.real], by simp [LV.real], by simp [LV.real], by simp [LV.real]⟩
  | map a => cases a <;> exact ⟨plain _ _ (by simp [LV.real]) (by simp [LV.real]), by simp [LV.real], by simp [LV.real], by simp [LV.real], by simp [LV.real]⟩
  | slice a l c =>
    obtain ⟨a', c', e, _⟩ := slice_real ρ a l c
    rw [e]
    exact ⟨plain _ _ (by simp) (by simp), by simp, by simp, by simp, by simp⟩
  | _ => exact ⟨plain _ _ (by simp [LV.real]) (by simp [LV.real]), by simp [LV.real], by simp [LV.real], by simp [LV.real], by simp [LV.real]⟩

def eqOp : Bool → BinOp
  | true => .neq
  | false => .eql

theorem oEq_sound (hE : EnvBase E) {no : Bool} {t : TypeId} {x y v : LV} {h h' : LH} {pa pa' : Path} {c : Bool} (hx : oEq E no t x y h pa = .val v h' pa' c) :
    h' = h ∧ pa' = pa ∧ ∀ (ρ : Rn) (w : World) (xo yo : Operand), HEq ρ h w →
      (do eqGuard (eqOp no) t xo yo (x.real ρ) (y.real ρ); binOp (eqOp no) t (x.real ρ) (y.real ρ)).run E.P w = .ok (v.real ρ) w := by
  unfold oEq at hx
  split at hx
  · rename_i b hb
    split at hx
    · rename_i ha
      cases hx
      refine ⟨rfl, rfl, fun ρ w xo yo hh => ?_⟩
      have hg := (eqAsk_guard hE ha (eqOp no) ρ w xo yo).1
      obtain ⟨_, h1, h2, h3, h4⟩ := eqAsk_guard hE ha .eql ρ w xo yo
      have heq := eqL_sound hE hh 9 Op.maxDepth (by decide) t x y b hb
      simp only [Sem.run_bind, hg, Result.andThen_ok]
      cases no
      · simp only [eqOp, binOp_eql h1 h2 h3 h4, Op.equal, Sem.run_bind, heq, Result.andThen_ok, Sem.run_pure, LV.real]
      · simp only [eqOp, binOp_neq h1 h2 h3 h4, Op.equal, Sem.run_bind, heq, Result.andThen_ok, Sem.run_pure, LV.real, boolNot_eq]
    · cases hx
  · cases hx

theorem oBin_sound (hE : EnvBase E) {op : BinOp} {t : TypeId} {x y v : LV} {h h' : LH} {pa pa' : Path} {c : Bool} (hx : oBin E op t x y h pa = .val v h' pa' c) (hc : c = true) :
    h' = h ∧ pa' = pa ∧ ∀ (ρ : Rn) (w : World) (xo yo : Operand), HEq ρ h w →
      (do eqGuard op t xo yo (x.real ρ) (y.real ρ); binOp op t (x.real ρ) (y.real ρ)).run E.P w = .ok (v.real ρ) w := by
  unfold oBin at hx
  split at hx
  · rename_i v' ok hb
    cases hx
    exact ⟨rfl, rfl, fun ρ w xo yo _ => binL_sound hb hc ρ w E.P t xo yo⟩
  · split at hx
    · exact oEq_sound hE hx
    · exact oEq_sound hE hx
    · cases hx

/-! ### addresses, parts, slices -/
theorem at_real (ρ : Rn) (a : LA) (sz i : Nat) : (a.at sz i).real ρ = (a.real ρ).add (i * sz) := by
  unfold LA.at
  split
  · rename_i h
    have := Nat.eq_of_beq_eq_true h
    simp only [LA.real, add_none, LA.off]
    congr 1
    show (a.r + i) * a.st + a.c = a.r * a.st + a.c + i * sz
    rw [this, Nat.add_mul]; omega
  · simp only [LA.real, add_none, LA.off]
    congr 1
    show i * sz + (a.r * a.st + a.c) = a.r * a.st + a.c + i * sz
    omega

theorem inBounds_true {i : Int} {n : Nat} (h : inBounds i n = true) : 0 ≤ i ∧ i < n := by
  obtain ⟨h1, h2⟩ := boolAnd_true.1 (inBounds_eq i n ▸ h)
  exact ⟨of_decide_eq_true h1, of_decide_eq_true h2⟩

theorem oFieldAddr_sound {s : TypeId} {x v : LV} {f : Nat} {h h' : LH} {pa pa' : Path} {c : Bool} (hx : oFieldAddr E s x f h pa = .val v h' pa' c) :
    h' = h ∧ pa' = pa ∧ ∀ (ρ : Rn) (w : World), (Instr.fieldAt s (x.real ρ) f).run E.P w = .ok (v.real ρ) w := by
  unfold oFieldAddr at hx
  split at hx
  · rename_i fields a hu
    split at hx
    · rename_i off n hf
      cases hx
      obtain ⟨fd, h1, h2, h3⟩ := fieldAt_some hf
      refine ⟨rfl, rfl, fun ρ w => ?_⟩
      simp only at h2 h3
      simp only [Instr.fieldAt, LV.real, Sem.run_bind, run_underlyingE hu, Result.andThen_ok, h1, Instr.sureAddr, Sem.run_pure, fieldPlace, run_sizeL h3, LA.real, add_none, h2, LA.off]
      rw [if_neg (by omega)]
      simp only [Sem.run_pure, Result.andThen_ok]
      rw [show Nat.add (Nat.mul a.r a.st) (Nat.add a.c off) = Nat.add (Nat.mul a.r a.st) a.c + off from by show a.r * a.st + (a.c + off) = a.r * a.st + a.c + off; omega]
    · cases hx
  · cases hx

theorem oField_sound {t : TypeId} {x v : LV} {f : Nat} {h h' : LH} {pa pa' : Path} {c : Bool} (hx : oField E t x f h pa = .val v h' pa' c) :
    h' = h ∧ pa' = pa ∧ ∀ (ρ : Rn) (w : World), (Instr.field t (x.real ρ) f).run E.P w = .ok (v.real ρ) w := by
  unfold oField at hx
  split at hx
  · rename_i fields cs hu
    split at hx
    · rename_i fd hf
      obtain ⟨h1, h2, h3, _⟩ := okv_val hx
      refine ⟨h2, h3, fun ρ w => ?_⟩
      simp only [Instr.field, LV.real, Sem.run_bind, run_underlyingE hu, Result.andThen_ok, hf, asAgg, Sem.run_pure]
      exact partL_sound h1 (agg_toList ρ cs) w
    · cases hx
  · cases hx

theorem oAt_val {e : TypeId} {a : LA} {ok : Bool} {i : Int} {h h' : LH} {pa pa' : Path} {v : LV} {c : Bool} (hx : oAt E e a i ok h pa = .val v h' pa' c) :
    ∃ sz, sizeL E e = some sz ∧ v = .ptr (some (a.at sz i.toNat)) ∧ h' = h ∧ pa' = pa ∧ c = ok := by
  unfold oAt at hx
  split at hx
  · rename_i sz hs; cases hx; exact ⟨sz, hs, rfl, rfl, rfl, rfl⟩
  · cases hx

theorem capOk_real {c : Cp} (h : capOk c = true) (ρ : Rn) (a : LA) (len : Nat) : ∃ cap, (LV.slice (some a) len c).real ρ = .slice (some (a.real ρ)) len cap := by
  cases c with
  | kn n => exact ⟨n, rfl⟩
  | un sh back =>
    have : back = 0 := Nat.eq_of_beq_eq_true h
    subst this
    exact ⟨_, by simp [LV.real, LA.real]; rfl⟩

theorem oIndexAddr_sound {t : TypeId} {x ix v : LV} {h h' : LH} {pa pa' : Path} {c : Bool} (hx : oIndexAddr E t x ix h pa = .val v h' pa' c) (hc : c = true) :
    h' = h ∧ pa' = pa ∧ ∀ (ρ : Rn) (w : World), (Instr.indexAt t (x.real ρ) (ix.real ρ)).run E.P w = .ok (v.real ρ) w := by
  unfold oIndexAddr at hx
  split at hx
  · rename_i k i
    split at hx
    · rename_i a
      split at hx
      · rename_i len e hu
        obtain ⟨sz, hs, rfl, rfl, rfl, rfl⟩ := oAt_val hx
        obtain ⟨h0, h1⟩ := inBounds_true hc
        refine ⟨rfl, rfl, fun ρ w => ?_⟩
        simp [Instr.indexAt, LV.real, asIntOf, run_underlyingE hu, Instr.sureAddr, h0, h1, run_sizeL hs, at_real]
      · cases hx
    · rename_i a len cp
      split at hx
      · rename_i e hu
        obtain ⟨sz, hs, rfl, rfl, rfl, rfl⟩ := oAt_val hx
        obtain ⟨hc1, hc2⟩ := boolAnd_true.1 hc
        obtain ⟨h0, h1⟩ := inBounds_true hc1
        refine ⟨rfl, rfl, fun ρ w => ?_⟩
        obtain ⟨cap, e⟩ := capOk_real hc2 ρ a len
        rw [e]
        simp [Instr.indexAt, LV.real, asIntOf, run_underlyingE hu, h0, h1, run_sizeL hs, at_real]
      · cases hx
    · cases hx
  · cases hx

theorem oIndex_sound {t : TypeId} {x ix v : LV} {h h' : LH} {pa pa' : Path} {c : Bool} (hx : oIndex E t x ix h pa = .val v h' pa' c) (hc : c = true) :
    h' = h ∧ pa' = pa ∧ ∀ (ρ : Rn) (w : World), (Instr.index t (x.real ρ) (ix.real ρ)).run E.P w = .ok (v.real ρ) w := by
  unfold oIndex at hx
  split at hx
  · rename_i k i
    split at hx
    · rename_i cs
      split at hx
      · rename_i len e hu
        split at hx
        · rename_i sz hs
          split at hx
          · rename_i v' hp
            cases hx
            obtain ⟨h0, h1⟩ := inBounds_true hc
            refine ⟨rfl, rfl, fun ρ w => ?_⟩
            have := partL_sound hp (agg_toList ρ cs) w
            simp only [Instr.index, LV.real, asIntOf, run_underlyingE hu, h0, h1, run_sizeL hs, Sem.run_bind, Sem.run_pure, Result.andThen_ok, and_self, if_true]
            exact this
          · cases hx
        · cases hx
      · cases hx
    · rename_i s
      split at hx
      · rename_i hu
        cases hx
        obtain ⟨h0, h1⟩ := inBounds_true hc
        refine ⟨rfl, rfl, fun ρ w => ?_⟩
        have hlt : i.toNat < s.length := by omega
        have hg : (⟨s.toArray⟩ : ByteArray)[i.toNat]? = some s[i.toNat] := by
          have : i.toNat < (⟨s.toArray⟩ : ByteArray).size := by simpa [ByteArray.size] using hlt
          rw [getElem?_pos (⟨s.toArray⟩ : ByteArray) i.toNat this]
          rfl
        simp [Instr.index, LV.real, asIntOf, run_underlyingE hu, h0, hg, List.getD_eq_getElem?_getD, List.getElem?_eq_getElem hlt]
      · cases hx
    · cases hx
  · cases hx

theorem oPick_sound {x a b v : LV} {h h' : LH} {pa pa' : Path} {c : Bool} (hx : oPick x a b h pa = .val v h' pa' c) (hp : pa'.as = true) :
    h' = h ∧ pa.as = true ∧ ∀ (ρ : Rn) (w : World) (P : Program), (do pure (.value (if ← asBool (x.real ρ) then a.real ρ else b.real ρ)) : Sem Next).run P w = .ok (.value (v.real ρ)) w := by
  unfold oPick at hx
  split at hx
  · rename_i cb
    obtain ⟨d, pa2, hx, hd⟩ := brX hx
    cases d
    · cases hx
      obtain ⟨h1, h2⟩ := hd hp
      subst h2
      exact ⟨rfl, h1, fun ρ w P => by simp [LV.real, asBool]⟩
    · cases hx
      obtain ⟨h1, h2⟩ := hd hp
      subst h2
      exact ⟨rfl, h1, fun ρ w P => by simp [LV.real, asBool]⟩
  · cases hx

theorem oNilCheck_val {x v : LV} {h h' : LH} {pa pa' : Path} {c : Bool} (hx : oNilCheck x h pa = .val v h' pa' c) : ∃ a, x = .ptr (some a) ∧ v = .ptr (some a) ∧ h' = h ∧ pa' = pa := by
  unfold oNilCheck at hx
  split at hx
  · cases hx; exact ⟨_, rfl, rfl, rfl, rfl⟩
  · cases hx

theorem oIface_sound {t : TypeId} {x v : LV} {h h' : LH} {pa pa' : Path} {c : Bool} (hx : oIface E t x h pa = .val v h' pa' c) :
    h' = h ∧ pa' = pa ∧ ∀ (ρ : Rn) (w : World), (Instr.makeInterface t (x.real ρ)).run E.P w = .ok (v.real ρ) w := by
  unfold oIface at hx
  split at hx
  · cases hx
  · rename_i d hne hu
    cases hx
    refine ⟨rfl, rfl, fun ρ w => ?_⟩
    simp only [Instr.makeInterface, Sem.run_bind, run_underlyingE hu, Result.andThen_ok]
    cases d <;> first | rfl | exact (hne _ hu).elim
  · cases hx

theorem oExtract_sound {x v : LV} {ix : Nat} {h h' : LH} {pa pa' : Path} {c : Bool} (hx : oExtract x ix h pa = .val v h' pa' c) :
    h' = h ∧ pa' = pa ∧ ∀ (ρ : Rn) (w : World) (P : Program), (Instr.extract (x.real ρ) ix).run P w = .ok (v.real ρ) w := by
  unfold oExtract at hx
  split at hx
  · rename_i vs
    rw [dropL_eq] at hx
    split at hx
    · rename_i y tl hd
      cases hx
      refine ⟨rfl, rfl, fun ρ w P => ?_⟩
      have hlt : ix < vs.length := by
        rcases Nat.lt_or_ge ix vs.length with h | h
        · exact h
        · rw [List.drop_eq_nil_of_le h] at hd; cases hd
      rw [List.drop_eq_getElem_cons hlt, List.cons.injEq] at hd
      have : (LVs.real ρ vs).toArray[ix]? = some (v.real ρ) := by
        simp [LVs.real_map, List.getElem?_eq_getElem hlt, hd.1]
      simp [Instr.extract, LV.real, this]
    · cases hx
  · cases hx
end
end Go.Ev

/- Slices of slices, conversions, look-ups, assertions, len and its kin. -/
namespace Go.Ev
open Go

section
variable {E : Env}

theorem boundL_sound {v : LV} {y n : Nat} {ok : Bool} (h : boundL v y = some (n, ok)) (hok : ok = true) (ρ : Rn) (w : World) (P : Program) (code : BoundsCode) :
    (Instr.sliceBound (v.real ρ) y code).run P w = .ok n w ∧ n ≤ y := by
  unfold boundL at h
  split at h
  · rename_i k i
    simp only [Option.some.injEq, Prod.mk.injEq] at h
    obtain ⟨rfl, h2⟩ := h
    rw [← h2] at hok
    obtain ⟨h0, h1⟩ := boolAnd_true.1 hok
    have h0 := of_decide_eq_true h0
    have h1 := of_decide_eq_true h1
    exact ⟨by simp [Instr.sliceBound, LV.real, asIntOf, h0, h1], by omega⟩
  · cases h

theorem boundsL_sound {len cap l hn : Nat} {lo hi : Option LV} {ok : Bool} (h : boundsL len cap lo hi = some (l, hn, ok)) (hok : ok = true) (ρ : Rn) (w : World) (P : Program) (isSlice : Bool) :
    (Instr.sliceBounds isSlice len cap (lo.map (LV.real ρ)) (hi.map (LV.real ρ)) none).run P w = .ok (l, hn, cap) w ∧ l ≤ hn ∧ (hn = len ∨ hn ≤ cap) := by
  unfold boundsL at h
  split at h
  · split at h
    · simp only [Option.some.injEq, Prod.mk.injEq] at h
      obtain ⟨rfl, rfl, rfl⟩ := h
      exact ⟨by simp [Instr.sliceBounds], Nat.zero_le _, .inl rfl⟩
    · split at h
      · rename_i lv _ _ hb
        simp only [Option.some.injEq, Prod.mk.injEq] at h
        obtain ⟨rfl, rfl, rfl⟩ := h
        obtain ⟨h1, h2⟩ := boundL_sound hb hok ρ w P .sliceB
        exact ⟨by simp [Instr.sliceBounds, h1], h2, .inl rfl⟩
      · cases h
  · split at h
    · cases h
    · rename_i hv _ hb
      split at h
      · simp only [Option.some.injEq, Prod.mk.injEq] at h
        obtain ⟨rfl, rfl, rfl⟩ := h
        obtain ⟨h1, h2⟩ := boundL_sound hb hok ρ w P (if isSlice then .sliceAcap else .sliceAlen)
        exact ⟨by simp [Instr.sliceBounds, h1], Nat.zero_le _, .inr h2⟩
      · split at h
        · rename_i _ _ hb2
          simp only [Option.some.injEq, Prod.mk.injEq] at h
          obtain ⟨rfl, rfl, h3⟩ := h
          rw [← h3] at hok
          obtain ⟨k1, k2⟩ := boolAnd_true.1 hok
          obtain ⟨h1, h2⟩ := boundL_sound hb k1 ρ w P (if isSlice then .sliceAcap else .sliceAlen)
          obtain ⟨h4, h5⟩ := boundL_sound hb2 k2 ρ w P .sliceB
          exact ⟨by simp [Instr.sliceBounds, h1, h4], h5, .inr h2⟩
        · cases h

theorem unOk_sound {a : LA} {sh len : Nat} {h : LH} (hx : unOk a sh len h = true) {ρ : Rn} {w : World} (hh : HEq ρ h w) : sh + len ≤ ρ.g a.b := by
  unfold unOk at hx
  split at hx
  · rename_i vs n t g st hb
    obtain ⟨hn, C, fz, hrow, ⟨rest, hC⟩, _, _, hg⟩ := hh.row hb
    have h1 := Nat.le_of_ble_eq_true hx
    have h2 : C.size = ρ.g a.b * (g + 1) := hg (g + 1) rfl
    have h3 : C.size = vs.length + rest.length := by rw [← Array.length_toList, hC]; simp
    have h4 : (sh + len) * (g + 1) ≤ ρ.g a.b * (g + 1) := by
      have h1' : (sh + len) * (g + 1) ≤ n := h1
      omega
    exact Nat.le_of_mul_le_mul_right h4 (by omega)
  · cases hx

theorem at_off (a : LA) (sz i : Nat) : (a.at sz i).off = a.off + i * sz := by
  have := at_real ⟨id, id⟩ a sz i
  simp only [LA.real, add_none, Addr.mk.injEq] at this
  exact this.2.1
theorem at_b (a : LA) (sz i : Nat) : (a.at sz i).b = a.b := by unfold LA.at; split <;> rfl

theorem sliceS_sound {t e : TypeId} {sz : Nat} (hu : E.P.underlying t = some (.slice e)) (hs : sizeL E e = some sz) {x v : LV} {lo hi : Option LV} {h : LH} {ok : Bool} (hx : sliceS sz x lo hi h = some (v, ok)) (hok : ok = true)
    {ρ : Rn} {w : World} (hh : HEq ρ h w) : (Instr.sliceAt t (x.real ρ) (lo.map (LV.real ρ)) (hi.map (LV.real ρ)) none).run E.P w = .ok (v.real ρ) w := by
  unfold sliceS at hx
  split at hx
  · rename_i a len cap
    unfold cutKn at hx
    split at hx
    · rename_i l hn ok' hb
      simp only [Option.some.injEq, Prod.mk.injEq] at hx
      obtain ⟨rfl, h2⟩ := hx
      subst h2
      obtain ⟨h1, h3, _⟩ := boundsL_sound hb hok ρ w E.P true
      cases a with
      | none =>
        simp only [Instr.sliceAt, Instr.slice, LV.real, Sem.run_bind, run_underlyingE hu, Result.andThen_ok, h1, run_sizeL hs, Sem.run_pure]
        cases hbq : Nat.beq cap l
        · simp [LV.real]
        · simp [LV.real]
      | some a =>
        simp only [Instr.sliceAt, Instr.slice, LV.real, Sem.run_bind, run_underlyingE hu, Result.andThen_ok, h1, run_sizeL hs, Sem.run_pure]
        cases hbq : Nat.beq cap l
        · have hne : cap ≠ l := Nat.ne_of_beq_eq_false hbq
          simp [LV.real, hne, at_real]
        · have heq : cap = l := Nat.eq_of_beq_eq_true hbq
          simp [LV.real, heq]
    · cases hx
  · rename_i a len sh back
    split at hx
    · cases hx
    rename_i hun
    have hcap := unOk_sound hun hh
    split at hx
    · unfold cutUn0 at hx
      split at hx
      · rename_i l hn ok' hb
        simp only [Option.some.injEq, Prod.mk.injEq] at hx
        obtain ⟨rfl, h2⟩ := hx
        subst h2
        have hl0 : l = 0 := by
          unfold boundsL at hb
          split at hb
          · simp at hb; exact hb.1.symm
          · split at hb
            · cases hb
            · simp at hb; exact hb.1.symm
        subst hl0
        have hb' : boundsL len (ρ.g a.b - sh) none hi = some (0, hn, ok') ∨ ∃ hv, hi = some hv := by
          cases hi with
          | none => simp [boundsL] at hb ⊢; exact hb
          | some hv => exact .inr ⟨hv, rfl⟩
        have hrun : (Instr.sliceBounds true len (ρ.g a.b - sh) none (hi.map (LV.real ρ)) none).run E.P w = .ok (0, hn, ρ.g a.b - sh) w := by
          rcases hb' with hb' | ⟨hv, rfl⟩
          · exact (boundsL_sound hb' hok ρ w E.P true).1
          · simp only [boundsL] at hb
            split at hb
            · cases hb
            · rename_i n0 ok0 hb0
              simp only [Option.some.injEq, Prod.mk.injEq] at hb
              obtain ⟨_, rfl, rfl⟩ := hb
              unfold boundL at hb0
              split at hb0
              · rename_i k i
                simp only [Option.some.injEq, Prod.mk.injEq] at hb0
                obtain ⟨rfl, h2⟩ := hb0
                rw [← h2] at hok
                obtain ⟨k0, k1⟩ := boolAnd_true.1 hok
                have k0 := of_decide_eq_true k0
                have k1 := of_decide_eq_true k1
                have k2 : i ≤ ((ρ.g a.b - sh : Nat) : Int) := by omega
                simp [Instr.sliceBounds, Instr.sliceBound, LV.real, asIntOf, k0, k2]
              · cases hb0
        simp only [Option.map_none, Instr.sliceAt, Instr.slice, LV.real, Sem.run_bind, run_underlyingE hu, Result.andThen_ok, hrun, run_sizeL hs, Sem.run_pure, Nat.zero_mul]
        simp [Addr.add]
      · cases hx
    · rename_i lov
      split at hx
      · unfold cutUn at hx
        split at hx
        · rename_i l hn ok' hb
          simp only [Option.some.injEq, Prod.mk.injEq] at hx
          obtain ⟨rfl, h2⟩ := hx
          subst h2
          -- the bounds within the length are bounds within the room
          have hrun : (Instr.sliceBounds true len (ρ.g a.b - sh) (some (lov.real ρ)) (hi.map (LV.real ρ)) none).run E.P w = .ok (l, hn, ρ.g a.b - sh) w ∧ l ≤ hn ∧ hn ≤ len := by
            obtain ⟨h1, h3, h4⟩ := boundsL_sound hb hok ρ w E.P true
            refine ⟨?_, h3, by omega⟩
            cases hi with
            | none =>
              simp only [boundsL] at hb
              have hb2 : boundsL len (ρ.g a.b - sh) (some lov) none = some (l, hn, ok') := by simp only [boundsL]; exact hb
              exact (boundsL_sound hb2 hok ρ w E.P true).1
            | some hv =>
              simp only [boundsL] at hb
              split at hb
              · cases hb
              · rename_i n0 ok0 hb0
                split at hb
                · rename_i l0 ok1 hb1
                  simp only [Option.some.injEq, Prod.mk.injEq] at hb
                  obtain ⟨rfl, rfl, h5⟩ := hb
                  rw [← h5] at hok
                  obtain ⟨j1, j2⟩ := boolAnd_true.1 hok
                  obtain ⟨r1, _⟩ := boundL_sound hb1 j2 ρ w E.P .sliceB
                  unfold boundL at hb0
                  split at hb0
                  · rename_i k i
                    simp only [Option.some.injEq, Prod.mk.injEq] at hb0
                    obtain ⟨e1, h2⟩ := hb0
                    subst e1
                    rw [← h2] at j1
                    obtain ⟨k0, k1⟩ := boolAnd_true.1 j1
                    have k0 := of_decide_eq_true k0
                    have k1 := of_decide_eq_true k1
                    have k2 : i ≤ ((ρ.g a.b - sh : Nat) : Int) := by omega
                    simp only [Option.map_some, Instr.sliceBounds, Sem.run_bind, Sem.run_pure, Result.andThen_ok, LV.real]
                    have r0 : ∀ code, (Instr.sliceBound (.int k i) (ρ.g a.b - sh) code).run E.P w = .ok i.toNat w := fun code => by
                      simp [Instr.sliceBound, asIntOf, k0, k2]
                    simp only [r0, Result.andThen_ok, Option.isSome_none, Bool.false_eq_true, if_false, r1]
                  · cases hb0
                · cases hb
          obtain ⟨hrun, hl1, hl2⟩ := hrun
          simp only [Option.map_some, Instr.sliceAt, Instr.slice, LV.real, Sem.run_bind, run_underlyingE hu, Result.andThen_ok, hrun, run_sizeL hs, Sem.run_pure]
          have hoff := at_off a sz l
          have hbl2 : (a.at sz l).b = a.b := at_b a sz l
          have e0 : Nat.add sh l = sh + l := rfl
          have e1 : Nat.sub hn l = hn - l := rfl
          have e2 : ρ.g a.b - sh - l = ρ.g a.b - (sh + l) := by omega
          rw [e0, e1, e2, hbl2]
          congr 2
          simp only [ne_eq, not_true_eq_false, false_and, if_false, add_none]
          cases hbl : Nat.blt l len
          · have hl : l = len := by
              rcases Nat.lt_or_ge l len with h | h
              · have : Nat.blt l len = true := Nat.ble_eq_true_of_le h
                rw [this] at hbl; cases hbl
              · omega
            have e3 : Nat.mul l sz = l * sz := rfl
            simp only [e3]
            by_cases hC : ρ.g a.b = sh + l
            · have : ρ.g a.b - sh = l := by omega
              by_cases hz : l * sz = 0
              · simp [this, hz, hoff]
              · simp [hz, hC, hoff]
            · have : ρ.g a.b - sh ≠ l := by omega
              simp [this, hC, hoff]
          · have hlt : l + 1 ≤ len := Nat.le_of_ble_eq_true hbl
            have hne : ρ.g a.b - sh ≠ l := by omega
            simp [hne, hoff]
        · cases hx
      · cases hx
  · cases hx

theorem okv2_val {h h' : LH} {pa pa' : Path} {o : Option (LV × Bool)} {v : LV} {c : Bool} (hx : okv2 h pa o = .val v h' pa' c) : o = some (v, c) ∧ h' = h ∧ pa' = pa := by
  unfold okv2 at hx
  split at hx
  · cases hx; exact ⟨rfl, rfl, rfl⟩
  · cases hx

theorem extract_str (s : List UInt8) (l hn : Nat) : (⟨s.toArray⟩ : ByteArray).extract l hn = ⟨((s.take hn).drop l).toArray⟩ := by
  apply ByteArray.ext
  apply Array.ext'
  simp [ByteArray.data_extract, List.extract_eq_take_drop, List.drop_take]

theorem oSlice_sound {t : TypeId} {x v : LV} {lo hi : Option LV} {mx : Option Operand} {h h' : LH} {pa pa' : Path} {c : Bool} (hx : oSlice E t x lo hi mx h pa = .val v h' pa' c) (hc : c = true) :
    h' = h ∧ pa' = pa ∧ mx = none ∧ ∀ (ρ : Rn) (w : World), HEq ρ h w → (Instr.sliceAt t (x.real ρ) (lo.map (LV.real ρ)) (hi.map (LV.real ρ)) none).run E.P w = .ok (v.real ρ) w := by
  unfold oSlice at hx
  split at hx
  · obtain ⟨h1, h2, h3⟩ := okv2_val hx
    refine ⟨h2, h3, rfl, fun ρ w hh => ?_⟩
    unfold sliceL at h1
    split at h1
    · rename_i hu
      split at h1
      · rename_i s
        unfold cutStr at h1
        split at h1
        · rename_i l hn ok hb
          simp only [Option.some.injEq, Prod.mk.injEq] at h1
          obtain ⟨rfl, rfl⟩ := h1
          obtain ⟨hr, _⟩ := boundsL_sound hb hc ρ w E.P false
          have hsz : (⟨s.toArray⟩ : ByteArray).size = s.length := by simp [ByteArray.size]
          simp only [Instr.sliceAt, Instr.slice, LV.real, Sem.run_bind, run_underlyingE hu, Result.andThen_ok, Option.isSome_none, Bool.false_eq_true, if_false, hsz, hr, Sem.run_pure, extract_str]
        · cases h1
      · cases h1
    · rename_i e hu
      split at h1
      · cases h1
      · rename_i sz hs
        exact sliceS_sound hu hs h1 hc hh
    · rename_i n e hu
      split at h1
      · cases h1
      · rename_i sz hs
        split at h1
        · rename_i a
          unfold cutArr at h1
          split at h1
          · rename_i l hn ok hb
            simp only [Option.some.injEq, Prod.mk.injEq] at h1
            obtain ⟨rfl, rfl⟩ := h1
            obtain ⟨hr, _⟩ := boundsL_sound hb hc ρ w E.P false
            simp only [Instr.sliceAt, LV.real, Sem.run_bind, run_underlyingE hu, Result.andThen_ok, Instr.sureAddr, hr, Sem.run_pure, run_sizeL hs]
            cases hbq : Nat.beq n l
            · have hne : n ≠ l := Nat.ne_of_beq_eq_false hbq
              simp [hne, at_real]
            · have heq : n = l := Nat.eq_of_beq_eq_true hbq
              simp [heq]
          · cases h1
        · cases h1
    · cases h1
  · cases hx

theorem bytesL_sound (ρ : Rn) : ∀ {cs : List LV} {s : List UInt8}, bytesL cs = some s → ∀ (acc : ByteArray) (w : World) (P : Program),
    (forIn (cs.map (LV.real ρ)) acc (fun c s => match c with
      | .int .u8 n => pure (ForInStep.yield (s.push (UInt8.ofNat n.toNat)))
      | _ => (do (stuck "bytesToString: byte expected" : Sem PUnit); pure (ForInStep.yield s))) : Sem ByteArray).run P w = .ok ⟨acc.data ++ s.toArray⟩ w := by
  intro cs
  induction cs with
  | nil => intro s h acc w P; simp [bytesL] at h; subst h; simp
  | cons c cs ih =>
    intro s h acc w P
    unfold bytesL at h
    split at h
    · rename_i heq; cases heq
    · rename_i n l heq
      simp only [List.cons.injEq] at heq
      obtain ⟨rfl, rfl⟩ := heq
      split at h
      · rename_i r hr
        simp only [Option.some.injEq] at h
        subst h
        simp only [List.map_cons, List.forIn_cons, LV.real, Sem.run_bind, Sem.run_pure, Result.andThen_ok]
        rw [ih hr]
        simp [ByteArray.push]
      · cases h
    · cases h

theorem firstL_sound {sz n : Nat} {x : LV} {h : LH} {cs : List LV} (hx : firstL sz n x h = some cs) {ρ : Rn} {w : World} (hh : HEq ρ h w) (P : Program) :
    (Builtin.firstCells sz n (x.real ρ)).run P w = .ok (cs.map (LV.real ρ)).toArray w := by
  unfold firstL at hx
  split at hx
  · rename_i l c
    split at hx
    · simp at hx; subst hx
      obtain ⟨a', c', e, hn⟩ := slice_real ρ none l c
      obtain rfl : a' = none := by simpa using hn
      rw [e]; simp [Builtin.firstCells]
    · cases hx
  · rename_i a l c
    split at hx
    · simp at hx; subst hx
      obtain ⟨a', c', e, hn⟩ := slice_real ρ (some a) l c
      obtain ⟨a1, rfl⟩ : ∃ z, a' = some z := by cases a' <;> simp at hn ⊢
      rw [e]; simp [Builtin.firstCells, loadCells, loadCellsFrom]
    · rename_i m
      split at hx
      · rename_i vs nn t gr st hc hb
        obtain ⟨cap, e⟩ := capOk_real hc ρ a l
        obtain ⟨_, C, fz, hrow, ⟨rest, hC⟩, _⟩ := hh.row hb
        obtain ⟨he, hle⟩ := real_ext hC hx
        rw [e]
        simp only [Builtin.firstCells]
        have : Nat.mul (m + 1) sz = (m + 1) * sz := rfl
        rw [this] at he hle
        rcases hle with hle | hz
        · rw [show a.real ρ = ⟨ρ.s a.b, a.off, none⟩ from rfl, run_loadCells_row hrow hle, he]
        · rw [hz] at he ⊢
          rw [← he]
          simp [loadCells, loadCellsFrom]; omega
      · cases hx
  · rename_i s
    split at hx
    · rename_i l _ hl
      obtain ⟨h1, rfl⟩ := takeL_some hl
      simp only [Option.some.injEq] at hx
      subst hx
      simp only [LV.real, Builtin.firstCells, extract_str, Sem.run_pure]
      congr 1
      apply Array.ext'
      simp [LV.real, Function.comp_def]
    · cases hx
  · cases hx

theorem firstL_len {sz n : Nat} {x : LV} {h : LH} {cs : List LV} (hx : firstL sz n x h = some cs) : cs.length = n * sz := by
  unfold firstL at hx
  split at hx
  · split at hx
    · simp at hx; subst hx; simp
    · cases hx
  · split at hx
    · simp at hx; subst hx; simp
    · split at hx
      · exact (rdL_eq hx).2
      · cases hx
  · split at hx
    · rename_i l h1 hl
      obtain rfl := Nat.eq_of_beq_eq_true h1
      obtain ⟨h1, rfl⟩ := takeL_some hl
      simp only [Option.some.injEq] at hx
      subst hx
      simp; omega
    · cases hx
  · cases hx

theorem oText_sound {t e : TypeId} (hu : E.P.underlying t = some (.slice e)) {dst : TypeId} (hd : E.P.underlying dst = some .string) {x v : LV} {h h' : LH} {pa pa' : Path} {c : Bool} (hx : oText E e x h pa = .val v h' pa' c) :
    h' = h ∧ pa' = pa ∧ ∀ (ρ : Rn) (w : World), HEq ρ h w → (convert t dst (x.real ρ)).run E.P w = .ok (v.real ρ) w := by
  unfold oText at hx
  split at hx
  · rename_i l cp he
    cases hx
    refine ⟨rfl, rfl, fun ρ w _ => ?_⟩
    obtain ⟨a', c', e, hn⟩ := slice_real ρ none l cp
    obtain rfl : a' = none := by simpa using hn
    rw [e]
    simp [convert, run_underlyingE hu, run_underlyingE hd, run_underlyingE he, Conv.bytesToString, LV.real]
    rfl
  · rename_i a len cp he
    split at hx
    · rename_i cs hcs
      split at hx
      · rename_i s hs
        cases hx
        refine ⟨rfl, rfl, fun ρ w hh => ?_⟩
        have hf := firstL_sound hcs hh E.P
        obtain ⟨a', c', e, hn⟩ := slice_real ρ (some a) len cp
        obtain ⟨a1, rfl⟩ : ∃ z, a' = some z := by cases a' <;> simp at hn ⊢
        rw [e] at hf ⊢
        simp only [Builtin.firstCells, Nat.mul_one] at hf
        simp only [convert, Sem.run_bind, run_underlyingE hu, run_underlyingE hd, run_underlyingE he, Result.andThen_ok, Conv.bytesToString, hf]
        have := bytesL_sound ρ hs ByteArray.empty w E.P
        simp only [← Array.forIn_toList]
        refine (congrArg (fun r => Result.andThen r fun a w' => Sem.run E.P (pure (Value.string a)) w') this).trans ?_
        have h0 : ByteArray.empty.data = #[] := rfl
        simp [LV.real]
      · cases hx
    · cases hx
  · cases hx

theorem oConvert_read {src dst : TypeId} {x v : LV} {h h' : LH} {pa pa' : Path} {c : Bool} (hx : oConvert E src dst x h pa = .val v h' pa' c) (hd : ∀ e, E.P.underlying dst ≠ some (.slice e)) :
    h' = h ∧ pa' = pa ∧ ∀ (ρ : Rn) (w : World), HEq ρ h w → (convert src dst (x.real ρ)).run E.P w = .ok (v.real ρ) w := by
  unfold oConvert at hx
  split at hx
  · rename_i k hu
    split at hx
    · rename_i k' k2 n hus
      cases hx
      exact ⟨rfl, rfl, fun ρ w _ => by simp [convert, run_underlyingE hus, run_underlyingE hu, LV.real, Conv.intToInt]⟩
    · cases hx
  · rename_i hu
    split at hx
    · rename_i hus
      split at hx
      · cases hx
        exact ⟨rfl, rfl, fun ρ w _ => by simp [convert, run_underlyingE hus, run_underlyingE hu, LV.real]⟩
      · cases hx
    · rename_i e hus
      exact oText_sound hus hu hx
    · cases hx
  · rename_i e hu
    exact absurd hu (hd e)
  · cases hx

theorem zeroV_sound {t : TypeId} {v : LV} (hz : zeroV E t = some v) (ρ : Rn) (w : World) : (zeroValue t).run E.P w = .ok (v.real ρ) w := by
  unfold zeroV at hz
  split at hz
  · rename_i i hi
    split at hz
    · rename_i cs hzero
      rw [run_zeroValueE hi hzero]
      simp only [Option.some.injEq] at hz
      subst hz
      simp [LV.real, LVs.real_map, Function.comp_def, ofV_real]
    · rename_i v' hne hzero
      rw [run_zeroValueE hi hzero]
      simp only [Option.some.injEq] at hz
      subst hz
      rw [ofV_real]
    · cases hz
  · cases hz

theorem assertNo_val {t : TypeId} {ok : Bool} {v : LV} {h h' : LH} {pa pa' : Path} {c : Bool} (hx : assertNo E t ok h pa = .val v h' pa' c) : ok = true ∧ ∃ z, zeroV E t = some z ∧ v = .tup [z, .bool false] ∧ h' = h ∧ pa' = pa := by
  unfold assertNo at hx
  split at hx
  · rename_i z hz; cases hx; exact ⟨rfl, z, hz, rfl, rfl, rfl⟩
  · cases hx

theorem oAssert_sound {x v : LV} {xt asserted : TypeId} {ok : Bool} {h h' : LH} {pa pa' : Path} {c : Bool} (hx : oAssert E x asserted ok h pa = .val v h' pa' c) :
    h' = h ∧ pa' = pa ∧ ∀ (ρ : Rn) (w : World), (Instr.typeAssert (x.real ρ) xt asserted ok).run E.P w = .ok (v.real ρ) w := by
  unfold oAssert at hx
  split at hx
  · cases hx
  · cases hx
  · rename_i d hne hu
    have key : ∀ {α : Type} (a b : Sem α) (X : Value) (w : World), True := fun _ _ _ _ => trivial
    split at hx
    · rename_i t y
      split at hx
      · rename_i hte
        have hte := Nat.eq_of_beq_eq_true hte
        subst hte
        cases hx
        refine ⟨rfl, rfl, fun ρ w => ?_⟩
        simp only [Instr.typeAssert, Sem.run_bind, run_underlyingE hu, Result.andThen_ok, LV.real]
        cases d <;> first
          | exact (hne _ hu).elim
          | (cases ok <;> simp [andOk, LV.real, LVs.real])
      · rename_i hte
        have hte := Nat.ne_of_beq_eq_false hte
        obtain ⟨rfl, z, hz, rfl, rfl, rfl⟩ := assertNo_val hx
        refine ⟨rfl, rfl, fun ρ w => ?_⟩
        have hzr := zeroV_sound hz ρ w
        simp only [Instr.typeAssert, Sem.run_bind, run_underlyingE hu, Result.andThen_ok, LV.real]
        cases d <;> first
          | exact (hne _ hu).elim
          | simp [LVs.real, LV.real, hte, hzr]
    · obtain ⟨rfl, z, hz, rfl, rfl, rfl⟩ := assertNo_val hx
      refine ⟨rfl, rfl, fun ρ w => ?_⟩
      have hzr := zeroV_sound hz ρ w
      simp only [Instr.typeAssert, Sem.run_bind, run_underlyingE hu, Result.andThen_ok, LV.real]
      cases d <;> first
        | exact (hne _ hu).elim
        | simp [LVs.real, LV.real, hzr]
    · cases hx

/-! ### maps -/
/-- A key fits a kind. -/
def Fits (d : TypeDesc) (x : LV) : Prop := (∃ k, d = .int k) ∧ (∃ k n, x = .int k n) ∨ d = .string ∧ (∃ s, x = .str s) ∨ d = .bool ∧ (∃ b, x = .bool b)

theorem keyOk_some {t : TypeId} {x : LV} (h : keyOk E t x = true) : ∃ d, E.P.underlying t = some d ∧ Fits d x := by
  unfold keyOk at h
  split at h
  · split at h
    · rename_i hu; exact ⟨_, hu, .inl ⟨⟨_, rfl⟩, _, _, rfl⟩⟩
    · cases h
  · split at h
    · rename_i hu; exact ⟨_, hu, .inr (.inl ⟨rfl, _, rfl⟩)⟩
    · cases h
  · split at h
    · rename_i hu; exact ⟨_, hu, .inr (.inr ⟨rfl, _, rfl⟩)⟩
    · cases h
  · cases h

theorem run_checkKeyE {t : TypeId} {x : LV} (h : keyOk E t x = true) (em : Bool) (n : Nat) (v : Value) (w : World) : (Instr.checkKey em (n + 1) t v).run E.P w = .ok () w := by
  obtain ⟨d, hu, hd⟩ := keyOk_some h
  rcases hd with ⟨⟨k, rfl⟩, _⟩ | ⟨rfl, _⟩ | ⟨rfl, _⟩ <;> (simp only [Instr.checkKey, Sem.run_bind, run_underlyingE hu, Result.andThen_ok]; rfl)

theorem sameL_sound {x y : LV} {b : Bool} (h : sameL x y = some b) {d : TypeDesc} (ρ : Rn) (hd : Fits d x) : Instr.sameNow d (x.real ρ) (y.real ρ) = some b := by
  unfold sameL at h
  split at h
  · split at h
    · rename_i hk
      obtain rfl := kEq_eq hk
      rcases hd with ⟨⟨k, rfl⟩, _⟩ | ⟨_, s, e⟩ | ⟨_, s, e⟩
      · simpa [Instr.sameNow, LV.real] using h
      · cases e
      · cases e
    · cases h
  · rcases hd with ⟨_, k, n, e⟩ | ⟨rfl, _⟩ | ⟨_, s, e⟩
    · cases e
    · simp only [Option.some.injEq] at h
      subst h
      simp [Instr.sameNow, LV.real, beq_toListBytes]
    · cases e
  · rcases hd with ⟨_, k, n, e⟩ | ⟨_, s, e⟩ | ⟨rfl, _⟩
    · cases e
    · cases e
    · simpa [Instr.sameNow, LV.real] using h
  · cases h

/-- What is found among the entries that logical ones stand for. -/
def found (ρ : Rn) : Option (Nat × LV) → Option (Nat × Value)
  | none => none
  | some (i, v) => some (i, v.real ρ)

theorem findL_sound {β : Type} {bad X : β} {x : LV} {d : TypeDesc} (hd : Fits d x) (hX : X ≠ bad) : ∀ {es : List (LV × LV × Nat)} {i : Nat} {pa : Path} {k : Option (Nat × LV) → Path → β}, findL bad x es i pa k = X →
    ∃ r pa', k r pa' = X ∧ (pa'.as = true → pa.as = true ∧ (∀ ρ : Rn, Instr.findNow d (x.real ρ) (es.map (ent ρ)) i = some (found ρ r)) ∧
      (match r with
        | none => True
        | some (j, _) => ∃ e, i ≤ j ∧ es[j - i]? = some e ∧ sameL x e.1 = some true)) := by
  intro es
  induction es with
  | nil => intro i pa k h; exact ⟨none, pa, h, fun hp => ⟨hp, fun ρ => rfl, trivial⟩⟩
  | cons e es ih =>
    intro i pa k h
    obtain ⟨y, v, born⟩ := e
    simp only [findL] at h
    split at h
    · exact absurd h.symm hX
    · rename_i c hc
      obtain ⟨dd, pa2, h, hd2⟩ := brX h
      cases dd
      · obtain ⟨r, pa3, h1, h2⟩ := ih h
        refine ⟨r, pa3, h1, fun hp => ?_⟩
        obtain ⟨h3, h4, h5⟩ := h2 hp
        obtain ⟨h6, h7⟩ := hd2 h3
        refine ⟨h6, fun ρ => ?_, ?_⟩
        · simp only [List.map_cons, Instr.findNow]
          have hs := sameL_sound hc ρ hd
          rw [show (ent ρ (y, v, born)).key = y.real ρ from rfl, hs, ← h7]
          exact h4 ρ
        · cases r with
          | none => trivial
          | some jv =>
            obtain ⟨j, vv⟩ := jv
            obtain ⟨e, h8, h9, h10⟩ := h5
            have h8' : i + 1 ≤ j := h8
            refine ⟨e, by omega, ?_, h10⟩
            rw [show j - i = (j - (i + 1)) + 1 by omega, List.getElem?_cons_succ]
            exact h9
      · refine ⟨some (i, v), pa2, h, fun hp => ?_⟩
        obtain ⟨h6, h7⟩ := hd2 hp
        refine ⟨h6, fun ρ => ?_, (y, v, born), Nat.le_refl _, by simp, by rw [hc, ← h7]⟩
        simp only [List.map_cons, Instr.findNow]
        have hs := sameL_sound hc ρ hd
        rw [show (ent ρ (y, v, born)).key = y.real ρ from rfl, hs, ← h7]
        rfl

theorem run_findKeyE {t : TypeId} {d : TypeDesc} (hu : E.P.underlying t = some d) {v : Value} {es : List MapEntry} {r : Option (Nat × Value)} (h : Instr.findNow d v es 0 = some r) (w : World) : (Instr.findKey t v es).run E.P w = .ok r w := by
  simp [Instr.findKey, run_underlyingE hu, h]

theorem andOk_real (ok b : Bool) (v : LV) (ρ : Rn) : (andOk ok b v).real ρ = if ok then .tuple #[v.real ρ, .bool b] else v.real ρ := by
  cases ok <;> simp [andOk, LV.real, LVs.real]

theorem run_getObjE {w : World} {r : Nat} {o : Obj} (h : w.heap[r]? = some o) (hc : ∀ a b c, o ≠ .cells a b c) (P : Program) : (getObj r).run P w = .ok o w := by
  simp only [getObj, Sem.run, h]
theorem run_setObjE {w : World} {r : Nat} {o o' : Obj} (h : w.heap[r]? = some o) (hc : ∀ a b c, o ≠ .cells a b c) (P : Program) : (setObj r o').run P w = .ok () { w with heap := w.heap.setIfInBounds r o' } := by
  simp only [setObj, Sem.run, h]

def foundOr (z : LV) : Option (Nat × LV) → LV
  | some (_, v) => v
  | none => z

theorem oLookup_sound {t : TypeId} {m x v : LV} {ok : Bool} {h h' : LH} {pa pa' : Path} {c : Bool} (hx : oLookup E t m x ok h pa = .val v h' pa' c) (hp : pa'.as = true) :
    h' = h ∧ pa.as = true ∧ ∀ (ρ : Rn) (w : World), HEq ρ h w → (Instr.lookup t (m.real ρ) (x.real ρ) ok).run E.P w = .ok (v.real ρ) w := by
  unfold oLookup at hx
  split at hx
  · rename_i kt et hu
    split at hx
    · rename_i z hk hz
      obtain ⟨d, hd, hfit⟩ := keyOk_some hk
      split at hx
      · simp only [lookTell] at hx
        cases hx
        refine ⟨rfl, hp, fun ρ w hh => ?_⟩
        have hfind : Instr.findNow d (x.real ρ) [] 0 = some none := rfl
        simp only [Instr.lookup, Sem.run_bind, run_underlyingE hu, Result.andThen_ok, LV.real, Sem.run_pure, run_checkKeyE hk]
        simp [run_findKeyE hd hfind, zeroV_sound hz ρ w, andOk_real]
      · rename_i r
        split at hx
        · rename_i es clock hb
          obtain ⟨rr, pa2, h1, h2⟩ := findL_sound hfit (by intro e; cases e) hx
          have : h' = h ∧ pa' = pa2 ∧ v = andOk ok rr.isSome (foundOr z rr) := by
            cases rr with
            | none => simp only [lookTell] at h1; cases h1; exact ⟨rfl, rfl, rfl⟩
            | some jv => obtain ⟨j, vv⟩ := jv; simp only [lookTell] at h1; cases h1; exact ⟨rfl, rfl, rfl⟩
          obtain ⟨rfl, rfl, rfl⟩ := this
          obtain ⟨h3, h4, _⟩ := h2 hp
          refine ⟨rfl, h3, fun ρ w hh => ?_⟩
          have hobj : w.heap[ρ.s r]? = some (.map (es.map (ent ρ)).toArray clock) := hh.obj r _ hb
          have hf := run_findKeyE (E := E) hd (h4 ρ) w
          simp only [Instr.lookup, Sem.run_bind, run_underlyingE hu, Result.andThen_ok, LV.real, run_getObjE hobj (by intro _ _ _ e; cases e), Sem.run_pure, run_checkKeyE hk, hf, andOk_real]
          cases rr with
          | none => simp [found, zeroV_sound hz ρ w, foundOr]
          | some jv => simp [found, foundOr]
        · cases hx
      · cases hx
    · cases hx
  · cases hx
end
end Go.Ev
