/- An evaluator of translated Go code over logical memory, and its soundness (EvG). -/
import Derived.Test.YtfblhdiihlkmjaaGreatDoorEvF
import Derived.Laws.Externs
/- A call's closed evaluation from a small read-only memory, carried over to any memory whose contents match. -/
namespace Go.Ev
open Go

/-! ### blocks renamed -/
noncomputable def LA.ren (g : Nat → Nat) (a : LA) : LA := ⟨g a.b, a.r, a.st, a.c⟩
def fnRen (g : Nat → Nat) : Fn → Fn
  | .yield l => .yield (g l)
  | f => f
noncomputable def LV.ren (g : Nat → Nat) (v : LV) : LV :=
  LV.rec (motive_1 := fun _ => LV) (motive_2 := fun _ => List LV) (fun b => .bool b) (fun k n => .int k n) (fun s => .str s)
    (fun a => Option.rec (motive := fun _ => LV) (.ptr none) (fun a => .ptr (some (a.ren g))) a)
    (fun a l c => Option.rec (motive := fun _ => LV) (.slice none l c) (fun a => .slice (some (a.ren g)) l c) a)
    (fun r => Option.rec (motive := fun _ => LV) (.map none) (fun r => .map (some (g r))) r)
    (fun f _ _ fi ca => .fn (fnRen g f) fi ca) .nilFn (fun t _ v => .iface t v) .nilIface (fun _ cs => .agg cs) (fun _ vs => .tup vs) (fun v => .raw v)
    [] (fun _ _ v l => v :: l) v
def Rn.comp (ρ : Rn) (g : Nat → Nat) : Rn := ⟨fun i => ρ.s (g i), fun i => ρ.g (g i)⟩

/-- All blocks that a value names have numbers from 64 on, below n. -/
noncomputable def LV.bd (n : Nat) (v : LV) : Bool :=
  LV.rec (motive_1 := fun _ => Bool) (motive_2 := fun _ => Bool) (fun _ => true) (fun _ _ => true) (fun _ => true)
    (fun a => Option.rec (motive := fun _ => Bool) true (fun a => boolAnd (Nat.ble 64 a.b) (Nat.blt a.b n)) a)
    (fun a _ _ => Option.rec (motive := fun _ => Bool) true (fun a => boolAnd (Nat.ble 64 a.b) (Nat.blt a.b n)) a)
    (fun r => Option.rec (motive := fun _ => Bool) true (fun r => boolAnd (Nat.ble 64 r) (Nat.blt r n)) r)
    (fun _ _ _ _ _ => false) true (fun _ _ b => b) true (fun _ b => b) (fun _ b => b) (fun _ => true)
    true (fun _ _ a b => boolAnd a b) v

noncomputable def LVs.ren (g : Nat → Nat) (l : List LV) : List LV :=
  match LV.ren g (.agg l) with
  | .agg m => m
  | _ => []
theorem LVs.ren_nil (g : Nat → Nat) : LVs.ren g [] = [] := rfl
theorem LVs.ren_cons (g : Nat → Nat) (v : LV) (l : List LV) : LVs.ren g (v :: l) = v.ren g :: LVs.ren g l := rfl
theorem LVs.ren_map (g : Nat → Nat) (l : List LV) : LVs.ren g l = l.map (LV.ren g) := by
  induction l with
  | nil => rfl
  | cons v l ih => rw [LVs.ren_cons, ih]; rfl
noncomputable def LVs.bd (n : Nat) (l : List LV) : Bool := LV.bd n (.agg l)
theorem LVs.bd_cons (n : Nat) (v : LV) (l : List LV) : LVs.bd n (v :: l) = boolAnd (v.bd n) (LVs.bd n l) := rfl
theorem LVs.bd_mem {n : Nat} {l : List LV} (h : LVs.bd n l = true) : ∀ v ∈ l, v.bd n = true := by
  induction l with
  | nil => intro v hv; cases hv
  | cons x l ih =>
    rw [LVs.bd_cons] at h
    obtain ⟨h1, h2⟩ := boolAnd_true.1 h
    intro v hv
    rcases List.mem_cons.1 hv with rfl | hv
    · exact h1
    · exact ih h2 v hv

theorem LA.ren_real (ρ : Rn) (g : Nat → Nat) (a : LA) : (a.ren g).real ρ = a.real (ρ.comp g) := rfl

mutual
theorem LV.ren_real (ρ : Rn) (g : Nat → Nat) : ∀ v : LV, (v.ren g).real ρ = v.real (ρ.comp g)
  | .bool b => by simp [LV.ren, LV.real]
  | .int k n => by simp [LV.ren, LV.real]
  | .str s => by simp [LV.ren, LV.real]
  | .ptr none => by simp [LV.ren, LV.real]
  | .ptr (some a) => by simp [LV.ren, LV.real, LA.ren_real]
  | .slice none l (.kn c) => by simp [LV.ren, LV.real]
  | .slice none l (.un s b) => by simp [LV.ren, LV.real]
  | .slice (some a) l (.kn c) => by simp [LV.ren, LV.real, LA.ren_real]
  | .slice (some a) l (.un s b) => by
    show (LV.slice (some (a.ren g)) l (.un s b)).real ρ = _
    simp only [LV.real]
    rfl
  | .map none => by simp [LV.ren, LV.real]
  | .map (some r) => by simp [LV.ren, LV.real, Rn.comp]
  | .fn f fi ca => by
    show (LV.fn (fnRen g f) (LVs.ren g fi) (LVs.ren g ca) : LV).real ρ = _
    simp only [LV.real, LVs.ren_real ρ g fi, LVs.ren_real ρ g ca]
    cases f <;> rfl
  | .nilFn => by simp [LV.ren, LV.real]
  | .iface t v => by
    show (LV.iface t (v.ren g)).real ρ = _
    simp only [LV.real, LV.ren_real ρ g v]
  | .nilIface => by simp [LV.ren, LV.real]
  | .agg cs => by
    show (LV.agg (LVs.ren g cs) : LV).real ρ = _
    simp only [LV.real, LVs.ren_real ρ g cs]
  | .tup vs => by
    show (LV.tup (LVs.ren g vs) : LV).real ρ = _
    simp only [LV.real, LVs.ren_real ρ g vs]
  | .raw v => by simp [LV.ren, LV.real]
theorem LVs.ren_real (ρ : Rn) (g : Nat → Nat) : ∀ l : List LV, LVs.real ρ (LVs.ren g l) = LVs.real (ρ.comp g) l
  | [] => by rw [LVs.ren_nil]; simp [LVs.real]
  | v :: l => by rw [LVs.ren_cons]; simp only [LVs.real, LV.ren_real ρ g v, LVs.ren_real ρ g l]
end

/-- Two places that agree from 64 on, below n. -/
def Agr (n : Nat) (ρ ρ' : Rn) : Prop := ∀ id, 64 ≤ id → id < n → ρ'.s id = ρ.s id ∧ ρ'.g id = ρ.g id

theorem bd_id {n b : Nat} (h : boolAnd (Nat.ble 64 b) (Nat.blt b n) = true) : 64 ≤ b ∧ b < n := by
  obtain ⟨h1, h2⟩ := boolAnd_true.1 h
  exact ⟨Nat.le_of_ble_eq_true h1, Nat.le_of_ble_eq_true h2⟩

mutual
theorem LV.bd_real {n : Nat} {ρ ρ' : Rn} (ag : Agr n ρ ρ') : ∀ v : LV, v.bd n = true → v.real ρ' = v.real ρ
  | .bool b, _ => by simp [LV.real]
  | .int k n, _ => by simp [LV.real]
  | .str s, _ => by simp [LV.real]
  | .ptr none, _ => by simp [LV.real]
  | .ptr (some a), h => by
    obtain ⟨h1, h2⟩ := bd_id (b := a.b) h
    simp [LV.real, LA.real, (ag a.b h1 h2).1]
  | .slice none l (.kn c), _ => by simp [LV.real]
  | .slice none l (.un s b), _ => by simp [LV.real]
  | .slice (some a) l (.kn c), h => by
    obtain ⟨h1, h2⟩ := bd_id (b := a.b) h
    simp [LV.real, LA.real, (ag a.b h1 h2).1]
  | .slice (some a) l (.un s b), h => by
    obtain ⟨h1, h2⟩ := bd_id (b := a.b) h
    simp [LV.real, (ag a.b h1 h2).1, (ag a.b h1 h2).2]
  | .map none, _ => by simp [LV.real]
  | .map (some r), h => by
    obtain ⟨h1, h2⟩ := bd_id (b := r) h
    simp [LV.real, (ag r h1 h2).1]
  | .fn f fi ca, h => by cases h
  | .nilFn, _ => by simp [LV.real]
  | .iface t v, h => by simp only [LV.real, LV.bd_real ag v h]
  | .nilIface, _ => by simp [LV.real]
  | .agg cs, h => by simp only [LV.real, LVs.bd_real ag cs h]
  | .tup vs, h => by simp only [LV.real, LVs.bd_real ag vs h]
  | .raw v, _ => by simp [LV.real]
theorem LVs.bd_real {n : Nat} {ρ ρ' : Rn} (ag : Agr n ρ ρ') : ∀ l : List LV, LVs.bd n l = true → LVs.real ρ' l = LVs.real ρ l
  | [], _ => by simp [LVs.real]
  | v :: l, h => by
    obtain ⟨h1, h2⟩ := boolAnd_true.1 (LVs.bd_cons n v l ▸ h)
    simp only [LVs.real, LV.bd_real ag v h1, LVs.bd_real ag l h2]
end

mutual
theorem LV.bd_mono {n n' : Nat} (hn : n ≤ n') : ∀ v : LV, v.bd n = true → v.bd n' = true
  | .bool b, _ => rfl
  | .int k n, _ => rfl
  | .str s, _ => rfl
  | .ptr none, _ => rfl
  | .ptr (some a), h => by
    obtain ⟨h1, h2⟩ := bd_id (b := a.b) h
    exact boolAnd_true.2 ⟨Nat.ble_eq_true_of_le h1, Nat.ble_eq_true_of_le (Nat.le_trans h2 hn)⟩
  | .slice none l c, _ => rfl
  | .slice (some a) l c, h => by
    obtain ⟨h1, h2⟩ := bd_id (b := a.b) h
    exact boolAnd_true.2 ⟨Nat.ble_eq_true_of_le h1, Nat.ble_eq_true_of_le (Nat.le_trans h2 hn)⟩
  | .map none, _ => rfl
  | .map (some r), h => by
    obtain ⟨h1, h2⟩ := bd_id (b := r) h
    exact boolAnd_true.2 ⟨Nat.ble_eq_true_of_le h1, Nat.ble_eq_true_of_le (Nat.le_trans h2 hn)⟩
  | .fn f fi ca, h => by cases h
  | .nilFn, _ => rfl
  | .iface t v, h => LV.bd_mono hn v h
  | .nilIface, _ => rfl
  | .agg cs, h => LVs.bd_mono hn cs h
  | .tup vs, h => LVs.bd_mono hn vs h
  | .raw v, _ => rfl
theorem LVs.bd_mono {n n' : Nat} (hn : n ≤ n') : ∀ l : List LV, LVs.bd n l = true → LVs.bd n' l = true
  | [], _ => rfl
  | v :: l, h => by
    obtain ⟨h1, h2⟩ := boolAnd_true.1 (LVs.bd_cons n v l ▸ h)
    exact boolAnd_true.2 ⟨LV.bd_mono hn v h1, LVs.bd_mono hn l h2⟩
end
theorem LVs.bd_all {n : Nat} {l : List LV} (h : ∀ v ∈ l, v.bd n = true) : LVs.bd n l = true := by
  induction l with
  | nil => rfl
  | cons v l ih => exact boolAnd_true.2 ⟨h v (List.mem_cons_self ..), ih fun x hx => h x (List.mem_cons_of_mem _ hx)⟩

/-! ### matching -/
def getN : List Nat → Nat → Option Nat
  | [], _ => none
  | x :: _, 0 => some x
  | _ :: l, n + 1 => getN l n
theorem getN_eq (l : List Nat) (n : Nat) : getN l n = l[n]? := by
  induction l generalizing n with
  | nil => rfl
  | cons x l ih => cases n with
    | zero => rfl
    | succ n => simp [getN, ih]

/-- A block of the small memory (by its number less 64) stands for one of the great one: as before, or from now on. -/
def mtB (b b2 : Nat) (r : List Nat) : Option (List Nat) :=
  match Nat.ble 64 b with
  | false => none
  | true => match getN r (Nat.sub b 64) with
    | some x => match Nat.beq x b2 with
      | true => some r
      | false => none
    | none => match boolAnd (Nat.beq (Nat.sub b 64) r.length) (Nat.ble 64 b2) with
      | true => some (r ++ [b2])
      | false => none

def mtA (a a2 : LA) (r : List Nat) : Option (List Nat) :=
  match boolAnd (Nat.beq a.r a2.r) (boolAnd (Nat.beq a.st a2.st) (Nat.beq a.c a2.c)) with
  | true => mtB a.b a2.b r
  | false => none

def mtC : Cp → Cp → Bool
  | .kn a, .kn b => Nat.beq a b
  | .un a b, .un c d => boolAnd (Nat.beq a c) (Nat.beq b d)
  | _, _ => false

/-- Lists one by one; the great one may go on. -/
def mtP (f : LV → LV → List Nat → Option (List Nat)) : List LV → List LV → List Nat → Option (List Nat)
  | [], _, r => some r
  | _ :: _, [], _ => none
  | x :: xs, y :: ys, r => match f x y r with
    | none => none
    | some r => mtP f xs ys r
def mtL (f : LV → LV → List Nat → Option (List Nat)) : List LV → List LV → List Nat → Option (List Nat)
  | [], [], r => some r
  | x :: xs, y :: ys, r => match f x y r with
    | none => none
    | some r => mtL f xs ys r
  | _, _, _ => none

def mtV : Nat → LV → LV → List Nat → Option (List Nat)
  | 0 => fun _ _ _ => none
  | n + 1 => fun x y r => match x, y with
    | .bool a, .bool b => match a == b with
      | true => some r
      | false => none
    | .int k a, .int k' b => match boolAnd (kEq k k') (eqInt a b) with
      | true => some r
      | false => none
    | .str a, .str b => match a == b with
      | true => some r
      | false => none
    | .ptr none, .ptr none => some r
    | .ptr (some a), .ptr (some b) => mtA a b r
    | .slice none l c, .slice none l' c' => match boolAnd (Nat.beq l l') (mtC c c') with
      | true => some r
      | false => none
    | .slice (some a) l c, .slice (some b) l' c' => match boolAnd (Nat.beq l l') (mtC c c') with
      | true => mtA a b r
      | false => none
    | .map none, .map none => some r
    | .nilFn, .nilFn => some r
    | .nilIface, .nilIface => some r
    | .agg a, .agg b => mtL (mtV n) a b r
    | .tup a, .tup b => mtL (mtV n) a b r
    | _, _ => none

def mtG : Option Nat → Option Nat → Bool
  | none, none => true
  | some a, some b => Nat.beq a b
  | _, _ => false

noncomputable def mtO (x y : LO) (r : List Nat) : Option (List Nat) :=
  match x, y with
  | .cells vs n t gr st, .cells vs2 _ t2 gr2 st2 => match boolAnd (lenT n vs) (boolAnd (Nat.beq t t2) (boolAnd (mtG gr gr2) (st == st2))) with
    | true => mtP (mtV 5) vs vs2 r
    | false => none
  | _, _ => none

/-- The small memory's blocks, from the i-th on. -/
noncomputable def mtBs (h : LH) : List LO → Nat → List Nat → Option (List Nat)
  | [], _, r => some r
  | o :: os, i, r => match getN r i with
    | none => none
    | some b => match h.bs.get b with
      | none => none
      | some o2 => match mtO o o2 r with
        | none => none
        | some r => mtBs h os (i + 1) r

def nodupN : List Nat → Bool
  | [] => true
  | x :: l => boolAnd (boolNot (l.any fun y => Nat.beq x y)) (nodupN l)

theorem nodupN_nodup : ∀ {l : List Nat}, nodupN l = true → l.Nodup := by
  intro l
  induction l with
  | nil => intro _; exact List.nodup_nil
  | cons x l ih =>
    intro h
    obtain ⟨h1, h2⟩ := boolAnd_true.1 h
    rw [boolNot_eq] at h1
    refine List.nodup_cons.2 ⟨fun hm => ?_, ih h2⟩
    have : (l.any fun y => Nat.beq x y) = true := List.any_eq_true.2 ⟨x, hm, Nat.beq_refl x⟩
    rw [this] at h1
    cases h1

/-- Where a block of the small memory is in the great one. -/
def gOf (r : List Nat) (b : Nat) : Nat := r.getD (b - 64) 0

theorem gOf_mono {r r' : List Nat} (h : r <+: r') {b x : Nat} (hx : r[b - 64]? = some x) : gOf r' b = x := by
  obtain ⟨t, rfl⟩ := h
  have hlt : b - 64 < r.length := (List.getElem?_eq_some_iff.1 hx).1
  simp [gOf, List.getD_eq_getElem?_getD, List.getElem?_append_left hlt, hx]

/-- A match of a value: whatever comes behind. -/
def MtV (x y : LV) (r r' : List Nat) : Prop := r <+: r' ∧ (∀ b ∈ r', b ∈ r ∨ 64 ≤ b) ∧ ∀ rf, r' <+: rf → x.ren (gOf rf) = y
def MtVs (xs ys : List LV) (r r' : List Nat) : Prop := r <+: r' ∧ (∀ b ∈ r', b ∈ r ∨ 64 ≤ b) ∧ ∀ rf, r' <+: rf → xs.map (LV.ren (gOf rf)) = ys

theorem mtB_spec {b b2 : Nat} {r r' : List Nat} (h : mtB b b2 r = some r') : r <+: r' ∧ (∀ b ∈ r', b ∈ r ∨ 64 ≤ b) ∧ 64 ≤ b ∧ ∀ rf, r' <+: rf → gOf rf b = b2 := by
  unfold mtB at h
  split at h
  · cases h
  · rename_i hb
    have hb := Nat.le_of_ble_eq_true hb
    split at h
    · rename_i x hx
      rw [getN_eq] at hx
      split at h
      · rename_i he
        have he := Nat.eq_of_beq_eq_true he
        cases h
        exact ⟨List.prefix_refl _, fun _ h => .inl h, hb, fun rf hp => (gOf_mono hp hx).trans he⟩
      · cases h
    · split at h
      · rename_i hc
        obtain ⟨h1, h2⟩ := boolAnd_true.1 hc
        have h1 := Nat.eq_of_beq_eq_true h1
        have h2 := Nat.le_of_ble_eq_true h2
        cases h
        refine ⟨List.prefix_append _ _, fun x hx => ?_, hb, fun rf hp => gOf_mono hp ?_⟩
        · rcases List.mem_append.1 hx with h | h
          · exact .inl h
          · simp at h; subst h; exact .inr h2
        · have h1 : b - 64 = r.length := h1
          rw [h1]; simp
      · cases h

theorem mtA_spec {a a2 : LA} {r r' : List Nat} (h : mtA a a2 r = some r') : r <+: r' ∧ (∀ b ∈ r', b ∈ r ∨ 64 ≤ b) ∧ ∀ rf, r' <+: rf → a.ren (gOf rf) = a2 := by
  unfold mtA at h
  split at h
  · rename_i hc
    obtain ⟨h1, h2⟩ := boolAnd_true.1 hc
    obtain ⟨h2, h3⟩ := boolAnd_true.1 h2
    obtain ⟨g1, g2, _, g3⟩ := mtB_spec h
    refine ⟨g1, g2, fun rf hp => ?_⟩
    cases a; cases a2
    simp only at h1 h2 h3 g3
    simp only [LA.ren, g3 rf hp, Nat.eq_of_beq_eq_true h1, Nat.eq_of_beq_eq_true h2, Nat.eq_of_beq_eq_true h3]
  · cases h

theorem mtC_eq {c d : Cp} (h : mtC c d = true) : c = d := by
  cases c <;> cases d <;> simp only [mtC, Bool.false_eq_true] at h
  · rw [Nat.eq_of_beq_eq_true h]
  · obtain ⟨h1, h2⟩ := boolAnd_true.1 h
    rw [Nat.eq_of_beq_eq_true h1, Nat.eq_of_beq_eq_true h2]

theorem mtP_spec {f : LV → LV → List Nat → Option (List Nat)} (hf : ∀ x y r r', f x y r = some r' → MtV x y r r') : ∀ (xs ys : List LV) (r r' : List Nat), mtP f xs ys r = some r' → ∃ zs more, ys = zs ++ more ∧ MtVs xs zs r r' := by
  intro xs
  induction xs with
  | nil => intro ys r r' h; simp only [mtP, Option.some.injEq] at h; subst h; exact ⟨[], ys, rfl, List.prefix_refl _, fun _ h => .inl h, fun _ _ => rfl⟩
  | cons x xs ih =>
    intro ys r r' h
    cases ys with
    | nil => cases h
    | cons y ys =>
      simp only [mtP] at h
      split at h
      · cases h
      · rename_i r1 h1
        obtain ⟨a1, a2, a3⟩ := hf _ _ _ _ h1
        obtain ⟨zs, more, rfl, b1, b2, b3⟩ := ih _ _ _ h
        refine ⟨y :: zs, more, rfl, a1.trans b1, fun b hb => ?_, fun rf hp => ?_⟩
        · rcases b2 b hb with h | h
          · exact a2 b h
          · exact .inr h
        · rw [List.map_cons, a3 rf (b1.trans hp), b3 rf hp]
theorem mtL_spec {f : LV → LV → List Nat → Option (List Nat)} (hf : ∀ x y r r', f x y r = some r' → MtV x y r r') : ∀ (xs ys : List LV) (r r' : List Nat), mtL f xs ys r = some r' → MtVs xs ys r r' := by
  intro xs
  induction xs with
  | nil =>
    intro ys r r' h
    cases ys with
    | nil => simp only [mtL, Option.some.injEq] at h; subst h; exact ⟨List.prefix_refl _, fun _ h => .inl h, fun _ _ => rfl⟩
    | cons y ys => cases h
  | cons x xs ih =>
    intro ys r r' h
    cases ys with
    | nil => cases h
    | cons y ys =>
      simp only [mtL] at h
      split at h
      · cases h
      · rename_i r1 h1
        obtain ⟨a1, a2, a3⟩ := hf _ _ _ _ h1
        obtain ⟨b1, b2, b3⟩ := ih _ _ _ h
        refine ⟨a1.trans b1, fun b hb => ?_, fun rf hp => ?_⟩
        · rcases b2 b hb with h | h
          · exact a2 b h
          · exact .inr h
        · rw [List.map_cons, a3 rf (b1.trans hp), b3 rf hp]

theorem MtV.same {x y : LV} {r : List Nat} (h : ∀ g, x.ren g = y) : MtV x y r r := ⟨List.prefix_refl _, fun _ h => .inl h, fun _ _ => h _⟩

theorem mtV_spec : ∀ (n : Nat) (x y : LV) (r r' : List Nat), mtV n x y r = some r' → MtV x y r r' := by
  intro n
  induction n with
  | zero => intro x y r r' h; cases h
  | succ n ih =>
    intro x y r r' h
    simp only [mtV] at h
    split at h
    · split at h
      · rename_i he; cases h; have he := eq_of_beq he; subst he; exact .same fun _ => rfl
      · cases h
    · split at h
      · rename_i he; cases h
        obtain ⟨h1, h2⟩ := boolAnd_true.1 he
        rw [kEq_eq h1, eqInt_eq h2]; exact .same fun _ => rfl
      · cases h
    · split at h
      · rename_i he; cases h; have he := eq_of_beq he; subst he; exact .same fun _ => rfl
      · cases h
    · cases h; exact .same fun _ => rfl
    · obtain ⟨h1, h2, h3⟩ := mtA_spec h
      refine ⟨h1, h2, fun rf hp => ?_⟩
      rw [← h3 rf hp]; rfl
    · split at h
      · rename_i he; cases h
        obtain ⟨h1, h2⟩ := boolAnd_true.1 he
        rw [Nat.eq_of_beq_eq_true h1, mtC_eq h2]; exact .same fun _ => rfl
      · cases h
    · split at h
      · rename_i he
        obtain ⟨h1, h2⟩ := boolAnd_true.1 he
        obtain ⟨g1, g2, g3⟩ := mtA_spec h
        refine ⟨g1, g2, fun rf hp => ?_⟩
        rw [← g3 rf hp, Nat.eq_of_beq_eq_true h1, mtC_eq h2]; rfl
      · cases h
    · cases h; exact .same fun _ => rfl
    · cases h; exact .same fun _ => rfl
    · cases h; exact .same fun _ => rfl
    · obtain ⟨h1, h2, h3⟩ := mtL_spec ih _ _ _ _ h
      refine ⟨h1, h2, fun rf hp => ?_⟩
      rw [← h3 rf hp, ← LVs.ren_map]; rfl
    · obtain ⟨h1, h2, h3⟩ := mtL_spec ih _ _ _ _ h
      refine ⟨h1, h2, fun rf hp => ?_⟩
      rw [← h3 rf hp, ← LVs.ren_map]; rfl
    · cases h

theorem mtG_eq {a b : Option Nat} (h : mtG a b = true) : a = b := by
  cases a <;> cases b <;> simp only [mtG, Bool.false_eq_true] at h
  · rfl
  · rw [Nat.eq_of_beq_eq_true h]

/-- A match of a block. -/
def MtO (o o2 : LO) (rf : List Nat) : Prop := ∃ vs n t gr st zs more n2, o = .cells vs n t gr st ∧ n = vs.length ∧ o2 = .cells (zs ++ more) n2 t gr st ∧ vs.map (LV.ren (gOf rf)) = zs

theorem mtO_spec {o o2 : LO} {r r' : List Nat} (h : mtO o o2 r = some r') : r <+: r' ∧ (∀ b ∈ r', b ∈ r ∨ 64 ≤ b) ∧ ∀ rf, r' <+: rf → MtO o o2 rf := by
  unfold mtO at h
  split at h
  · rename_i vs n t gr st vs2 n2 t2 gr2 st2
    split at h
    · rename_i hc
      obtain ⟨h0, h1⟩ := boolAnd_true.1 hc
      obtain ⟨h1, h2⟩ := boolAnd_true.1 h1
      obtain ⟨h2, h3⟩ := boolAnd_true.1 h2
      obtain ⟨zs, more, rfl, g1, g2, g3⟩ := mtP_spec (mtV_spec 5) _ _ _ _ h
      refine ⟨g1, g2, fun rf hp => ⟨vs, n, t, gr, st, zs, more, n2, rfl, (lenT_eq n vs h0).symm, ?_, g3 rf hp⟩⟩
      rw [Nat.eq_of_beq_eq_true h1, mtG_eq h2, eq_of_beq h3]
    · cases h
  · cases h

theorem mtBs_spec {h : LH} : ∀ (os : List LO) (i : Nat) (r r' : List Nat), mtBs h os i r = some r' → r <+: r' ∧ (∀ b ∈ r', b ∈ r ∨ 64 ≤ b) ∧
    ∀ rf, r' <+: rf → ∀ j o, os[j]? = some o → ∃ b o2, rf[i + j]? = some b ∧ h.bs.get b = some o2 ∧ MtO o o2 rf := by
  intro os
  induction os with
  | nil => intro i r r' hx; simp only [mtBs, Option.some.injEq] at hx; subst hx; exact ⟨List.prefix_refl _, fun _ h => .inl h, fun rf _ j o ho => by simp at ho⟩
  | cons o os ih =>
    intro i r r' hx
    simp only [mtBs] at hx
    split at hx
    · cases hx
    · rename_i b hb
      rw [getN_eq] at hb
      split at hx
      · cases hx
      · rename_i o2 ho2
        split at hx
        · cases hx
        · rename_i r1 h1
          obtain ⟨a1, a2, a3⟩ := mtO_spec h1
          obtain ⟨b1, b2, b3⟩ := ih _ _ _ hx
          refine ⟨a1.trans b1, fun x hx => (b2 x hx).elim (a2 x) .inr, fun rf hp j o' ho' => ?_⟩
          cases j with
          | zero =>
            simp at ho'
            subst ho'
            refine ⟨b, o2, ?_, ho2, a3 rf (b1.trans hp)⟩
            obtain ⟨t, rfl⟩ := (a1.trans b1).trans hp
            rw [Nat.add_zero, List.getElem?_append_left (List.getElem?_eq_some_iff.1 hb).1]; exact hb
          | succ j =>
            obtain ⟨b', o2', e1, e2, e3⟩ := b3 rf hp j o' (by simpa using ho')
            exact ⟨b', o2', by rw [show i + (j + 1) = i + 1 + j by omega]; exact e1, e2, e3⟩
/-! ### memos -/
/-- A call that is known: its arguments, over some blocks (from the number 64 on); what it comes to, over new ones. -/
structure Memo where
  args : List LV
  blocks : List LO
  res : LV
  out : List LO
  /-- The table stands at the number 0. -/
  gl : Bool

noncomputable def LO.ren (g : Nat → Nat) : LO → LO
  | .cells vs n t gr st => .cells (LVs.ren g vs) n t gr st
  | o => o
noncomputable def LO.bd (n : Nat) : LO → Bool
  | .cells vs m _ _ _ => boolAnd (lenT m vs) (LVs.bd n vs)
  | _ => false

/-- Blocks laid one behind the other. -/
noncomputable def addL : LH → List LO → LH
  | h, [] => h
  | h, o :: os => addL (h.add o) os
noncomputable def pushL {β : Type} : List LO → LH → (LH → β) → β
  | [], h, k => k h
  | o :: os, h, k => h.push o fun _ h => pushL os h k
theorem pushL_eq {β : Type} : ∀ (os : List LO) (h : LH) (k : LH → β), pushL os h k = k (addL h os) := by
  intro os
  induction os with
  | nil => intro h k; rfl
  | cons o os ih => intro h k; simp only [pushL, addL, LH.push_eq]; exact ih _ _

/-- The table that is a package's variable, if it is wanted; its row may be of any type. -/
noncomputable def gHeap (tab : List LV) (t : TypeId) (gl : Bool) : Tr LO :=
  match gl with
  | true => Tr.set (.cells tab tab.length t none false) .leaf 0
  | false => .leaf

/-- The small memory. -/
noncomputable def Memo.heap (tab : List LV) (t : TypeId) (m : Memo) : LH :=
  pushL m.blocks ⟨gHeap tab t m.gl, 64, 64⟩ fun h => ⟨h.bs, h.nx, h.nx⟩

/-- Blocks of the small memory, in the great one: the old ones by r, new ones from n on. -/
def gNew (N : Nat) (r : List Nat) (n b : Nat) : Nat :=
  match Nat.blt b N with
  | true => match getN r (Nat.sub b 64) with
    | some x => x
    | none => 0
  | false => Nat.add n (Nat.sub b N)

def idsFrom : Nat → Nat → List Nat
  | _, 0 => []
  | a, n + 1 => a :: idsFrom (Nat.succ a) n

/-- Does the table stand as it is told? Of which type its row is. -/
noncomputable def globOk (tab : List LV) (gl : Bool) (h : LH) : Option TypeId :=
  match gl with
  | false => some 0
  | true => match LVs.bd 64 tab, h.bs.get 0 with
    | true, some (.cells vs2 _ t none false) => match mtP (mtV 5) tab vs2 [] with
      | some _ => some t
      | none => none
    | _, _ => none

noncomputable def Memo.find (tab : List LV) (m : Memo) (args : List LV) (h : LH) : Option (List Nat) :=
  match Nat.ble 64 h.nx, globOk tab m.gl h with
  | true, some _ => match mtL (mtV 5) m.args args [] with
    | none => none
    | some r => match mtBs h m.blocks 0 r with
      | none => none
      | some r => match boolAnd (Nat.beq r.length m.blocks.length) (nodupN r) with
        | true => some r
        | false => none
  | _, _ => none

noncomputable def memoSum (tab : List LV) : List Memo → List LV → LH → Path → OR
  | [], _, _, _ => .bad
  | m :: ms, args, h, pa => match m.find tab args h with
    | none => memoSum tab ms args h pa
    | some r => pushL (m.out.map (LO.ren (gNew (64 + m.blocks.length) r h.nx))) h fun h2 => .val (m.res.ren (gNew (64 + m.blocks.length) r h.nx)) h2 pa true

/-- Does a closed evaluation come to what is told? -/
noncomputable def memoOk (E : Env) (tab : List LV) (t : TypeId) (n : Nat) (f : FuncId) (m : Memo) : Bool :=
  match boolAnd (LVs.bd (64 + m.blocks.length) m.args) (boolAnd (m.blocks.all (LO.bd (64 + m.blocks.length))) (boolAnd (m.res.bd (64 + m.blocks.length + m.out.length)) (m.out.all (LO.bd (64 + m.blocks.length + m.out.length))))) with
  | false => false
  | true => match evF E true n f m.args (m.heap tab t) ⟨[], true⟩ with
    | .ret v h ⟨_, true⟩ => match mtV 5 m.res v (idsFrom 64 m.blocks.length) with
      | none => false
      | some r => match mtBs h m.out m.blocks.length r with
        | none => false
        | some r => boolAnd (Nat.beq r.length (m.blocks.length + m.out.length)) (boolAnd (nodupN r) ((r.drop m.blocks.length).all fun b => Nat.ble (64 + m.blocks.length) b))
    | _ => false

end Go.Ev

/- A call's closed evaluation from a small read-only memory, carried over: it is sound. -/
namespace Go.Ev
open Go

theorem addL_nx : ∀ (os : List LO) (h : LH), (addL h os).nx = h.nx + os.length := by
  intro os
  induction os with
  | nil => intro h; rfl
  | cons o os ih => intro h; simp only [addL, ih, LH.add, List.length_cons]; omega
theorem addL_ro : ∀ (os : List LO) (h : LH), (addL h os).ro = h.ro := by
  intro os
  induction os with
  | nil => intro h; rfl
  | cons o os ih => intro h; simp only [addL, ih, LH.add]
theorem addL_get : ∀ (os : List LO) (h : LH) (id : Nat), (addL h os).bs.get id = if h.nx ≤ id ∧ id < h.nx + os.length then os[id - h.nx]? else h.bs.get id := by
  intro os
  induction os with
  | nil => intro h id; simp only [addL, List.length_nil]; rw [if_neg (by omega)]
  | cons o os ih =>
    intro h id
    simp only [addL, ih, LH.add, List.length_cons, Tr.get_set]
    by_cases h1 : id = h.nx
    · subst h1
      rw [if_neg (by omega), if_pos rfl, if_pos (by omega)]; simp
    · by_cases h2 : h.nx + 1 ≤ id ∧ id < h.nx + 1 + os.length
      · rw [if_pos h2, if_pos (by omega)]
        have : id - h.nx = (id - (h.nx + 1)) + 1 := by omega
        rw [this]; simp
      · rw [if_neg h2, if_neg h1, if_neg (by omega)]

section
variable {tab : List LV} {t : TypeId} {m : Memo}
theorem heap_nx : (m.heap tab t).nx = 64 + m.blocks.length := by
  unfold Memo.heap; rw [pushL_eq]; simp only [addL_nx]
theorem heap_ro : (m.heap tab t).ro = 64 + m.blocks.length := by
  unfold Memo.heap; rw [pushL_eq]; simp only [addL_nx]
theorem heap_get {id : Nat} {o : LO} (h : (m.heap tab t).bs.get id = some o) : (64 ≤ id ∧ m.blocks[id - 64]? = some o) ∨ (id = 0 ∧ m.gl = true ∧ o = .cells tab tab.length t none false) := by
  unfold Memo.heap at h; rw [pushL_eq] at h; simp only [addL_get] at h
  split at h
  · rename_i hc; exact .inl ⟨hc.1, h⟩
  · right
    unfold gHeap at h
    split at h
    · rename_i hg
      rw [Tr.get_set] at h
      split at h
      · rename_i e; cases h; exact ⟨e, hg, rfl⟩
      · rw [Tr.get_leaf] at h; cases h
    · rw [Tr.get_leaf] at h; cases h
end

theorem globOk_spec {tab : List LV} {h : LH} {t : TypeId} (hx : globOk tab true h = some t) : LVs.bd 64 tab = true ∧ ∃ o2, h.bs.get 0 = some o2 ∧ ∃ rf, MtO (.cells tab tab.length t none false) o2 rf := by
  unfold globOk at hx
  simp only at hx
  split at hx
  · rename_i vs2 n2 t2 hb h0
    split at hx
    · rename_i r hr
      cases hx
      obtain ⟨zs, more, rfl, g1, g2, g3⟩ := mtP_spec (mtV_spec 5) _ _ _ _ hr
      exact ⟨hb, _, h0, r, tab, tab.length, t, none, false, zs, more, n2, rfl, rfl, rfl, g3 r (List.prefix_refl _)⟩
    · cases hx
  · cases hx

theorem lenT_true {α : Type} : ∀ l : List α, lenT l.length l = true := by
  intro l
  induction l with
  | nil => rfl
  | cons x l ih => exact ih

theorem Agr.mono {n n' : Nat} {ρ ρ' : Rn} (h : Agr n ρ ρ') (hn : n' ≤ n) : Agr n' ρ ρ' := fun id h1 h2 => h id h1 (by omega)

/-- A block that stands for a greater one stands for what that one stands for. -/
theorem MtO.oeq {o o2 : LO} {rf : List Nat} {n id id2 : Nat} {ρ ρ' : Rn} {x : Option Obj} (h : MtO o o2 rf) (hb : LO.bd n o = true) (ag : Agr n (ρ.comp (gOf rf)) ρ') (hg : ρ'.g id = ρ.g id2) (ho : OEq ρ id2 o2 x) : OEq ρ' id o x := by
  obtain ⟨vs, m, t, gr, st, zs, more, n2, rfl, hm, rfl, hz⟩ := h
  obtain ⟨h1, C, fz, e, ⟨rest, hC⟩, h2, h3, h4⟩ := ho
  refine ⟨hm, C, fz, e, ⟨more.map (LV.real ρ) ++ rest, ?_⟩, h2, h3, fun g hgr => by rw [hg]; exact h4 g hgr⟩
  rw [hC, List.map_append, List.append_assoc, ← hz, List.map_map]
  congr 1
  apply List.map_congr_left
  intro v hv
  have hbv : v.bd n = true := LVs.bd_mem (boolAnd_true.1 hb).2 v hv
  simp only [Function.comp_apply, LV.ren_real]
  exact (LV.bd_real ag v hbv).symm

theorem idsFrom_get : ∀ (n a i : Nat), (idsFrom a n)[i]? = if i < n then some (a + i) else none := by
  intro n
  induction n with
  | zero => intro a i; simp [idsFrom]
  | succ n ih =>
    intro a i
    cases i with
    | zero => simp [idsFrom]
    | succ i => simp only [idsFrom, List.getElem?_cons_succ, ih]; split <;> split <;> first | rfl | omega | (congr 1; omega)
theorem idsFrom_length (n a : Nat) : (idsFrom a n).length = n := by
  induction n generalizing a with
  | zero => rfl
  | succ n ih => simp [idsFrom, ih]

/-- A known call stands for itself, wherever its blocks are. -/
theorem memo_step {E : Env} (hE : EnvOk E) {tab : List LV} {n : Nat} {f : FuncId} {m : Memo} (hok : ∀ t, memoOk E tab t n f m = true) {args : List LV} {h : LH} {r : List Nat} (hf : m.find tab args h = some r) :
    Stp h (addL h (m.out.map (LO.ren (gNew (64 + m.blocks.length) r h.nx)))) ∧
    ∀ S ρ w A, Fresh S h (addL h (m.out.map (LO.ren (gNew (64 + m.blocks.length) r h.nx)))) → Mem S ρ h w → Args S ρ args A → (callFunc f A).run E.P w = .ok (.enter f A) w ∧
      CallsIn Fence.wide 0 E.P f A w (Post S ρ h w (m.res.ren (gNew (64 + m.blocks.length) r h.nx)) (addL h (m.out.map (LO.ren (gNew (64 + m.blocks.length) r h.nx))))) := by
  generalize hN : 64 + m.blocks.length = N at *
  generalize hG : gNew N r h.nx = G at *
  generalize hh' : addL h (m.out.map (LO.ren G)) = h' at *
  have h'nx : h'.nx = h.nx + m.out.length := by rw [← hh', addL_nx]; simp
  have h'ro : h'.ro = h.ro := by rw [← hh', addL_ro]
  have h'get : ∀ id, h'.bs.get id = if h.nx ≤ id ∧ id < h.nx + m.out.length then (m.out.map (LO.ren G))[id - h.nx]? else h.bs.get id := fun id => by rw [← hh', addL_get]; simp
  have hst : Stp h h' := ⟨by omega, h'ro, fun id ⟨o, ho, hl⟩ => by
    rw [h'get] at ho
    split at ho
    · exact .inr (by omega)
    · exact .inl ⟨o, ho, hl⟩⟩
  refine ⟨hst, fun S ρ w A fr mm hA => ?_⟩
  -- the match
  unfold Memo.find at hf
  split at hf
  case h_2 => cases hf
  rename_i t0 hn64 hglob
  have hok := hok t0
  have hn64 := Nat.le_of_ble_eq_true hn64
  split at hf
  · cases hf
  rename_i r1 hr1
  split at hf
  · cases hf
  rename_i r2 hr2
  split at hf
  case h_2 => cases hf
  rename_i hfin
  cases hf
  obtain ⟨hlen, hnd⟩ := boolAnd_true.1 hfin
  have hlen := Nat.eq_of_beq_eq_true hlen
  have hnd := nodupN_nodup hnd
  obtain ⟨a1, a2, a3⟩ := mtL_spec (mtV_spec 5) _ _ _ _ hr1
  obtain ⟨b1, b2, b3⟩ := mtBs_spec _ _ _ _ hr2
  have hargs : m.args.map (LV.ren (gOf r)) = args := a3 r b1
  have hblk := b3 r (List.prefix_refl _)
  have h64 : ∀ b ∈ r, 64 ≤ b := fun b hb => by
    rcases b2 b hb with h | h
    · rcases a2 b h with h | h
      · cases h
      · exact h
    · exact h
  -- the evaluation
  unfold memoOk at hok
  split at hok
  · cases hok
  rename_i hbd
  rw [hN] at hbd
  obtain ⟨hbdA, hbd⟩ := boolAnd_true.1 hbd
  obtain ⟨hbdB, hbd⟩ := boolAnd_true.1 hbd
  obtain ⟨hbdR, hbdO⟩ := boolAnd_true.1 hbd
  split at hok
  case h_2 => cases hok
  rename_i v hc' hs' hev
  split at hok
  · cases hok
  rename_i q1 hq1
  split at hok
  · cases hok
  rename_i q hq
  obtain ⟨hql, hok⟩ := boolAnd_true.1 hok
  obtain ⟨hqn, hqg⟩ := boolAnd_true.1 hok
  have hql := Nat.eq_of_beq_eq_true hql
  have hqn := nodupN_nodup hqn
  obtain ⟨c1, _, c3⟩ := mtV_spec 5 _ _ _ _ hq1
  obtain ⟨d1, _, d3⟩ := mtBs_spec _ _ _ _ hq
  have hres : m.res.ren (gOf q) = v := c3 q d1
  have hout := d3 q (List.prefix_refl _)
  obtain ⟨_, sst, hcall⟩ := evF_sound hE true n _ _ _ _ _ _ _ hev rfl
  have hcnx : (m.heap tab t0).nx = N := heap_nx.trans hN
  have hcro : (m.heap tab t0).ro = N := heap_ro.trans hN
  have hNle : N ≤ hc'.nx := by have := sst.nx; omega
  -- old blocks of the small memory
  have qold : ∀ b, 64 ≤ b → b < N → gOf q b = b := by
    intro b h1 h2
    refine gOf_mono (c1.trans d1) ?_
    rw [idsFrom_get, if_pos (by omega)]; congr 1; omega
  have qnew : ∀ j, j < m.out.length → q[m.blocks.length + j]? = some (gOf q (N + j)) ∧ N ≤ gOf q (N + j) := by
    intro j hj
    have hlt : m.blocks.length + j < q.length := by omega
    have e1 : N + j - 64 = m.blocks.length + j := by omega
    have e2 : gOf q (N + j) = q[m.blocks.length + j] := by
      simp [gOf, e1, List.getD_eq_getElem?_getD, hlt]
    refine ⟨by rw [e2]; simp [hlt], ?_⟩
    rw [e2]
    have hmem : q[m.blocks.length + j] ∈ q.drop m.blocks.length := List.mem_of_getElem? (i := j) (by rw [List.getElem?_drop]; simp [hlt])
    have := List.all_eq_true.1 hqg _ hmem
    have := Nat.le_of_ble_eq_true this
    omega
  have rold : ∀ b, 64 ≤ b → b < N → r[b - 64]? = some (gOf r b) := by
    intro b h1 h2
    have hlt : b - 64 < r.length := by omega
    simp [gOf, List.getD_eq_getElem?_getD, hlt]
  have Gold : ∀ b, 64 ≤ b → b < N → G b = gOf r b := by
    intro b h1 h2
    rw [← hG]
    have hb : Nat.blt b N = true := Nat.ble_eq_true_of_le h2
    simp only [gNew, hb, getN_eq]
    have := rold b h1 h2
    rw [show b.sub 64 = b - 64 from rfl, this]
  have Gnew : ∀ j, G (N + j) = h.nx + j := by
    intro j
    rw [← hG]
    have hb : Nat.blt (N + j) N = false := by
      rw [Bool.eq_false_iff]
      intro hb
      have := Nat.le_of_ble_eq_true hb
      omega
    simp only [gNew, hb]
    show h.nx + (N + j - N) = _
    omega
  -- where old blocks are: they live
  have liveOld : ∀ b, 64 ≤ b → b < N → ∃ o2, h.bs.get (gOf r b) = some o2 ∧ o2.live = true ∧ ∃ o, m.blocks[b - 64]? = some o ∧ LO.bd N o = true ∧ MtO o o2 r := by
    intro b h1 h2
    have hlt : b - 64 < m.blocks.length := by omega
    have hb0 : m.blocks[b - 64]? = some m.blocks[b - 64] := by simp [hlt]
    obtain ⟨x, o2, e1, e2, e3⟩ := hblk (b - 64) _ hb0
    rw [Nat.zero_add, rold b h1 h2] at e1
    cases e1
    refine ⟨o2, e2, ?_, _, hb0, List.all_eq_true.1 hbdB _ (List.mem_of_getElem? hb0), e3⟩
    obtain ⟨_, _, _, _, _, _, _, _, _, _, rfl, _⟩ := e3
    rfl
  have oldIn : ∀ b, 64 ≤ b → b < N → S (gOf r b) := fun b h1 h2 => by
    obtain ⟨o2, e1, e2, _⟩ := liveOld b h1 h2
    exact mm.lt e1 e2
  have oldOut : ∀ b, 64 ≤ b → b < N → gOf r b < h.nx ∨ h.nx + m.out.length ≤ gOf r b := fun b h1 h2 => by
    have := fr.1 _ (oldIn b h1 h2)
    rwa [h'nx] at this
  -- the small memory stands
  have hcget : ∀ id o, (m.heap tab t0).bs.get id = some o → id < N ∧ ∃ o2, o2.live = true ∧ (id < 64 ∨ 64 ≤ id) ∧ h.bs.get (if id < 64 then id else gOf r id) = some o2 ∧ ∃ rf, LO.bd N o = true ∧ MtO o o2 rf ∧ (64 ≤ id → rf = r) ∧ (id < 64 → LO.bd 64 o = true) := by
    intro id o ho
    rcases heap_get ho with ⟨h1, h2⟩ | hg
    · have hlt : id - 64 < m.blocks.length := (List.getElem?_eq_some_iff.1 h2).1
      obtain ⟨o2, e1, e2, o', e3, e4, e5⟩ := liveOld id h1 (by omega)
      rw [h2] at e3; cases e3
      refine ⟨by omega, o2, e2, .inr h1, ?_, r, e4, e5, fun _ => rfl, fun h => by omega⟩
      rw [if_neg (by omega)]; exact e1
    · obtain ⟨rfl, hgl, rfl⟩ := hg
      rw [hgl] at hglob
      obtain ⟨h2', o2, h3, rf, h4⟩ := globOk_spec hglob
      have h1 : (0 : Nat) < 64 := by omega
      have h2 : LO.bd 64 (.cells tab tab.length t0 none false) = true := boolAnd_true.2 ⟨lenT_true _, h2'⟩
      refine ⟨by omega, o2, ?_, .inl h1, ?_, rf, ?_, h4, fun h => by omega, fun _ => h2⟩
      · obtain ⟨_, _, _, _, _, _, _, _, _, _, rfl, _⟩ := h4
        rfl
      · rw [if_pos h1]; exact h3
      · -- no block is named
        obtain ⟨g1, g2⟩ := boolAnd_true.1 h2
        refine boolAnd_true.2 ⟨g1, ?_⟩
        have mono : ∀ v : LV, v.bd 64 = true → v.bd N = true := by
          intro v hv
          exact LV.bd_mono (by omega) v hv
        exact LVs.bd_all fun v hv => mono v (LVs.bd_mem g2 v hv)
  let κ : Nat → Nat := fun id => if id < 64 then id else gOf r id
  let ρc : Rn := ρ.comp κ
  let Sc : Sc := fun id => id < N ∨ hc'.nx ≤ id
  have ScN : ∀ ρ', AgreeOn Sc ρc ρ' → Agr N (ρ.comp (gOf r)) ρ' := by
    intro ρ' ag id h1 h2
    have := ag id (.inl h2)
    simp only [ρc, κ, Rn.comp, if_neg (show ¬ id < 64 by omega)] at this
    exact this
  have mc : Mem Sc ρc (m.heap tab t0) w := by
    intro ρ' ag
    refine ⟨fun id o ho => ?_, fun i j x y hx hy _ _ he => ?_, fun g hg => ?_⟩
    · obtain ⟨h1, o2, h2, _, h3, rf, h4, h5, h6, h7⟩ := hcget id o ho
      have e := ag id (.inl h1)
      have hob := mm.self.obj _ _ h3
      have e1 : ρ'.s id = ρ.s (if id < 64 then id else gOf r id) := e.1
      rw [e1]
      by_cases hi : 64 ≤ id
      · obtain rfl := h6 hi
        exact h5.oeq h4 (ScN ρ' ag) e.2 hob
      · have hb := h7 (by omega)
        exact h5.oeq (ρ := ρ) (n := 64) hb (fun id h1 h2 => absurd h1 (by omega)) e.2 hob
    · obtain ⟨h1, o2, h2, _, h3, _⟩ := hcget i x hx
      obtain ⟨g1, p2, g2, _, g3, _⟩ := hcget j y hy
      rw [(ag i (.inl h1)).1, (ag j (.inl g1)).1] at he
      have hk := mm.self.inj _ _ _ _ h3 g3 h2 g2 he
      by_cases hi : i < 64 <;> by_cases hj : j < 64
      · simpa [hi, hj] using hk
      · rw [if_pos hi, if_neg hj] at hk
        have := h64 (gOf r j) (List.mem_of_getElem? (rold j (by omega) g1))
        omega
      · rw [if_neg hi, if_pos hj] at hk
        have := h64 (gOf r i) (List.mem_of_getElem? (rold i (by omega) h1))
        omega
      · rw [if_neg hi, if_neg hj] at hk
        have r1 := rold i (by omega) h1
        have r2 := rold j (by omega) g1
        rw [hk] at r1
        have := (List.getElem?_inj (List.getElem?_eq_some_iff.1 r1).1 hnd).1 (r1.trans r2.symm)
        omega
    · rw [(ag g (.inl (by simp only [nG] at hg; omega))).1]
      simp only [ρc, κ, Rn.comp]
      rw [if_pos (by simpa [nG] using hg)]
      exact mm.self.glob g hg
  have hAc : Args Sc ρc m.args A := by
    intro ρ' ag
    rw [hA ρ (AgreeOn.refl _ _), ← hargs, List.map_map]
    congr 1
    apply List.map_congr_left
    intro v hv
    have hbv : v.bd N = true := LVs.bd_mem hbdA v hv
    simp only [Function.comp_apply, LV.ren_real]
    exact (LV.bd_real (ScN ρ' ag) v hbv).symm
  have frc : Fresh Sc (m.heap tab t0) hc' := ⟨fun id hi => by rw [hcnx]; exact hi, by rw [hcnx, hcro]; exact Nat.le_refl _⟩
  obtain ⟨hrun, hcalls⟩ := hcall Sc ρc w A frc mc hAc
  refine ⟨hrun, hcalls.mono ?_⟩
  rintro e w1 ⟨ρ1, V, rfl, m1, v1, e1⟩
  -- nothing could be written
  have noFoot : ∀ b, ¬ Foot ρc (m.heap tab t0) b := by
    rintro b ⟨id, o, ho, _, hr, _⟩
    obtain ⟨h1, _⟩ := hcget id o ho
    omega
  have same : ∀ b, b < w.heap.size → w1.heap[b]? = w.heap[b]? := fun b hb => e1.kept.same b hb (noFoot b)
  have hsize := e1.kept.size
  have hc'ro : hc'.ro = N := sst.ro.trans hcro
  -- new blocks
  have newAt : ∀ j, j < m.out.length → ∃ o o2, m.out[j]? = some o ∧ hc'.bs.get (gOf q (N + j)) = some o2 ∧ o2.live = true ∧ LO.bd (N + m.out.length) o = true ∧ MtO o o2 q := by
    intro j hj
    have ho : m.out[j]? = some m.out[j] := by simp [hj]
    obtain ⟨b, o2, e2, e3, e4⟩ := hout j _ ho
    rw [(qnew j hj).1] at e2
    cases e2
    refine ⟨_, o2, ho, e3, ?_, List.all_eq_true.1 hbdO _ (List.mem_of_getElem? ho), e4⟩
    obtain ⟨_, _, _, _, _, _, _, _, _, _, rfl, _⟩ := e4
    rfl
  have newFoot : ∀ j, j < m.out.length → w.heap.size ≤ ρ1.s (gOf q (N + j)) := by
    intro j hj
    obtain ⟨o, o2, _, h2, h3, _⟩ := newAt j hj
    rcases e1.foot (ρ1.s (gOf q (N + j))) ⟨_, o2, h2, h3, by rw [hc'ro]; exact (qnew j hj).2, rfl⟩ with h | h
    · exact absurd h (noFoot _)
    · exact h
  let ρ2 : Rn := ⟨fun i => if h.nx ≤ i ∧ i < h.nx + m.out.length then ρ1.s (gOf q (N + (i - h.nx))) else ρ.s i, fun i => if h.nx ≤ i ∧ i < h.nx + m.out.length then ρ1.g (gOf q (N + (i - h.nx))) else ρ.g i⟩
  have r2old : ∀ i, i < h.nx ∨ h.nx + m.out.length ≤ i → ρ2.s i = ρ.s i ∧ ρ2.g i = ρ.g i := fun i hi => by
    simp only [ρ2]; rw [if_neg (by omega), if_neg (by omega)]; exact ⟨rfl, rfl⟩
  have r2new : ∀ j, j < m.out.length → ρ2.s (h.nx + j) = ρ1.s (gOf q (N + j)) ∧ ρ2.g (h.nx + j) = ρ1.g (gOf q (N + j)) := fun j hj => by
    simp only [ρ2]; rw [if_pos (by omega), if_pos (by omega), show h.nx + j - h.nx = j by omega]; exact ⟨rfl, rfl⟩
  have agS : AgreeOn S ρ ρ2 := fun id hi => by
    have := fr.1 id hi
    rw [h'nx] at this
    exact r2old id this
  -- both readings of a value agree
  have both : ∀ ρ', AgreeOn (grow S h.nx h'.nx) ρ2 ρ' → Agr (N + m.out.length) (ρ1.comp (gOf q)) (ρ'.comp G) := by
    intro ρ' ag b h1 h2
    simp only [Rn.comp]
    by_cases hb : b < N
    · rw [Gold b h1 hb, qold b h1 hb]
      have e2 := ag (gOf r b) (.inl (oldIn b h1 hb))
      have e3 := r2old (gOf r b) (oldOut b h1 hb)
      have e4 := e1.agree b (.inl (by omega))
      simp only [ρc, κ, Rn.comp, if_neg (show ¬ b < 64 by omega)] at e4
      rw [e2.1, e2.2, e3.1, e3.2, e4.1, e4.2]; exact ⟨rfl, rfl⟩
    · obtain ⟨j, rfl⟩ : ∃ j, b = N + j := ⟨b - N, by omega⟩
      have hj : j < m.out.length := by omega
      rw [Gnew j]
      have e2 := ag (h.nx + j) (.inr (by omega))
      have e3 := r2new j hj
      rw [e2.1, e2.2, e3.1, e3.2]; exact ⟨rfl, rfl⟩
  refine ⟨ρ2, V, rfl, fun ρ' ag => ?_, fun ρ' ag => ?_, ⟨by omega, h'ro, fun id hi => r2old id (by omega), ⟨hsize, fun b hb _ => same b hb, e1.kept.tape, e1.kept.os, e1.kept.output⟩, ?_⟩⟩
  · -- memory
    have agO : AgreeOn S ρ ρ' := agS.trans in_grow ag
    have H := mm ρ' agO
    have M1 := m1.self
    have sOf : ∀ j, j < m.out.length → ρ'.s (h.nx + j) = ρ1.s (gOf q (N + j)) ∧ ρ'.g (h.nx + j) = ρ1.g (gOf q (N + j)) := fun j hj => by
      have e2 := ag (h.nx + j) (.inr (by omega))
      have e3 := r2new j hj
      exact ⟨e2.1.trans e3.1, e2.2.trans e3.2⟩
    have cases' : ∀ id o, h'.bs.get id = some o → (∃ j, j < m.out.length ∧ id = h.nx + j ∧ (m.out.map (LO.ren G))[j]? = some o) ∨ ((id < h.nx ∨ h.nx + m.out.length ≤ id) ∧ h.bs.get id = some o) := by
      intro id o ho
      rw [h'get] at ho
      split at ho
      · rename_i hc; exact .inl ⟨id - h.nx, by omega, by omega, ho⟩
      · rename_i hc; exact .inr ⟨by omega, ho⟩
    refine ⟨fun id o ho => ?_, fun i j x y hx hy lx ly he => ?_, H.glob⟩
    · rcases cases' id o ho with ⟨j, hj, rfl, hoj⟩ | ⟨hid, hoid⟩
      · obtain ⟨o0, o2, g1, g2, g3, g4, g5⟩ := newAt j hj
        rw [List.getElem?_map, g1] at hoj
        simp only [Option.map_some, Option.some.injEq] at hoj
        subst hoj
        have hob := M1.obj _ _ g2
        rw [(sOf j hj).1]
        obtain ⟨vs, k, t, gr, st, zs, more, n2, rfl, hk, rfl, hz⟩ := g5
        obtain ⟨h1, C, fz, e, ⟨rest, hC⟩, h2, h3, h4⟩ := hob
        refine ⟨by rw [LVs.ren_map]; simpa using hk, C, fz, e, ⟨more.map (LV.real ρ1) ++ rest, ?_⟩, h2, h3, fun g hgr => by rw [(sOf j hj).2]; exact h4 g hgr⟩
        rw [hC, List.map_append, List.append_assoc, ← hz, LVs.ren_map, List.map_map, List.map_map]
        congr 1
        apply List.map_congr_left
        intro v hv
        have hbv : v.bd (N + m.out.length) = true := LVs.bd_mem (boolAnd_true.1 g4).2 v hv
        simp only [Function.comp_apply, LV.ren_real]
        exact (LV.bd_real (both ρ' ag) v hbv).symm
      · have hob := H.obj id o hoid
        cases hl : o.live with
        | false => exact hob.dead_any hl
        | true =>
          rw [same _ (H.lt hoid hl)]; exact hob
    · rcases cases' i x hx with ⟨a, ha, rfl, hxa⟩ | ⟨hi, hxi⟩ <;> rcases cases' j y hy with ⟨b, hb, rfl, hyb⟩ | ⟨hj, hyj⟩
      · rw [(sOf a ha).1, (sOf b hb).1] at he
        obtain ⟨_, o2, _, g2, g3, _⟩ := newAt a ha
        obtain ⟨_, p2, _, q2, q3, _⟩ := newAt b hb
        have hk := M1.inj _ _ _ _ g2 q2 g3 q3 he
        have k1 := (qnew a ha).1
        have k2 := (qnew b hb).1
        rw [hk] at k1
        have := (List.getElem?_inj (List.getElem?_eq_some_iff.1 k1).1 hqn).1 (k1.trans k2.symm)
        omega
      · have := newFoot a ha
        have := H.lt hyj ly
        rw [(sOf a ha).1] at he
        omega
      · have := newFoot b hb
        have := H.lt hxi lx
        rw [(sOf b hb).1] at he
        omega
      · exact H.inj i j x y hxi hyj lx ly he
  · -- the value
    have hv := v1.self
    rw [← hres, LV.ren_real] at hv
    rw [LV.ren_real, LV.bd_real (both ρ' ag) _ hbdR]
    exact hv
  · -- what may be written
    rintro b ⟨id, o, ho, hl, hr, rfl⟩
    rw [h'get] at ho
    split at ho
    · rename_i hc
      obtain ⟨j, rfl⟩ : ∃ j, id = h.nx + j := ⟨id - h.nx, by omega⟩
      rw [(r2new j (by omega)).1]
      exact .inr (newFoot j (by omega))
    · rename_i hc
      rw [(r2old id (by omega)).1]
      exact .inl ⟨id, o, ho, hl, by rw [h'ro] at hr; exact hr, rfl⟩

/-- Known calls are summaries. -/
theorem memoSum_ok {E : Env} (hE : EnvOk E) {tab : List LV} {f : FuncId} : ∀ {ms : List Memo}, (∀ m ∈ ms, ∃ n, ∀ t, memoOk E tab t n f m = true) → ∀ args h pa v h' pa', memoSum tab ms args h pa = .val v h' pa' true → pa'.as = true → pa.as = true ∧ Stp h h' ∧
    ∀ S ρ w A, Fresh S h h' → Mem S ρ h w → Args S ρ args A → (callFunc f A).run E.P w = .ok (.enter f A) w ∧ CallsIn Fence.wide 0 E.P f A w (Post S ρ h w v h') := by
  intro ms
  induction ms with
  | nil => intro _ args h pa v h' pa' hx; cases hx
  | cons m ms ih =>
    intro hm args h pa v h' pa' hx hp
    simp only [memoSum] at hx
    split at hx
    · exact ih (fun m' h' => hm m' (List.mem_cons_of_mem _ h')) args h pa v h' pa' hx hp
    · rename_i r hr
      rw [pushL_eq] at hx
      cases hx
      obtain ⟨n, hn⟩ := hm m (List.mem_cons_self ..)
      obtain ⟨h1, h2⟩ := memo_step hE hn hr
      exact ⟨hp, h1, h2⟩
end Go.Ev

/- The evaluator's surroundings for a program: bits.Add64, known calls. -/
namespace Go.Ev
open Go

/-- bits.Add64 -/
noncomputable def add64V (args : List LV) : Option LV :=
  match args with
  | [.int .u64 x, .int .u64 y, .int .u64 c] => match boolAnd (boolAnd (leInt 0 x) (leInt 0 y)) (boolAnd (leInt 0 c) (leInt c 1)) with
    | true => some (.tup [.int .u64 ((x + y + c) % 18446744073709551616), .int .u64 ((x + y + c) / 18446744073709551616)])
    | false => none
  | _ => none

noncomputable def envEq (P : Program) (t : TypeId) : Bool := boolAnd (boolNot (P.stoodInHeld t)) (boolNot (P.eqGuardType P.depth t))

noncomputable def sumOf (tab : List LV) : List (FuncId × List Memo) → FuncId → Option (List LV → LH → Path → OR)
  | [], _ => none
  | (g, ms) :: l, f => bif Nat.beq g f then some (memoSum tab ms) else sumOf tab l f

/-- A program's surroundings; add: where bits.Add64 is. -/
noncomputable def env (P : Program) (add : FuncId) (tab : List LV) (l : List (FuncId × List Memo)) : Env :=
  { P, eqOk := envEq P, ext := fun g => bif Nat.beq g add then some add64V else none, sum := sumOf tab l }

/-- What is asked of the program, each a closed fact. -/
structure ProgOk (P : Program) (add : FuncId) : Prop where
  mixed : P.follows .mixedOrders = true
  names : (P.funcs.toList.all fun fn => boolNot (fn.name == "runtime.NumGoroutine")) = true
  fn : ∃ fn, P.funcs[add]? = some fn ∧ fn.body.isNone = true ∧ Extern.findNext fn = none ∧ Extern.find fn = some add64Entry

theorem envBase {P : Program} {add : FuncId} {tab : List LV} {l : List (FuncId × List Memo)} : EnvBase (env P add tab l) := ⟨fun t h => by
  obtain ⟨h1, h2⟩ := boolAnd_true.1 h
  rw [boolNot_eq] at h1 h2
  have h1 : P.stoodInHeld t = false := by simpa using h1
  have h2 : P.eqGuardType P.depth t = false := by simpa using h2
  exact ⟨h1, h2⟩⟩

theorem names_all {P : Program} {add : FuncId} (h : ProgOk P add) {f : FuncId} {fn : Func} (hf : P.funcs[f]? = some fn) : (fn.name == "runtime.NumGoroutine") = false := by
  have hm : fn ∈ P.funcs.toList := List.mem_of_getElem? (i := f) (by simpa using hf)
  have := List.all_eq_true.1 h.names fn hm
  rw [boolNot_eq] at this
  simpa using this

theorem envExt {P : Program} {add : FuncId} (h : ProgOk P add) {tab : List LV} {l : List (FuncId × List Memo)} : ExtOk (env P add tab l) := by
  intro g e he args v hv ρ w
  have he : (bif Nat.beq g add then some add64V else none) = some e := he
  cases hg : Nat.beq g add with
  | false => rw [hg] at he; cases he
  | true =>
    rw [hg] at he
    cases he
    obtain rfl := Nat.eq_of_beq_eq_true hg
    obtain ⟨fn, h1, h2, h3, h4⟩ := h.fn
    show (callFunc g (args.map (LV.real ρ)).toArray).run P w = _
    rw [run_callFunc_extern h1 (names_all h h1) h2 h3 h4]
    unfold add64V at hv
    split at hv
    · rename_i x y c
      split at hv
      · rename_i hc
        obtain ⟨ha, hb⟩ := boolAnd_true.1 hc
        obtain ⟨h5, h6⟩ := boolAnd_true.1 ha
        obtain ⟨h7, h8⟩ := boolAnd_true.1 hb
        rw [leInt_eq] at h5 h6 h7 h8
        cases hv
        have := run_add64 (P := P) x y c (of_decide_eq_true h5) (of_decide_eq_true h6) (of_decide_eq_true h7) (of_decide_eq_true h8) w
        simp only [List.map_cons, List.map_nil, LV.real]
        rw [this]
        simp [LV.real, LVs.real]
      · cases hv
    · cases hv

theorem env_ok0 {P : Program} {add : FuncId} (h : ProgOk P add) {tab : List LV} : EnvOk (env P add tab []) :=
  ⟨envBase, envExt h, h.mixed, fun _ _ _ hf _ => names_all h hf, fun f s hs => by cases hs⟩

theorem sumOf_mem {tab : List LV} {f : FuncId} {s : List LV → LH → Path → OR} : ∀ {l : List (FuncId × List Memo)}, sumOf tab l f = some s → ∃ ms, (f, ms) ∈ l ∧ s = memoSum tab ms := by
  intro l
  induction l with
  | nil => intro h; cases h
  | cons x l ih =>
    intro h
    obtain ⟨g, ms⟩ := x
    simp only [sumOf] at h
    cases hg : Nat.beq g f with
    | true =>
      rw [hg] at h
      cases h
      obtain rfl := Nat.eq_of_beq_eq_true hg
      exact ⟨ms, List.mem_cons_self .., rfl⟩
    | false =>
      rw [hg] at h
      obtain ⟨ms', h1, h2⟩ := ih h
      exact ⟨ms', List.mem_cons_of_mem _ h1, h2⟩

/-- Known calls: each shown by an evaluation over others that are known. -/
theorem env_ok {P : Program} {add : FuncId} (h : ProgOk P add) {tab : List LV} {l0 l : List (FuncId × List Memo)} (h0 : EnvOk (env P add tab l0)) (hl : ∀ f ms, (f, ms) ∈ l → ∀ m ∈ ms, ∃ n, ∀ t, memoOk (env P add tab l0) tab t n f m = true) : EnvOk (env P add tab l) :=
  ⟨envBase, envExt h, h.mixed, fun _ _ _ hf _ => names_all h hf, fun f s hs => by
    obtain ⟨ms, hm, rfl⟩ := sumOf_mem hs
    exact memoSum_ok (E := env P add tab l0) h0 (hl f ms hm)⟩
end Go.Ev
