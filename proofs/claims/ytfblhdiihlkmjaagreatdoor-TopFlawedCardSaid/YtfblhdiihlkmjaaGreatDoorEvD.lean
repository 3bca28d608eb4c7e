/- An evaluator of translated Go code over logical memory, and its soundness (EvD). -/
import Derived.Test.YtfblhdiihlkmjaaGreatDoorEvC
import Derived.RangeFuncLeaves
import Derived.RangeFuncCalls
import Derived.RangeFuncRecord
/- Code: what stands at a place of the code; one operation; operations in their text's order. -/
namespace Go.Ev
open Go

/-- Numbers of blocks that have been given away. -/
abbrev Sc := Nat → Prop
/-- Blocks with these numbers lie where they lie. -/
def AgreeOn (S : Sc) (ρ ρ' : Rn) : Prop := ∀ id, S id → ρ'.s id = ρ.s id ∧ ρ'.g id = ρ.g id
def grow (S : Sc) (a b : Nat) : Sc := fun id => S id ∨ (a ≤ id ∧ id < b)

theorem AgreeOn.refl (S : Sc) (ρ : Rn) : AgreeOn S ρ ρ := fun _ _ => ⟨rfl, rfl⟩
theorem AgreeOn.trans {S S' : Sc} {ρ ρ' ρ'' : Rn} (h : AgreeOn S ρ ρ') (hs : ∀ id, S id → S' id) (h' : AgreeOn S' ρ' ρ'') : AgreeOn S ρ ρ'' := fun id hi => by
  obtain ⟨a, b⟩ := h id hi
  obtain ⟨c, d⟩ := h' id (hs id hi)
  exact ⟨c.trans a, d.trans b⟩
theorem AgreeOn.symm {S : Sc} {ρ ρ' : Rn} (h : AgreeOn S ρ ρ') : AgreeOn S ρ' ρ := fun id hi => ⟨(h id hi).1.symm, (h id hi).2.symm⟩
theorem grow_self (S : Sc) (a : Nat) : grow S a a = S := by
  funext id; simp only [grow, eq_iff_iff]; constructor
  · rintro (h | h)
    · exact h
    · omega
  · exact .inl
theorem grow_grow (S : Sc) {a b c : Nat} (h1 : a ≤ b) (h2 : b ≤ c) : grow (grow S a b) b c = grow S a c := by
  funext id; simp only [grow, eq_iff_iff]; constructor
  · rintro ((h | h) | h)
    · exact .inl h
    · exact .inr (by omega)
    · exact .inr (by omega)
  · rintro (h | h)
    · exact .inl (.inl h)
    · by_cases hb : id < b
      · exact .inl (.inr (by omega))
      · exact .inr (by omega)

/-! ### what an operation does to memory, at a glance -/
def LiveAt (h : LH) (id : Nat) : Prop := ∃ o, h.bs.get id = some o ∧ o.live = true
/-- Numbers are given away in turn; no block comes back to life. -/
structure Stp (h h' : LH) : Prop where
  nx : h.nx ≤ h'.nx
  ro : h'.ro = h.ro
  live : ∀ id, LiveAt h' id → LiveAt h id ∨ (h.nx ≤ id ∧ id < h'.nx)
theorem Stp.refl (h : LH) : Stp h h := ⟨Nat.le_refl _, rfl, fun _ hl => .inl hl⟩
theorem Stp.trans {h h' h'' : LH} (a : Stp h h') (b : Stp h' h'') : Stp h h'' := ⟨Nat.le_trans a.nx b.nx, b.ro.trans a.ro, fun id hl => by
  have n1 := a.nx
  have n2 := b.nx
  rcases b.live id hl with h1 | h1
  · rcases a.live id h1 with h2 | h2
    · exact .inl h2
    · exact .inr (by omega)
  · exact .inr (by omega)⟩
theorem Stp.add (h : LH) (o : LO) : Stp h (h.add o) := ⟨Nat.le_succ _, rfl, fun id ⟨x, hx, lx⟩ => by
  simp only [LH.add, Tr.get_set] at hx
  split at hx
  · rename_i e; subst e; exact .inr ⟨Nat.le_refl _, Nat.lt_succ_self _⟩
  · exact .inl ⟨x, hx, lx⟩⟩
theorem Stp.set {h : LH} {id : Nat} (hl : LiveAt h id) (o : LO) : Stp h (h.set id o) := ⟨Nat.le_refl _, rfl, fun k ⟨x, hx, lx⟩ => by
  simp only [LH.set, Tr.get_set] at hx
  split at hx
  · rename_i e; subst e; exact .inl hl
  · exact .inl ⟨x, hx, lx⟩⟩

/-- The numbers to be given away have not been given away yet. -/
def Fresh (S : Sc) (h h' : LH) : Prop := (∀ id, S id → id < h.nx ∨ h'.nx ≤ id) ∧ h.ro ≤ h.nx
theorem Fresh.fst {S : Sc} {h h1 h2 : LH} (f : Fresh S h h2) (b : Stp h1 h2) : Fresh S h h1 := ⟨fun id hi => by
  have := b.nx
  rcases f.1 id hi with h | h <;> omega, f.2⟩
theorem Fresh.snd {S : Sc} {h h1 h2 : LH} (f : Fresh S h h2) (a : Stp h h1) : Fresh (grow S h.nx h1.nx) h1 h2 := ⟨fun id hi => by
  have := a.nx
  rcases hi with hi | hi
  · rcases f.1 id hi with h | h <;> omega
  · omega, by have := a.nx; have := a.ro; have := f.2; omega⟩
theorem Fresh.not {S : Sc} {h h' : LH} (f : Fresh S h h') (hn : h.nx < h'.nx) : ¬ S h.nx := fun hs => by
  rcases f.1 _ hs with h | h <;> omega

/-- Memory stands, wherever blocks to come will lie. -/
def Mem (S : Sc) (ρ : Rn) (h : LH) (w : World) : Prop := ∀ ρ', AgreeOn S ρ ρ' → HEq ρ' h w
/-- A value stands for another, wherever blocks to come will lie. -/
def Vl (S : Sc) (ρ : Rn) (v : LV) (V : Value) : Prop := ∀ ρ', AgreeOn S ρ ρ' → v.real ρ' = V
def Tm (S : Sc) (ρ : Rn) (f : Nat → LV) (n : Nat) (T : Array Value) : Prop := T.size = n ∧ ∀ t, Vl S ρ (f t) (T.getD t undef)
def mark (ρ : Rn) (r : Nat) : Deferred := { target := .collected (ρ.s r), args := #[] }
def Mks (S : Sc) (ρ : Rn) (mks : List Nat) (ds : List Deferred) : Prop := ∀ ρ', AgreeOn S ρ ρ' → ds = mks.map (mark ρ')

/-- What came of a memory: nothing is lost, and only what could be written was. -/
structure Ext (ρ : Rn) (h : LH) (w : World) (ρ1 : Rn) (h1 : LH) (w1 : World) : Prop where
  nx : h.nx ≤ h1.nx
  ro : h1.ro = h.ro
  agree : ∀ id, id < h.nx ∨ h1.nx ≤ id → ρ1.s id = ρ.s id ∧ ρ1.g id = ρ.g id
  kept : Kept ρ h w w1
  foot : FootIn ρ h w ρ1 h1

theorem Ext.refl (ρ : Rn) (h : LH) (w : World) : Ext ρ h w ρ h w := ⟨Nat.le_refl _, rfl, fun _ _ => ⟨rfl, rfl⟩, Kept.refl _ _ _, FootIn.refl _ _ _⟩
theorem Ext.trans {ρ ρ1 ρ2 : Rn} {h h1 h2 : LH} {w w1 w2 : World} (e : Ext ρ h w ρ1 h1 w1) (e' : Ext ρ1 h1 w1 ρ2 h2 w2) : Ext ρ h w ρ2 h2 w2 :=
  ⟨Nat.le_trans e.nx e'.nx, e'.ro.trans e.ro, fun id hi => by
    have n1 := e.nx
    have n2 := e'.nx
    obtain ⟨a, b⟩ := e.agree id (by omega)
    obtain ⟨c, d⟩ := e'.agree id (by omega)
    exact ⟨c.trans a, d.trans b⟩, e.kept.trans e.foot e'.kept, e.foot.trans e.kept.size e'.foot⟩
theorem Ext.on {ρ ρ1 : Rn} {h h1 : LH} {w w1 : World} (e : Ext ρ h w ρ1 h1 w1) {S : Sc} (hs : ∀ id, S id → id < h.nx ∨ h1.nx ≤ id) : AgreeOn S ρ ρ1 := fun id hi => e.agree id (hs id hi)
theorem Fresh.on {ρ ρ1 : Rn} {h h1 : LH} {w w1 : World} {S : Sc} (l : Fresh S h h1) (e : Ext ρ h w ρ1 h1 w1) : AgreeOn S ρ ρ1 := e.on l.1

theorem Vl.to {S S' : Sc} {ρ ρ1 : Rn} {v : LV} {V : Value} (hv : Vl S ρ v V) (a : AgreeOn S ρ ρ1) (hs : ∀ id, S id → S' id) : Vl S' ρ1 v V := fun ρ' a' => hv ρ' (a.trans hs a')
theorem Tm.to {S S' : Sc} {ρ ρ1 : Rn} {f : Nat → LV} {n : Nat} {T : Array Value} (hv : Tm S ρ f n T) (a : AgreeOn S ρ ρ1) (hs : ∀ id, S id → S' id) : Tm S' ρ1 f n T := ⟨hv.1, fun t => (hv.2 t).to a hs⟩
theorem Mks.to {S S' : Sc} {ρ ρ1 : Rn} {m : List Nat} {ds : List Deferred} (hv : Mks S ρ m ds) (a : AgreeOn S ρ ρ1) (hs : ∀ id, S id → S' id) : Mks S' ρ1 m ds := fun ρ' a' => hv ρ' (a.trans hs a')
theorem in_grow {S : Sc} {a b : Nat} : ∀ id, S id → grow S a b id := fun _ h => .inl h
theorem Mem.self {S : Sc} {ρ : Rn} {h : LH} {w : World} (m : Mem S ρ h w) : HEq ρ h w := m ρ (AgreeOn.refl _ _)
theorem Vl.self {S : Sc} {ρ : Rn} {v : LV} {V : Value} (m : Vl S ρ v V) : v.real ρ = V := m ρ (AgreeOn.refl _ _)
theorem Tm.eq {S : Sc} {ρ : Rn} {tm : Tr LV} {n : Nat} {T : Array Value} (t : Tm S ρ (tget tm) n T) : TmEq ρ tm n T := ⟨t.1, fun u => (t.2 u).self.symm⟩

/-- Operands, their temporaries so. -/
noncomputable def rhoF (f : Nat → LV) : Operand → LV
  | .tmp t => f t
  | x => rho .leaf x
theorem rho_F (tm : Tr LV) : rho tm = rhoF (tget tm) := by
  funext x; cases x <;> rfl
theorem Vl.of {S : Sc} {ρ : Rn} {h : LH} {w : World} {f : Nat → LV} {n : Nat} {a : Act} (m : Mem S ρ h w) (t : Tm S ρ f n a.tmps) (x : Operand) : Vl S ρ (rhoF f x) (a.eval x) := fun ρ' ag => by
  cases x with
  | tmp u => exact t.2 u ρ' ag
  | const v => exact ofV_real ρ' v
  | global g =>
    simp only [rhoF, rho, Act.eval]
    split
    · rename_i hg
      have hg : g < 64 := Nat.le_of_ble_eq_true hg
      simp [LV.real, LA.real, LA.off, (m ρ' ag).glob g hg]
    · rfl
  | func f => simp [rhoF, rho, Act.eval, LV.real, LVs.real, fnR]

/-- The next block lies so. -/
def Rn.next (ρ : Rn) (n b g : Nat) : Rn := ⟨fun i => if i = n then b else ρ.s i, fun i => if i = n then g else ρ.g i⟩
theorem Rn.next_ne (ρ : Rn) {n i : Nat} (b g : Nat) (h : i ≠ n) : (ρ.next n b g).s i = ρ.s i ∧ (ρ.next n b g).g i = ρ.g i := by simp [Rn.next, h]

theorem Mem.lt {S : Sc} {ρ : Rn} {h : LH} {w : World} (m : Mem S ρ h w) {id : Nat} {o : LO} (ho : h.bs.get id = some o) (hl : o.live = true) : S id := by
  apply Classical.byContradiction
  intro hs
  have := (m (ρ.next id w.heap.size 0) (fun i hi => ρ.next_ne _ _ fun e => hs (e ▸ hi))).lt ho hl
  simp [Rn.next] at this
theorem Mem.foot {S : Sc} {ρ ρ' : Rn} {h : LH} {w : World} (m : Mem S ρ h w) (ag : AgreeOn S ρ ρ') (b : Nat) : Foot ρ' h b ↔ Foot ρ h b := by
  constructor <;> (rintro ⟨id, o, ho, hl, hr, rfl⟩; exact ⟨id, o, ho, hl, hr, by rw [(ag id (m.lt ho hl)).1]⟩)

theorem tget_set (tm : Tr LV) (v : LV) (d t : Nat) : tget (Tr.set v tm d) t = if t = d then v else tget tm t := by
  unfold tget
  rw [Tr.get_set]
  by_cases h : t = d <;> simp [h]

theorem Tm.set {S : Sc} {ρ : Rn} {f g : Nat → LV} {n d : Nat} {T : Array Value} {v : LV} {V : Value} (t : Tm S ρ f n T) (hv : Vl S ρ v V) (hd : d < n) (hg : ∀ u, g u = if u = d then v else f u) : Tm S ρ g n (T.setIfInBounds d V) := by
  obtain ⟨h1, h2⟩ := t
  refine ⟨by simpa using h1, fun u => ?_⟩
  rw [hg]
  by_cases hu : u = d
  · subst hu
    rw [if_pos rfl]
    have : (T.setIfInBounds u V).getD u undef = V := by simp [h1, hd]
    rw [this]; exact hv
  · rw [if_neg hu]
    have : (T.setIfInBounds d V).getD u undef = T.getD u undef := by simp [Array.getElem?_setIfInBounds_ne (Ne.symm hu), Array.getD_eq_getD_getElem?]
    rw [this]; exact h2 u

section
variable {E : Env}

/-- One operation, in a memory. -/
theorem op_step {r : Operand → LV} {o : Oper} {h h' : LH} {pa : Path} {v : LV} (hs : OSound E r o h pa v h') {S : Sc} {ρ : Rn} {w : World} {a : Act} (m : Mem S ρ h w) (t : ∀ x, Vl S ρ (r x) (a.eval x)) (hfr : h'.nx = h.nx + 1 → ¬ S h.nx) :
    ∃ ρ1 V w1, ((execOp a.eval o).run E.P w = .ok (.value V) w1 ∨ ((execOp a.eval o).run E.P w = .ok .skip w1 ∧ V = undef)) ∧ Mem (grow S h.nx h'.nx) ρ1 h' w1 ∧ Vl (grow S h.nx h'.nx) ρ1 v V ∧ Ext ρ h w ρ1 h' w1 := by
  obtain ⟨_, hro, hnx, hd⟩ := hs
  obtain ⟨b0, g0, hd⟩ := hd w a
  have hle : h.nx ≤ h'.nx := by omega
  -- where the next block lies
  obtain ⟨ρ1, hρ1⟩ : ∃ ρ1 : Rn, (h'.nx = h.nx + 1 → ρ1 = ρ.next h.nx b0 g0) ∧ (h'.nx = h.nx → ρ1 = ρ) := by
    rcases hnx with e | e
    · exact ⟨ρ, fun e' => by omega, fun _ => rfl⟩
    · exact ⟨ρ.next h.nx b0 g0, fun _ => rfl, fun e' => by omega⟩
  have hout : ∀ id, id < h.nx ∨ h'.nx ≤ id → ρ1.s id = ρ.s id ∧ ρ1.g id = ρ.g id := by
    intro id hi
    rcases hnx with e | e
    · rw [hρ1.2 e]; exact ⟨rfl, rfl⟩
    · rw [hρ1.1 e]; exact ρ.next_ne _ _ (by omega)
  have hag : AgreeOn S ρ ρ1 := by
    intro id hi
    rcases hnx with e | e
    · rw [hρ1.2 e]; exact ⟨rfl, rfl⟩
    · rw [hρ1.1 e]; exact ρ.next_ne _ _ fun e' => hfr e (e' ▸ hi)
  have hdo : ∀ ρ', AgreeOn (grow S h.nx h'.nx) ρ1 ρ' → Does E.P (execOp a.eval o) ρ' h w v h' := fun ρ' ag => by
    have ag' : AgreeOn S ρ ρ' := hag.trans in_grow ag
    refine hd ρ' (m ρ' ag') (fun x => t x ρ' ag') fun hn => ?_
    obtain ⟨h1, h2⟩ := ag h.nx (.inr (by omega))
    rw [hρ1.1 hn] at h1 h2
    exact ⟨by simpa [Rn.next] using h1, by simpa [Rn.next] using h2⟩
  obtain ⟨w1, hr, hh, hk, hf⟩ := hdo _ (AgreeOn.refl _ _)
  have foot : ∀ b, Foot ρ1 h b → Foot ρ h b := fun b => (m.foot hag b).1
  have hk' : Kept ρ h w w1 ∧ FootIn ρ h w ρ1 h' := ⟨⟨hk.size, fun b hb hnf => hk.same b hb fun hf' => hnf (foot b hf'), hk.tape, hk.os, hk.output⟩, fun b hb => (hf b hb).imp (foot b) id⟩
  rcases hr with hr | ⟨hr, rfl⟩
  · refine ⟨ρ1, v.real ρ1, w1, .inl hr, fun ρ' ag => ?_, fun ρ' ag => ?_, ⟨hle, hro, hout, hk'.1, hk'.2⟩⟩
    · obtain ⟨w2, hr2, hh2, _⟩ := hdo ρ' ag
      rcases hr2 with hr2 | ⟨hr2, _⟩
      · rw [hr] at hr2; injection hr2 with h1 h2; subst h2; exact hh2
      · rw [hr] at hr2; cases hr2
    · obtain ⟨w2, hr2, hh2, _⟩ := hdo ρ' ag
      rcases hr2 with hr2 | ⟨hr2, _⟩
      · rw [hr] at hr2; injection hr2 with h1 h2; injection h1 with h1; exact h1.symm
      · rw [hr] at hr2; cases hr2
  · refine ⟨ρ1, undef, w1, .inr ⟨hr, rfl⟩, fun ρ' ag => ?_, fun ρ' _ => undefL_real ρ', ⟨hle, hro, hout, hk'.1, hk'.2⟩⟩
    obtain ⟨w2, hr2, hh2, _⟩ := hdo ρ' ag
    rcases hr2 with hr2 | ⟨hr2, _⟩
    · rw [hr] at hr2; cases hr2
    · rw [hr] at hr2; cases hr2; exact hh2

/-! ### what is asked of calls and rounds -/
/-- What a call, or a round, leaves. -/
def Post (S : Sc) (ρ : Rn) (h : LH) (w : World) (v : LV) (h' : LH) (e : Ending) (w1 : World) : Prop :=
  ∃ ρ1 V, e = .returned V ∧ Mem (grow S h.nx h'.nx) ρ1 h' w1 ∧ Vl (grow S h.nx h'.nx) ρ1 v V ∧ Ext ρ h w ρ1 h' w1

def Args (S : Sc) (ρ : Rn) (args : List LV) (A : Array Value) : Prop := ∀ ρ', AgreeOn S ρ ρ' → A = (args.map (LV.real ρ')).toArray

def CallOk (E : Env) (callF : FuncId → List LV → LH → Path → CR) : Prop :=
  ∀ f args h pa v h' pa', callF f args h pa = .ret v h' pa' → pa'.as = true → pa.as = true ∧ Stp h h' ∧ ∀ S ρ w A, Fresh S h h' → Mem S ρ h w → Args S ρ args A →
    (callFunc f A).run E.P w = .ok (.enter f A) w ∧ CallsIn Fence.wide 0 E.P f A w (Post S ρ h w v h')

def RoundOk (E : Env) (roundF : Nat → List LV → LH → Path → CR) : Prop :=
  ∀ l args h pa v h' pa', roundF l args h pa = .ret v h' pa' → pa'.as = true → pa.as = true ∧ Stp h h' ∧ ∀ S ρ w A, Fresh S h h' → Mem S ρ h w → Args S ρ args A →
    ∃ f T assign body, (Instr.yield (ρ.s l) A).run E.P w = .ok (.round (ρ.s l) f T assign body) w ∧ RoundIn Fence.wide 0 E.P (ρ.s l) f T assign body w (Post S ρ h w v h')

/-- The wide fence, in a round or not. -/
def Fw (ro : Option Nat) : Fence := { Fence.wide with round := ro }

theorem callsIn_Fw {ro : Option Nat} {n : Nat} {P : Program} {f : FuncId} {A : Array Value} {w : World} {R : Ending → World → Prop} (h : CallsIn Fence.wide n P f A w R) : CallsIn (Fw ro) n P f A w R := h
theorem roundIn_Fw {ro : Option Nat} {n l : Nat} {P : Program} {f : FuncId} {T : Array Value} {as bo : Code} {w : World} {R : Ending → World → Prop} (h : RoundIn Fence.wide n P l f T as bo w R) : RoundIn (Fw ro) n P l f T as bo w R := h

theorem chk_inv {β : Type} {md : Bool} {bad X : β} {c : Bool} {pa : Path} {k : Path → β} (h : chk md bad c pa k = X) (hX : X ≠ bad) : ∃ pa', k pa' = X ∧ (pa'.as = true → pa.as = true ∧ c = true) := by
  unfold chk at h
  split at h
  · split at h
    · exact ⟨pa, h, fun hp => ⟨hp, rfl⟩⟩
    · exact absurd h.symm hX
  · exact ⟨_, h, fun hp => boolAnd_true.1 hp⟩

theorem frc_eq {β : Type} (md : Bool) (v : LV) (k : LV → β) : frc md v k = k v := by
  cases md with
  | false => rfl
  | true => cases v with
    | int kd n => cases n <;> simp [frc, natK_eq]
    | bool b => cases b <;> rfl
    | ptr a => cases a <;> simp [frc, natK_eq]
    | slice a l c => cases a <;> cases c <;> simp [frc, natK_eq]
    | _ => rfl

theorem hintV_inv {β : Type} {fr : Fr} {dst : Option Tmp} {v : LV} {pa : Path} {k : Bool → LV → Path → β} {X : β} (h : hintV fr dst v pa k = X) : ∃ b v' pa', k b v' pa' = X ∧ (pa'.as = true → pa.as = true ∧ v' = v) := by
  unfold hintV at h
  split at h
  · exact ⟨_, _, _, h, fun hp => ⟨hp, rfl⟩⟩
  · split at h
    · split at h
      · refine ⟨_, _, _, h, fun hp => ?_⟩
        obtain ⟨h1, h2⟩ := boolAnd_true.1 hp
        exact ⟨h1, by rw [eq_of_beq h2]⟩
      · exact ⟨_, _, _, h, fun hp => ⟨hp, rfl⟩⟩
    · exact ⟨_, _, _, h, fun hp => ⟨hp, rfl⟩⟩
  · split at h
    · split at h
      · exact ⟨_, _, _, h, fun hp => ⟨hp, rfl⟩⟩
      · exact ⟨_, _, _, h, fun hp => ⟨hp, rfl⟩⟩
    · exact ⟨_, _, _, h, fun hp => ⟨hp, rfl⟩⟩
  · exact ⟨_, _, _, h, fun hp => ⟨hp, rfl⟩⟩

/-- A value put where it belongs. -/
theorem tput_inv {β : Type} {md fc : Bool} {bad X : β} {fr : Fr} {tm : Tr LV} {dst : Option Tmp} {v : LV} {pa : Path} {k : Tr LV → Path → β} (h : tput md bad fr fc tm dst v pa k = X) (hX : X ≠ bad) :
    ∃ tm' pa', k tm' pa' = X ∧ (pa'.as = true → pa.as = true ∧ (∀ (S : Sc) (ρ : Rn) (a : Act) (V : Value), Tm S ρ (tget tm) fr.n a.tmps → Vl S ρ v V → Tm S ρ (tget tm') fr.n (a.put dst V).tmps) ∧ (∀ d, dst = some d → d < fr.n) ∧ ∀ u, tget tm' u = if dst = some u then v else tget tm u) := by
  unfold tput at h
  split at h
  · exact ⟨_, _, h, fun hp => ⟨hp, fun S ρ a V t _ => t, (by intro d hd; cases hd), fun u => (by simp)⟩⟩
  · rename_i d
    split at h
    · rename_i hd
      have hd : d < fr.n := Nat.le_of_ble_eq_true hd
      obtain ⟨b, v', pa', h1, h2⟩ := hintV_inv h
      have h1 : k (Tr.set v' tm d) pa' = X := by
        split at h1
        · rwa [frc_eq, Tr.setK_eq] at h1
        · rwa [Tr.setK_eq] at h1
      refine ⟨_, _, h1, fun hp => ?_⟩
      obtain ⟨h3, rfl⟩ := h2 hp
      refine ⟨h3, fun S ρ a V t hv => t.set hv hd fun u => tget_set _ _ _ _, (by intro d' hd'; cases hd'; exact hd), fun u => ?_⟩
      rw [tget_set]
      simp [eq_comm]
    · exact absurd h.symm hX

theorem put_defers (a : Act) (dst : Option Tmp) (V : Value) : (a.put dst V).defers = a.defers := by cases dst <;> rfl

theorem yielded_bool {S : Sc} {ρ : Rn} {f : Nat → LV} {n : Nat} {a : Act} {all : Array Oper} {j : Nat} {oj : Oper} {d : Tmp} (t : Tm S ρ f n a.tmps) (hj : all[j]? = some oj) (hd : oj.dst = some d) :
    (∀ b, f d = .bool b → yielded all a.tmps j = some b) ∧ (f d = .tup [] → yielded all a.tmps j = none) := by
  have h1 := (t.2 d).self.symm
  constructor
  · intro b hb
    rw [hb] at h1
    have h2 : a.tmps[d]? = some (.bool b) := by
      rw [Array.getD_eq_getD_getElem?] at h1
      cases h3 : a.tmps[d]? with
      | none => rw [h3] at h1; simp [undef, LV.real] at h1
      | some x => rw [h3] at h1; simp [LV.real] at h1; rw [h1]
    simp [yielded, hj, hd, h2]
  · intro hb
    rw [hb] at h1
    have h2 : a.tmps[d]? = none ∨ a.tmps[d]? = some (.tuple #[]) := by
      rw [Array.getD_eq_getD_getElem?] at h1
      cases h3 : a.tmps[d]? with
      | none => exact .inl rfl
      | some x => rw [h3] at h1; simp [LV.real, LVs.real] at h1; rw [h1]; exact .inr rfl
    rcases h2 with h2 | h2 <;> simp [yielded, hj, hd, h2]

/-- Whether a guarded operation is wanted. -/
theorem wants_inv {β : Type} {bad X : β} {all : Array Oper} {o : Oper} {tm : Tr LV} {pa : Path} {k : Bool → Path → β} (h : wants bad all o tm pa k = X) (hX : X ≠ bad) :
    ∃ d pa', k d pa' = X ∧ (pa'.as = true → pa.as = true ∧ ∀ (S : Sc) (ρ : Rn) (n : Nat) (a : Act) (f : Nat → LV), Tm S ρ f n a.tmps → (∀ u, u ∈ Oper.looksAt all o → f u = tget tm u) → Region.wanted o (yielded all a.tmps) = d) := by
  unfold wants at h
  split at h
  · rename_i hg
    exact ⟨_, _, h, fun hp => ⟨hp, fun _ _ _ _ _ _ _ => by simp [Region.wanted, hg]⟩⟩
  · rename_i j want hg
    split at h
    · rename_i oj hj
      split at h
      · rename_i d hd
        split at h
        · rename_i b hb
          obtain ⟨dd, pa', h1, h2⟩ := brX h
          refine ⟨dd, pa', h1, fun hp => ?_⟩
          obtain ⟨h3, rfl⟩ := h2 hp
          refine ⟨h3, fun S ρ n a f t hf => ?_⟩
          have hfd : f d = tget tm d := hf d (by simp [Oper.looksAt, hg, hj, hd])
          simp only [Region.wanted, hg, (yielded_bool t hj hd).1 b (hfd.trans hb)]
          cases b <;> cases want <;> rfl
        · rename_i hb
          refine ⟨_, _, h, fun hp => ⟨hp, fun S ρ n a f t hf => ?_⟩⟩
          have hfd : f d = tget tm d := hf d (by simp [Oper.looksAt, hg, hj, hd])
          simp only [Region.wanted, hg, (yielded_bool t hj hd).2 (hfd.trans hb)]
          cases want <;> rfl
        · exact absurd h.symm hX
      · exact absurd h.symm hX
    · exact absurd h.symm hX
end
end Go.Ev

/- Operations in their text's order. -/
namespace Go.Ev
open Go

section
variable {E : Env} {md : Bool} {callF : FuncId → List LV → LH → Path → CR} {roundF : Nat → List LV → LH → Path → CR}

/-- An operation looks at its operands alone. -/
theorem evO_congr {r r' : Operand → LV} (o : Oper) (h : LH) (pa : Path) (hr : ∀ x ∈ o.op.operands, r' x = r x) : evO E r' o h pa = evO E r o h pa := by
  obtain ⟨dst, op, type, pos, after, guard⟩ := o
  have pairs : ∀ ps : Array (Nat × Operand), (∀ x ∈ ps.map (·.2), r' x = r x) → (ps.toList.map fun p => (p.1, r' p.2)) = (ps.toList.map fun p => (p.1, r p.2)) := fun ps hp =>
    List.map_congr_left fun p hm => by rw [hp p.2 (Array.mem_map.2 ⟨p, by simpa using hm, rfl⟩)]
  have lists : ∀ ps : Array Operand, (∀ x ∈ ps, r' x = r x) → ps.toList.map r' = ps.toList.map r := fun ps hp => List.map_congr_left fun x hm => hp x (by simpa using hm)
  cases op <;> simp only [Op.operands] at hr <;> simp only [evO]
  case build t ps => rw [pairs ps fun x hx => hr x (by simpa using hx)]
  case buildSlice t n ps => rw [pairs ps fun x hx => hr x (by simpa using hx)]
  case makeFunc fn first captured => rw [lists first fun x hx => hr x (by simp [hx]), lists captured fun x hx => hr x (by simp [hx])]
  case call c =>
    have h1 := lists c.args fun x hx => hr x (by simp [Call.operands, hx])
    unfold oCall
    rw [h1]
    cases hc : c.callee with
    | value f => simp only; rw [hr f (by simp [Call.operands, hc])]
    | invoke x m => rfl
    | builtin b => rfl
  case slice t x lo hi mx => cases lo <;> cases hi <;> cases mx <;> simp_all [optMap]
  all_goals (first | rfl | (simp_all; done))

/-- What is shown of one operation. -/
def Steps1 (E : Env) (o : Oper) (r : Operand → LV) (h : LH) (v : LV) (h' : LH) : Prop :=
  ∀ (r' : Operand → LV), (∀ x ∈ o.op.operands, r' x = r x) → ∀ (S : Sc) (ρ : Rn) (w : World) (a : Act) (ro : Option Nat) (next : Act → World → Prop) (Q : Exit → Act → World → Prop), Fresh S h h' → Mem S ρ h w → (∀ x, Vl S ρ (r' x) (a.eval x)) →
    (∀ ρ1 V w1, Mem (grow S h.nx h'.nx) ρ1 h' w1 → Vl (grow S h.nx h'.nx) ρ1 v V → Ext ρ h w ρ1 h' w1 → next (a.put o.dst V) w1) → o.wpIn (Fw ro) 0 E.P a w next Q

theorem evO_defer {ρ : Operand → LV} {o : Oper} {h : LH} {pa : Path} (hn : evO E ρ o h pa ≠ .bad) : ∀ c, o.op ≠ .defer c := by
  intro c hc
  apply hn
  unfold evO
  rw [hc]

/-- Does an operation come to a value, or to nothing? -/
def OR.plain : OR → Bool
  | .bad => true
  | .val _ _ _ _ => true
  | _ => false

theorem plain_br {c : Bool} {pa : Path} {k : Bool → Path → OR} (hk : ∀ d pa, (k d pa).plain = true) : (br c pa k).plain = true := by
  obtain ⟨d, pa', e, _⟩ := chooseBr c pa k
  rw [e]; exact hk d pa'
theorem plain_findL {x : LV} : ∀ (es : List (LV × LV × Nat)) (i : Nat) (pa : Path) (k : Option (Nat × LV) → Path → OR), (∀ r pa, (k r pa).plain = true) → (findL .bad x es i pa k).plain = true := by
  intro es
  induction es with
  | nil => intro i pa k hk; exact hk none pa
  | cons e es ih =>
    intro i pa k hk
    obtain ⟨y, v, c⟩ := e
    simp only [findL]
    split
    · rfl
    · refine plain_br fun d pa => ?_
      cases d
      · exact ih _ _ _ hk
      · exact hk _ _
theorem plain_storeL {a : LA} {xs : List LV} {h : LH} {k : LH → OR} (hk : ∀ h, (k h).plain = true) : (storeL .bad a xs h k).plain = true := by
  unfold storeL
  repeat' split
  all_goals first | rfl | (rw [LH.put_eq]; exact hk _)
theorem plain_push {h : LH} {o : LO} {k : Nat → LH → OR} (hk : ∀ n h, (k n h).plain = true) : (h.push o k).plain = true := by rw [LH.push_eq]; exact hk _ _
theorem plain_put {h : LH} {o : LO} {n : Nat} {k : LH → OR} (hk : ∀ h, (k h).plain = true) : (h.put n o k).plain = true := by rw [LH.put_eq]; exact hk _

theorem plain_okv {h : LH} {pa : Path} {r : Option LV} : (okv h pa r).plain = true := by
  unfold okv
  repeat' first
    | rfl
    | apply plain_push
    | apply plain_put
    | apply plain_storeL
    | apply plain_findL
    | apply plain_br
    | intro _
    | split
theorem plain_okv2 {h : LH} {pa : Path} {r : Option (LV × Bool)} : (okv2 h pa r).plain = true := by
  unfold okv2
  repeat' first
    | rfl
    | apply plain_push
    | apply plain_put
    | apply plain_storeL
    | apply plain_findL
    | apply plain_br
    | intro _
    | split
theorem plain_growL {old new : List LV} {need sz bytes : Nat} {e : TypeId} {h : LH} {pa : Path} : (growL old new need sz bytes e h pa).plain = true := by
  unfold growL
  repeat' first
    | rfl
    | apply plain_push
    | apply plain_put
    | apply plain_storeL
    | apply plain_findL
    | apply plain_br
    | intro _
    | split
theorem plain_placeL {a : LA} {sz len n : Nat} {c : Cp} {new : List LV} {h : LH} {pa : Path} : (placeL a sz len n c new h pa).plain = true := by
  unfold placeL
  repeat' first
    | rfl
    | apply plain_push
    | apply plain_put
    | apply plain_storeL
    | apply plain_findL
    | apply plain_br
    | intro _
    | split
theorem plain_append {sT : TypeId} {s x : LV} {h : LH} {pa : Path} : (appendL E sT s x h pa).plain = true := by
  unfold appendL appNil appKn appUn
  repeat' first
    | rfl
    | exact plain_growL
    | exact plain_placeL
    | apply plain_put
    | apply plain_br
    | intro _
    | split
theorem plain_builtin {b : Builtin} {ts : Array TypeId} {args : List LV} {h : LH} {pa : Path} : (builtinL E b ts args h pa).plain = true := by
  unfold builtinL
  repeat' first
    | rfl
    | exact plain_append
    | exact plain_okv
    | apply plain_put
    | apply plain_storeL
    | apply plain_findL
    | intro _
    | split

theorem evO_plain {ρ : Operand → LV} {o : Oper} {h : LH} {pa : Path} : (evO E ρ o h pa).plain = true ∨ ∃ cl x, o.op = .call cl ∧ cl.callee = .value x ∧ evO E ρ o h pa = oCallV E (ρ x) (cl.args.toList.map ρ) h pa := by
  unfold evO
  split
  case h_30 cl hc =>
    unfold oCall
    split
    · exact .inl plain_builtin
    · rename_i x hx; exact .inr ⟨cl, x, hc, hx, rfl⟩
    · exact .inl rfl
  all_goals
    left
    try simp only [oPick, oAlloc, oPtr, oBuild, okAgg, oBuildSlice, oSliceOf, oLoad, oStore, oNilCheck, oBin, oEq, oConvert, oText, oBytes, oIface, oFunc, oMakeMap, oMakeSlice, oSlice, oFieldAddr, oField, oIndexAddr, oAt, oIndex, oLookup, lookTell, oMapSet, oRange, oNext, oAssert, assertNo, oExtract]
    repeat' first
      | rfl
      | exact plain_okv
      | exact plain_okv2
      | apply plain_push
      | apply plain_put
      | apply plain_storeL
      | apply plain_findL
      | apply plain_br
      | intro _
      | split

def OR.stp (h : LH) : OR → Prop
  | .val _ h' _ _ => Stp h h'
  | _ => True
theorem stp_br {h : LH} {c : Bool} {pa : Path} {k : Bool → Path → OR} (hk : ∀ d pa, (k d pa).stp h) : (br c pa k).stp h := by
  obtain ⟨d, pa', e, _⟩ := chooseBr c pa k
  rw [e]; exact hk d pa'
theorem stp_findL {h : LH} {x : LV} : ∀ (es : List (LV × LV × Nat)) (i : Nat) (pa : Path) (k : Option (Nat × LV) → Path → OR), (∀ r pa, (k r pa).stp h) → (findL .bad x es i pa k).stp h := by
  intro es
  induction es with
  | nil => intro i pa k hk; exact hk none pa
  | cons e es ih =>
    intro i pa k hk
    obtain ⟨y, v, c⟩ := e
    simp only [findL]
    split
    · trivial
    · refine stp_br fun d pa => ?_
      cases d
      · exact ih _ _ _ hk
      · exact hk _ _
theorem stp_storeL {a : LA} {xs : List LV} {h : LH} {k : LH → OR} (hk : ∀ h2, Stp h h2 → (k h2).stp h) : (storeL .bad a xs h k).stp h := by
  unfold storeL
  repeat' split
  all_goals first | trivial | (rw [LH.put_eq]; exact hk _ (Stp.set ⟨_, by assumption, rfl⟩ _))
theorem stp_push {h : LH} {o : LO} {k : Nat → LH → OR} (hk : ∀ n h2, Stp h h2 → (k n h2).stp h) : (h.push o k).stp h := by rw [LH.push_eq]; exact hk _ _ (Stp.add _ _)
theorem stp_put {h : LH} {o : LO} {n : Nat} {k : LH → OR} (hl : LiveAt h n) (hk : ∀ h2, Stp h h2 → (k h2).stp h) : (h.put n o k).stp h := by rw [LH.put_eq]; exact hk _ (Stp.set hl _)
theorem stp_okv {h : LH} {pa : Path} {r : Option LV} : (okv h pa r).stp h := by unfold okv; split <;> first | trivial | exact Stp.refl _
theorem stp_okv2 {h : LH} {pa : Path} {r : Option (LV × Bool)} : (okv2 h pa r).stp h := by unfold okv2; split <;> first | trivial | exact Stp.refl _
theorem stp_growL {old new : List LV} {need sz bytes : Nat} {e : TypeId} {h h0 : LH} {pa : Path} (hs : Stp h0 h) : (growL old new need sz bytes e h pa).stp h0 := by
  unfold growL
  rw [LH.push_eq]
  exact hs.trans (Stp.add _ _)
theorem stp_placeL {a : LA} {sz len n : Nat} {c : Cp} {new : List LV} {h : LH} {pa : Path} : (placeL a sz len n c new h pa).stp h := stp_storeL fun _ h => h
theorem stp_append {sT : TypeId} {s x : LV} {h : LH} {pa : Path} : (appendL E sT s x h pa).stp h := by
  unfold appendL appNil appKn appUn
  repeat' first
    | trivial
    | exact Stp.refl _
    | exact stp_growL (Stp.refl _)
    | exact stp_growL (by assumption)
    | exact stp_placeL
    | (refine stp_put ⟨_, by assumption, rfl⟩ ?_)
    | apply stp_br
    | intro _
    | split
theorem stp_builtin {b : Builtin} {ts : Array TypeId} {args : List LV} {h : LH} {pa : Path} : (builtinL E b ts args h pa).stp h := by
  unfold builtinL
  repeat' first
    | trivial
    | exact Stp.refl _
    | assumption
    | exact stp_append
    | exact stp_okv
    | (refine stp_put ⟨_, by assumption, rfl⟩ ?_)
    | apply stp_storeL
    | apply stp_findL
    | intro _
    | split

theorem evO_stp {ρ : Operand → LV} {o : Oper} {h : LH} {pa : Path} : (evO E ρ o h pa).stp h := by
  unfold evO
  split
  case h_30 cl hc =>
    unfold oCall
    split
    · exact stp_builtin
    · unfold oCallV
      repeat' first
        | trivial
        | exact stp_okv
        | split
    · trivial
  all_goals
    try simp only [oPick, oAlloc, oPtr, oBuild, okAgg, oBuildSlice, oSliceOf, oLoad, oStore, oNilCheck, oBin, oEq, oConvert, oText, oBytes, oIface, oFunc, oMakeMap, oMakeSlice, oSlice, oFieldAddr, oField, oIndexAddr, oAt, oIndex, oLookup, lookTell, oMapSet, oRange, oNext, oAssert, assertNo, oExtract]
    repeat' first
      | trivial
      | exact Stp.refl _
      | assumption
      | exact stp_okv
      | exact stp_okv2
      | apply stp_push
      | (refine stp_put ⟨_, by assumption, rfl⟩ ?_)
      | apply stp_storeL
      | apply stp_findL
      | apply stp_br
      | intro _
      | split

theorem evO_call {ρ : Operand → LV} {o : Oper} {h : LH} {pa : Path} {f : FuncId} {args : List LV} {c : Bool} (hx : evO E ρ o h pa = .call f args c) :
    c = true ∧ ∃ (cl : Call) (x : Operand) (first caps : List LV), o.op = .call cl ∧ cl.callee = .value x ∧ ρ x = .fn (.func f) first caps ∧ args = (first ++ cl.args.toList.map ρ) ++ caps := by
  rcases evO_plain (E := E) (ρ := ρ) (o := o) (h := h) (pa := pa) with hp | ⟨cl, x, h1, h2, h3⟩
  · rw [hx] at hp; cases hp
  · rw [hx] at h3
    unfold oCallV at h3
    split at h3
    · rename_i g first caps hf
      split at h3
      · cases h3; exact ⟨rfl, cl, x, first, caps, h1, h2, hf, rfl⟩
      · unfold okv at h3
        split at h3 <;> cases h3
    · cases h3
    · cases h3
theorem evO_round {ρ : Operand → LV} {o : Oper} {h : LH} {pa : Path} {l : Nat} {args : List LV} {c : Bool} (hx : evO E ρ o h pa = .round l args c) :
    c = true ∧ ∃ (cl : Call) (x : Operand) (first caps : List LV), o.op = .call cl ∧ cl.callee = .value x ∧ ρ x = .fn (.yield l) first caps ∧ args = first ++ cl.args.toList.map ρ := by
  rcases evO_plain (E := E) (ρ := ρ) (o := o) (h := h) (pa := pa) with hp | ⟨cl, x, h1, h2, h3⟩
  · rw [hx] at hp; cases hp
  · rw [hx] at h3
    unfold oCallV at h3
    split at h3
    · split at h3
      · cases h3
      · unfold okv at h3
        split at h3 <;> cases h3
    · rename_i g first caps hf
      cases h3; exact ⟨rfl, cl, x, first, _, h1, h2, hf, rfl⟩
    · cases h3

theorem fn_stable {S : Sc} {ρ ρ' : Rn} {fn : Fn} {first caps : List LV} {V : Value} (hv : Vl S ρ (.fn fn first caps) V) (ag : AgreeOn S ρ ρ') : first.map (LV.real ρ') = first.map (LV.real ρ) ∧ caps.map (LV.real ρ') = caps.map (LV.real ρ) := by
  have e := (hv ρ' ag).trans (hv ρ (AgreeOn.refl _ _)).symm
  simp only [LV.real, LVs.real_map, Value.func.injEq] at e
  exact ⟨by simpa using e.2.1, by simpa using e.2.2⟩

theorem args_stable {S : Sc} {ρ ρ' : Rn} {r : Operand → LV} {a : Act} (t : ∀ x, Vl S ρ (r x) (a.eval x)) (ag : AgreeOn S ρ ρ') (l : List Operand) : (l.map r).map (LV.real ρ') = (l.map r).map (LV.real ρ) := by
  simp only [List.map_map]
  apply List.map_congr_left
  intro x _
  exact (t x ρ' ag).trans (t x ρ (AgreeOn.refl _ _)).symm

theorem opStep_inv (hE : EnvBase E) (hX : ExtOk E) (hC : CallOk E callF) (hR : RoundOk E roundF) {β : Type} {bad X : β} {tm : Tr LV} {o : Oper} {h : LH} {pa : Path} {k : LV → LH → Path → β}
    (hx : opStep E md callF roundF bad tm o h pa k = X) (hXb : X ≠ bad) :
    ∃ v h' pa', k v h' pa' = X ∧ (pa'.as = true → pa.as = true ∧ Stp h h' ∧ Steps1 E o (rho tm) h v h') := by
  unfold opStep at hx
  rw [evQ_eq] at hx
  have hdef : ∀ {r : OR}, evO E (rho tm) o h pa = r → r ≠ .bad → ∀ c, o.op ≠ .defer c := fun e hr => evO_defer (by rw [e]; exact hr)
  split at hx <;> rename_i hev
  · exact absurd hx.symm hXb
  · rename_i v h' pa1 c
    obtain ⟨pa2, h1, h2⟩ := chk_inv hx hXb
    refine ⟨v, h', pa2, h1, fun hp => ?_⟩
    obtain ⟨h3, hc⟩ := h2 hp
    have hstp : Stp h h' := by
      have := evO_stp (E := E) (ρ := rho tm) (o := o) (h := h) (pa := pa)
      rw [hev] at this; exact this
    refine ⟨(evO_sound hE hX hev hc h3).1, hstp, fun r' hr' S ρ w a ro next Q lo m t hk => ?_⟩
    have hos := evO_sound hE hX ((evO_congr o h pa hr').trans hev) hc h3
    obtain ⟨ρ1, V, w1, hr, m1, v1, e1⟩ := op_step hos m t fun hn => lo.not (by omega)
    refine ⟨fun f _ => trivial, ?_⟩
    rw [Oper.semAt_eq _ _ _ (hdef hev (by intro e; cases e))]
    rcases hr with hr | ⟨hr, rfl⟩
    · rw [hr]; exact hk ρ1 V w1 m1 v1 e1
    · rw [hr]; exact hk ρ1 undef w1 m1 v1 e1
  · rename_i f args c
    obtain ⟨pa2, h1, h2⟩ := chk_inv hx hXb
    split at h1
    · exact absurd h1.symm hXb
    · rename_i v h' pa3 hcall
      refine ⟨v, h', pa3, h1, fun hp => ?_⟩
      obtain ⟨h3, hstp, h4⟩ := hC _ _ _ _ _ _ _ hcall hp
      obtain ⟨h5, _⟩ := h2 h3
      refine ⟨h5, hstp, fun r' hr' S ρ w a ro next Q lo m t hk => ?_⟩
      obtain ⟨_, cl, x, first, caps, ho, hcal, hf, rfl⟩ := evO_call ((evO_congr o h pa hr').trans hev)
      have hA : Args S ρ ((first ++ cl.args.toList.map r') ++ caps) ((((first ++ cl.args.toList.map r') ++ caps).map (LV.real ρ)).toArray) := by
        intro ρ' ag
        have hv := t x
        rw [hf] at hv
        obtain ⟨e1, e2⟩ := fn_stable hv ag
        rw [List.map_append, List.map_append, List.map_append, List.map_append, e1, e2, args_stable t ag]
      obtain ⟨h6, h7⟩ := h4 S ρ w _ lo m hA
      refine ⟨fun f _ => trivial, ?_⟩
      rw [Oper.semAt_eq _ _ _ (hdef hev (by intro e; cases e))]
      have hrun : (execOp a.eval o).run E.P w = .ok (.enter f ((((first ++ cl.args.toList.map r') ++ caps).map (LV.real ρ)).toArray)) w := by
        simp only [execOp, ho, Sem.run_bind, resolve_fn (E := E) (w := w) (ty := o.type) (fun x => (t x ρ (AgreeOn.refl _ _)).symm) hcal hf, Result.andThen_ok, fnR, invoke]
        rw [← h6]
        simp
      rw [hrun, Oper.uponIn_enter]
      refine ⟨fun hd => (by cases hd), callsIn_Fw (h7.mono ?_)⟩
      rintro e w1 ⟨ρ1, V, rfl, m1, v1, e1⟩
      exact hk ρ1 V w1 m1 v1 e1
  · rename_i l args c
    obtain ⟨pa2, h1, h2⟩ := chk_inv hx hXb
    split at h1
    · exact absurd h1.symm hXb
    · rename_i v h' pa3 hcall
      refine ⟨v, h', pa3, h1, fun hp => ?_⟩
      obtain ⟨h3, hstp, h4⟩ := hR _ _ _ _ _ _ _ hcall hp
      obtain ⟨h5, _⟩ := h2 h3
      refine ⟨h5, hstp, fun r' hr' S ρ w a ro next Q lo m t hk => ?_⟩
      obtain ⟨_, cl, x, first, caps, ho, hcal, hf, rfl⟩ := evO_round ((evO_congr o h pa hr').trans hev)
      have hA : Args S ρ (first ++ cl.args.toList.map r') ((first ++ cl.args.toList.map r').map (LV.real ρ)).toArray := by
        intro ρ' ag
        have hv := t x
        rw [hf] at hv
        obtain ⟨e1, _⟩ := fn_stable hv ag
        rw [List.map_append, List.map_append, e1, args_stable t ag]
      obtain ⟨ff, T, as, bo, h6, h7⟩ := h4 S ρ w _ lo m hA
      refine ⟨fun f _ => trivial, ?_⟩
      rw [Oper.semAt_eq _ _ _ (hdef hev (by intro e; cases e))]
      have hrun : (execOp a.eval o).run E.P w = .ok (.round (ρ.s l) ff T as bo) w := by
        simp only [execOp, ho, Sem.run_bind, resolve_fn (E := E) (w := w) (ty := o.type) (fun x => (t x ρ (AgreeOn.refl _ _)).symm) hcal hf, Result.andThen_ok, fnR, invoke]
        exact h6
      rw [hrun, Oper.uponIn_round]
      refine ⟨fun hd => (by cases hd), roundIn_Fw (h7.mono ?_)⟩
      rintro e w1 ⟨ρ1, V, rfl, m1, v1, e1⟩
      exact hk ρ1 V w1 m1 v1 e1

theorem evOps_nil {β : Type} (bad : β) (fr : Fr) (all : Array Oper) (tm : Tr LV) (h : LH) (pa : Path) (k : Tr LV → LH → Path → β) : evOps E md callF roundF bad fr all [] tm h pa k = k tm h pa := rfl
theorem evOps_cons {β : Type} (bad : β) (fr : Fr) (all : Array Oper) (o : Oper) (rest : List Oper) (tm : Tr LV) (h : LH) (pa : Path) (k : Tr LV → LH → Path → β) :
    evOps E md callF roundF bad fr all (o :: rest) tm h pa k = wants bad all o tm pa fun d pa => match d with
      | false => tput md bad fr false tm o.dst undefL pa fun tm pa => evOps E md callF roundF bad fr all rest tm h pa k
      | true => opStep E md callF roundF bad tm o h pa fun v h pa => tput md bad fr (fcQ E o) tm o.dst v pa fun tm pa => evOps E md callF roundF bad fr all rest tm h pa k := by
  have e : evOps E md callF roundF bad fr all (o :: rest) tm h pa k = wants bad all o tm pa fun d pa => Bool.rec
      (tput md bad fr false tm o.dst undefL pa fun tm pa => evOps E md callF roundF bad fr all rest tm h pa k)
      (opStep E md callF roundF bad tm o h pa fun v h pa => tput md bad fr (fcQ E o) tm o.dst v pa fun tm pa => evOps E md callF roundF bad fr all rest tm h pa k) d := rfl
  rw [e]
  congr 1
  funext d pa
  cases d <;> rfl

/-- What is shown of a stretch of code's operations. -/
def Goes (S : Sc) (ρ : Rn) (h : LH) (w : World) (tm' : Tr LV) (n : Nat) (h' : LH) (a : Act) (K : Act → World → Prop) : Prop :=
  ∀ ρ1 a1 w1, Mem (grow S h.nx h'.nx) ρ1 h' w1 → Tm (grow S h.nx h'.nx) ρ1 (tget tm') n a1.tmps → Ext ρ h w ρ1 h' w1 → a1.defers = a.defers → K a1 w1

theorem evOps_inv (hE : EnvBase E) (hX : ExtOk E) (hC : CallOk E callF) (hR : RoundOk E roundF) {β : Type} {bad X : β} {fr : Fr} {all : Array Oper} {k : Tr LV → LH → Path → β} (hXb : X ≠ bad) :
    ∀ (l : List Oper) (i : Nat) (tm : Tr LV) (h : LH) (pa : Path), all.toList.drop i = l → evOps E md callF roundF bad fr all l tm h pa k = X →
      ∃ tm' h' pa', k tm' h' pa' = X ∧ (pa'.as = true → pa.as = true ∧ Stp h h' ∧ ∀ (S : Sc) (ρ : Rn) (w : World) (a : Act) (ro : Option Nat) (Q : Exit → Act → World → Prop), Fresh S h h' → Mem S ρ h w → Tm S ρ (tget tm) fr.n a.tmps →
        Goes S ρ h w tm' fr.n h' a (Q .normal) → wpOpsIn (Fw ro) 0 E.P all Q (List.range' i l.length) a w) := by
  intro l
  induction l with
  | nil =>
    intro i tm h pa _ hx
    rw [evOps_nil] at hx
    exact ⟨tm, h, pa, hx, fun hp => ⟨hp, Stp.refl h, fun S ρ w a ro Q lo m t hg => hg ρ a w (by rw [grow_self]; exact m) (by rw [grow_self]; exact t) (Ext.refl _ _ _) rfl⟩⟩
  | cons o rest ih =>
    intro i tm h pa hl hx
    have hi : all[i]? = some o := by
      have := congrArg (·[0]?) hl
      simpa using this
    have hl' : all.toList.drop (i + 1) = rest := by
      rw [← List.drop_drop, hl]; rfl
    rw [evOps_cons] at hx
    obtain ⟨d, pa1, hx, hd⟩ := wants_inv hx hXb
    cases d
    · simp only at hx
      obtain ⟨tm1, pa2, hx, ht⟩ := tput_inv hx hXb
      obtain ⟨tm', h', pa', hk, hg⟩ := ih (i + 1) tm1 h pa2 hl' hx
      refine ⟨tm', h', pa', hk, fun hp => ?_⟩
      obtain ⟨p2, s2, hg⟩ := hg hp
      obtain ⟨p1, ht, _⟩ := ht p2
      obtain ⟨p0, hd⟩ := hd p1
      refine ⟨p0, s2, fun S ρ w a ro Q lo m t hgo => ?_⟩
      simp only [List.length_cons, List.range'_succ, wpOpsIn, hi, hd S ρ fr.n a _ t (fun _ _ => rfl), Bool.false_eq_true, if_false]
      refine ⟨fun f _ => trivial, hg S ρ w _ ro Q lo m (ht S ρ a undef t (fun ρ' _ => undefL_real ρ')) ?_⟩
      intro ρ1 a1 w1 m1 t1 e1 hdf
      exact hgo ρ1 a1 w1 m1 t1 e1 (hdf.trans (put_defers _ _ _))
    · simp only at hx
      obtain ⟨v, h1, pa2, hx, hst⟩ := opStep_inv hE hX hC hR hx hXb
      obtain ⟨tm1, pa3, hx, ht⟩ := tput_inv hx hXb
      obtain ⟨tm', h', pa', hk, hg⟩ := ih (i + 1) tm1 h1 pa3 hl' hx
      refine ⟨tm', h', pa', hk, fun hp => ?_⟩
      obtain ⟨p3, s3, hg⟩ := hg hp
      obtain ⟨p2, ht, _⟩ := ht p3
      obtain ⟨p1, s1, hst⟩ := hst p2
      obtain ⟨p0, hd⟩ := hd p1
      refine ⟨p0, s1.trans s3, fun S ρ w a ro Q lo m t hgo => ?_⟩
      simp only [List.length_cons, List.range'_succ, wpOpsIn, hi, hd S ρ fr.n a _ t (fun _ _ => rfl), if_true]
      refine hst (rho tm) (fun _ _ => rfl) S ρ w a ro _ Q (lo.fst s3) m (fun x => by rw [rho_F]; exact Vl.of m t x) fun ρ1 V w1 m1 v1 e1 => ?_
      refine hg _ ρ1 w1 _ ro Q (lo.snd s1) m1 (ht _ ρ1 a V (t.to ((lo.fst s3).on e1) in_grow) v1) ?_
      intro ρ2 a2 w2 m2 t2 e2 hdf
      rw [grow_grow S e1.nx e2.nx] at m2 t2
      exact hgo ρ2 a2 w2 m2 t2 (e1.trans e2) (hdf.trans (put_defers _ _ _))
end
end Go.Ev

/- Code, calls, rounds. -/
namespace Go.Ev
open Go

section
variable {E : Env}

/-- Regions that draw their order: shown elsewhere. -/
def DrawsOk (E : Env) : Prop :=
  ∀ (md : Bool) (callF : FuncId → List LV → LH → Path → CR) (roundF : Nat → List LV → LH → Path → CR), CallOk E callF → RoundOk E roundF →
    ∀ {β : Type} {bad X : β} {fr : Fr} {all : Array Oper} {k : Tr LV → LH → Path → β} {tm : Tr LV} {h : LH} {pa : Path}, X ≠ bad → drawOk E all = true → evDraw E md callF roundF bad fr all (drawInfo E all) 0 tm h [] [h] [] pa k = X →
      ∃ tm' h' pa', k tm' h' pa' = X ∧ (pa'.as = true → pa.as = true ∧ Stp h h' ∧ ∀ (S : Sc) (ρ : Rn) (w : World) (a : Act) (ro : Option Nat) (Q : Exit → Act → World → Prop) (id : Nat), Fresh S h h' → Mem S ρ h w → Tm S ρ (tget tm) fr.n a.tmps →
        Goes S ρ h w tm' fr.n h' a (Q .normal) → (Code.region id all true).wpIn (Fw ro) 0 E.P Q a w)

def exOf : Ex → Exit
  | .normal => .normal
  | .exit id => .exit id
  | .ret => .ret

/-- The rest of a loop: one round more. -/
def WpL (F : Fence) (P : Program) (c : Code) (Q : Exit → Act → World → Prop) (a : Act) (w : World) : Prop :=
  ∀ (b : Frame) (k : List Item) (cs : List Frame), b.roundOf = F.round → F.fn b.fn → F.room (cs.length + 1 + 0) →
    ∃ e a' w', Q e a' w' ∧ ArrivesIn (Machine.fenced P F) P (lone (b.atR a (.code c :: .inLoop c :: k)) cs w) b k cs e a' w'

theorem WpL.intro {F : Fence} {P : Program} {c : Code} {Q : Exit → Act → World → Prop} {a : Act} {w : World} (h : c.wpIn F 0 P (Exit.then (WpL F P c Q) Q) a w) : WpL F P c Q a w := by
  intro b k cs hro hb hr
  obtain ⟨e, a₁, w₁, hq, harr⟩ := h b (.inLoop c :: k) cs hro hb hr
  cases e with
  | normal =>
    obtain ⟨e₂, a₂, w₂, hq₂, harr₂⟩ := hq b k cs hro hb hr
    exact ⟨e₂, a₂, w₂, hq₂, .of_steps (StepsIn.trans harr (.one (fenced_calm hb hr rfl) stepR_inLoop)) harr₂⟩
  | exit id => exact ⟨_, a₁, w₁, hq, .pass (x := .inLoop c) rfl (fun _ _ => .inl (by simp)) harr⟩
  | goto l => exact ⟨_, a₁, w₁, hq, .pass (x := .inLoop c) rfl (fun _ _ => .inl (by simp)) harr⟩
  | ret => exact ⟨_, a₁, w₁, hq, .pass (x := .inLoop c) rfl (fun _ _ => .inl (by simp)) harr⟩
  | panic ch => exact ⟨_, a₁, w₁, hq, .pass (x := .inLoop c) rfl (fun _ _ => .inl (by simp)) harr⟩
  | outgrown => exact ⟨_, a₁, w₁, hq, .pass (x := .inLoop c) rfl (fun _ _ => .inl (by simp)) harr⟩
theorem WpL.wp {F : Fence} {P : Program} {c : Code} {Q : Exit → Act → World → Prop} {a : Act} {w : World} (h : WpL F P c Q a w) : (Code.loop c).wpIn F 0 P Q a w := fun b k cs hro hb hr =>
  let ⟨e, a', w', hq, harr⟩ := h b k cs hro hb hr
  ⟨e, a', w', hq, .of_steps (.one (fenced_calm hb hr rfl) stepR_loop) harr⟩

def WpX (F : Fence) (P : Program) (c : Code) (Q : Exit → Act → World → Prop) (a : Act) (w : World) : Prop :=
  match c with
  | .loop c => WpL F P c Q a w
  | c => c.wpIn F 0 P Q a w
theorem WpX.wp {F : Fence} {P : Program} {c : Code} {Q : Exit → Act → World → Prop} {a : Act} {w : World} (h : WpX F P c Q a w) : c.wpIn F 0 P Q a w := by
  cases c with
  | loop c => exact WpL.wp h
  | _ => exact h

/-- What stands when code is left. -/
def Left (S : Sc) (ρ : Rn) (h : LH) (w : World) (n : Nat) (tm' : Tr LV) (h' : LH) (mks' : List Nat) (K : Act → World → Prop) : Prop :=
  ∀ ρ1 a1 w1, Mem (grow S h.nx h'.nx) ρ1 h' w1 → Tm (grow S h.nx h'.nx) ρ1 (tget tm') n a1.tmps → Mks (grow S h.nx h'.nx) ρ1 mks' a1.defers → Ext ρ h w ρ1 h' w1 → K a1 w1

/-- What is shown of code. -/
def CodeOk (E : Env) (ih : Rec) : Prop :=
  ∀ fr c tm h mks pa ex tm' h' mks' pa', ih fr c tm h mks pa = .mk ex tm' h' mks' pa' → pa'.as = true → pa.as = true ∧ Stp h h' ∧
    ∀ (S : Sc) (ρ : Rn) (w : World) (a : Act) (ro : Option Nat) (Q : Exit → Act → World → Prop), (fr.ro = none → ro = none) → Fresh S h h' → Mem S ρ h w → Tm S ρ (tget tm) fr.n a.tmps → Mks S ρ mks a.defers →
      Left S ρ h w fr.n tm' h' mks' (Q (exOf ex)) → WpX (Fw ro) E.P c Q a w

structure EnvOk (E : Env) : Prop where
  base : EnvBase E
  ext : ExtOk E
  mixed : E.P.follows .mixedOrders = true
  names : ∀ (f : FuncId) (fn : Func) (c : Code), E.P.funcs[f]? = some fn → fn.body = some c → (fn.name == "runtime.NumGoroutine") = false
  sum : ∀ (f : FuncId) (s : List LV → LH → Path → OR), E.sum f = some s → ∀ args h pa v h' pa', s args h pa = .val v h' pa' true → pa'.as = true → pa.as = true ∧ Stp h h' ∧ ∀ S ρ w A, Fresh S h h' → Mem S ρ h w → Args S ρ args A →
    (callFunc f A).run E.P w = .ok (.enter f A) w ∧ CallsIn Fence.wide 0 E.P f A w (Post S ρ h w v h')

variable {md : Bool} {ih : Rec}

theorem mks_put {S : Sc} {ρ : Rn} {m : List Nat} {a a1 : Act} (h : Mks S ρ m a.defers) (e : a1.defers = a.defers) : Mks S ρ m a1.defers := by rw [e]; exact h

theorem cSeq_ok (hI : CodeOk E ih) {fr : Fr} {x y : Code} {tm : Tr LV} {h : LH} {mks : List Nat} {pa : Path} {ex : Ex} {tm' : Tr LV} {h' : LH} {mks' : List Nat} {pa' : Path}
    (hx : cSeq ih fr y (ih fr x tm h mks pa) = .mk ex tm' h' mks' pa') (hp : pa'.as = true) : pa.as = true ∧ Stp h h' ∧
    ∀ (S : Sc) (ρ : Rn) (w : World) (a : Act) (ro : Option Nat) (Q : Exit → Act → World → Prop) (K : Act → World → Prop), (fr.ro = none → ro = none) → Fresh S h h' → Mem S ρ h w → Tm S ρ (tget tm) fr.n a.tmps → Mks S ρ mks a.defers →
      (∀ a w, WpX (Fw ro) E.P y Q a w → K a w) →
      Left S ρ h w fr.n tm' h' mks' (Q (exOf ex)) → x.wpIn (Fw ro) 0 E.P (Exit.then K Q) a w := by
  unfold cSeq at hx
  split at hx
  · cases hx
  · rename_i ex1 tm1 h1 mks1 pa1 hx1
    split at hx
    · obtain ⟨p1, s1, h2⟩ := hI _ _ _ _ _ _ _ _ _ _ _ hx hp
      obtain ⟨p0, s0, h3⟩ := hI _ _ _ _ _ _ _ _ _ _ _ hx1 p1
      refine ⟨p0, s0.trans s1, fun S ρ w a ro Q K hro lo m t mk hK hl => (h3 S ρ w a ro _ hro (lo.fst s1) m t mk ?_).wp⟩
      intro ρ1 a1 w1 m1 t1 mk1 e1
      refine hK a1 w1 (h2 _ ρ1 w1 a1 ro Q hro (lo.snd s0) m1 t1 mk1 ?_)
      intro ρ2 a2 w2 m2 t2 mk2 e2
      rw [grow_grow S e1.nx e2.nx] at m2 t2 mk2
      exact hl ρ2 a2 w2 m2 t2 mk2 (e1.trans e2)
    · rename_i hne
      cases hx
      obtain ⟨p0, s0, h3⟩ := hI _ _ _ _ _ _ _ _ _ _ _ hx1 hp
      refine ⟨p0, s0, fun S ρ w a ro Q K hro lo m t mk hK hl => (h3 S ρ w a ro _ hro lo m t mk ?_).wp⟩
      intro ρ1 a1 w1 m1 t1 mk1 e1
      have := hl ρ1 a1 w1 m1 t1 mk1 e1
      cases ex with
      | normal => exact absurd rfl hne
      | exit id => exact this
      | ret => exact this

theorem cCond_ok (hI : CodeOk E ih) {fr : Fr} {c : Operand} {x y : Code} {tm : Tr LV} {h : LH} {mks : List Nat} {pa : Path} {ex : Ex} {tm' : Tr LV} {h' : LH} {mks' : List Nat} {pa' : Path}
    (hx : cCond ih fr x y (rho tm c) tm h mks pa = .mk ex tm' h' mks' pa') (hp : pa'.as = true) : pa.as = true ∧ Stp h h' ∧
    ∀ (S : Sc) (ρ : Rn) (w : World) (a : Act) (ro : Option Nat) (Q : Exit → Act → World → Prop), (fr.ro = none → ro = none) → Fresh S h h' → Mem S ρ h w → Tm S ρ (tget tm) fr.n a.tmps → Mks S ρ mks a.defers →
      Left S ρ h w fr.n tm' h' mks' (Q (exOf ex)) → (Code.cond c x y).wpIn (Fw ro) 0 E.P Q a w := by
  unfold cCond at hx
  split at hx
  · rename_i t hc
    obtain ⟨d, pa1, hx, hd⟩ := brX hx
    have key : ∀ {z : Code}, ih fr z tm h mks pa1 = .mk ex tm' h' mks' pa' → (if t then x else y) = z ∨ ¬ (pa1.as = true ∧ d = t) → pa.as = true ∧ Stp h h' ∧
        ∀ (S : Sc) (ρ : Rn) (w : World) (a : Act) (ro : Option Nat) (Q : Exit → Act → World → Prop), (fr.ro = none → ro = none) → Fresh S h h' → Mem S ρ h w → Tm S ρ (tget tm) fr.n a.tmps → Mks S ρ mks a.defers →
          Left S ρ h w fr.n tm' h' mks' (Q (exOf ex)) → (Code.cond c x y).wpIn (Fw ro) 0 E.P Q a w := by
      intro z hz hor
      obtain ⟨p1, s1, h2⟩ := hI _ _ _ _ _ _ _ _ _ _ _ hz hp
      obtain ⟨p0, hdt⟩ := hd p1
      refine ⟨p0, s1, fun S ρ w a ro Q hro lo m t' mk hl => ?_⟩
      have hca : a.eval c = .bool t := by
        have := (Vl.of m t' c).self
        rw [← rho_F, hc] at this
        simpa [LV.real] using this.symm
      rcases hor with hor | hor
      · refine wpIn_cond hca ?_
        rw [hor]
        exact (h2 S ρ w a ro Q hro lo m t' mk hl).wp
      · exact absurd ⟨p1, hdt⟩ hor
    cases d
    · refine key hx ?_
      cases t
      · exact .inl rfl
      · exact .inr fun h => by cases h.2
    · refine key hx ?_
      cases t
      · exact .inr fun h => by cases h.2
      · exact .inl rfl
  · cases hx

theorem cBlock_ok (hI : CodeOk E ih) {fr : Fr} {id : Nat} {x : Code} {tm : Tr LV} {h : LH} {mks : List Nat} {pa : Path} {ex : Ex} {tm' : Tr LV} {h' : LH} {mks' : List Nat} {pa' : Path}
    (hx : cBlock id (ih fr x tm h mks pa) = .mk ex tm' h' mks' pa') (hp : pa'.as = true) : pa.as = true ∧ Stp h h' ∧
    ∀ (S : Sc) (ρ : Rn) (w : World) (a : Act) (ro : Option Nat) (Q : Exit → Act → World → Prop), (fr.ro = none → ro = none) → Fresh S h h' → Mem S ρ h w → Tm S ρ (tget tm) fr.n a.tmps → Mks S ρ mks a.defers →
      Left S ρ h w fr.n tm' h' mks' (Q (exOf ex)) → (Code.block id x).wpIn (Fw ro) 0 E.P Q a w := by
  unfold cBlock at hx
  split at hx
  · cases hx
  · rename_i ex1 tm1 h1 mks1 pa1 hx1
    split at hx
    · rename_i j
      split at hx
      · rename_i hj
        cases hx
        obtain rfl := Nat.eq_of_beq_eq_true hj
        obtain ⟨p0, s0, h2⟩ := hI _ _ _ _ _ _ _ _ _ _ _ hx1 hp
        refine ⟨p0, s0, fun S ρ w a ro Q hro lo m t mk hl => wpIn_block (h2 S ρ w a ro _ hro lo m t mk ?_).wp⟩
        intro ρ1 a1 w1 m1 t1 mk1 e1
        simp only [exOf, Exit.inBlock, if_true]
        exact hl ρ1 a1 w1 m1 t1 mk1 e1
      · rename_i hj
        cases hx
        obtain ⟨p0, s0, h2⟩ := hI _ _ _ _ _ _ _ _ _ _ _ hx1 hp
        refine ⟨p0, s0, fun S ρ w a ro Q hro lo m t mk hl => wpIn_block (h2 S ρ w a ro _ hro lo m t mk ?_).wp⟩
        intro ρ1 a1 w1 m1 t1 mk1 e1
        simp only [exOf, Exit.inBlock, if_neg (Nat.ne_of_beq_eq_false hj)]
        exact hl ρ1 a1 w1 m1 t1 mk1 e1
    · rename_i hne
      cases hx
      obtain ⟨p0, s0, h2⟩ := hI _ _ _ _ _ _ _ _ _ _ _ hx1 hp
      refine ⟨p0, s0, fun S ρ w a ro Q hro lo m t mk hl => wpIn_block (h2 S ρ w a ro _ hro lo m t mk ?_).wp⟩
      intro ρ1 a1 w1 m1 t1 mk1 e1
      have := hl ρ1 a1 w1 m1 t1 mk1 e1
      cases ex with
      | normal => exact this
      | exit j => exact absurd rfl (hne j)
      | ret => exact this

theorem cRegion_ok (hE : EnvOk E) (hD : DrawsOk E) (hC : CallOk E (callB E md ih)) (hR : RoundOk E (roundB ih)) {fr : Fr} {id : Nat} {ops : Array Oper} {draw : Bool} {tm : Tr LV} {h : LH} {mks : List Nat} {pa : Path} {ex : Ex} {tm' : Tr LV} {h' : LH} {mks' : List Nat} {pa' : Path}
    (hx : cRegion E md ih fr ops draw tm h mks pa = .mk ex tm' h' mks' pa') (hp : pa'.as = true) : pa.as = true ∧ Stp h h' ∧
    ∀ (S : Sc) (ρ : Rn) (w : World) (a : Act) (ro : Option Nat) (Q : Exit → Act → World → Prop), (fr.ro = none → ro = none) → Fresh S h h' → Mem S ρ h w → Tm S ρ (tget tm) fr.n a.tmps → Mks S ρ mks a.defers →
      Left S ρ h w fr.n tm' h' mks' (Q (exOf ex)) → (Code.region id ops draw).wpIn (Fw ro) 0 E.P Q a w := by
  unfold cRegion at hx
  split at hx
  · obtain ⟨tm1, h1, pa1, hk, hg⟩ := evOps_inv hE.base hE.ext hC hR (by intro e; cases e) ops.toList 0 tm h pa rfl hx
    cases hk
    obtain ⟨p0, s0, hg⟩ := hg hp
    refine ⟨p0, s0, fun S ρ w a ro Q hro lo m t mk hl => wpIn_region ?_⟩
    have := hg S ρ w a ro Q lo m t fun ρ1 a1 w1 m1 t1 e1 hd => hl ρ1 a1 w1 m1 t1 (mks_put (mk.to (lo.on e1) in_grow) hd) e1
    rw [List.range_eq_range']
    simpa using this
  · split at hx
    · rename_i hdr
      obtain ⟨tm1, h1, pa1, hk, hg⟩ := hD _ _ _ hC hR (by intro e; cases e) hdr hx
      cases hk
      obtain ⟨p0, s0, hg⟩ := hg hp
      exact ⟨p0, s0, fun S ρ w a ro Q hro lo m t mk hl => hg S ρ w a ro Q id lo m t fun ρ1 a1 w1 m1 t1 e1 hd => hl ρ1 a1 w1 m1 t1 (mks_put (mk.to (lo.on e1) in_grow) hd) e1⟩
    · cases hx
end
end Go.Ev

/- Calls, rounds, ranges over functions. -/
namespace Go.Ev
open Go

section
variable {E : Env}

theorem Mem.set {S : Sc} {ρ : Rn} {h : LH} {w : World} {id : Nat} {o o' : LO} {O' : Obj} (m : Mem S ρ h w) (hid : h.bs.get id = some o) (hl : o.live = true) (hr : h.ro ≤ id) (hO : ∀ ρ', AgreeOn S ρ ρ' → OEq ρ' id o' (some O')) :
    Mem S ρ (h.set id o') (w.putObj (ρ.s id) O') ∧ Ext ρ h w ρ (h.set id o') (w.putObj (ρ.s id) O') := by
  refine ⟨fun ρ' ag => (m ρ' ag).set hid hl ?_ (hO ρ' ag), ⟨Nat.le_refl _, rfl, fun _ _ => ⟨rfl, rfl⟩, Kept.set hid hl hr rfl rfl rfl rfl, FootIn.set hid hl⟩⟩
  show w.heap.setIfInBounds (ρ.s id) O' = _
  rw [(ag id (m.lt hid hl)).1]

theorem Mem.add {S : Sc} {ρ : Rn} {h : LH} {w : World} {o : LO} {O : Obj} (m : Mem S ρ h w) (lo : ¬ S h.nx) (hO : ∀ ρ', AgreeOn (grow S h.nx (h.nx + 1)) (ρ.next h.nx w.heap.size 0) ρ' → OEq ρ' h.nx o (some O)) :
    Mem (grow S h.nx (h.nx + 1)) (ρ.next h.nx w.heap.size 0) (h.add o) (w.alloc O) ∧ Ext ρ h w (ρ.next h.nx w.heap.size 0) (h.add o) (w.alloc O) := by
  have hag : AgreeOn S ρ (ρ.next h.nx w.heap.size 0) := fun id hi => ρ.next_ne _ _ fun e => lo (e ▸ hi)
  refine ⟨fun ρ' ag => (m ρ' (hag.trans in_grow ag)).add rfl ?_ (hO ρ' ag), ⟨Nat.le_succ _, rfl, fun id hi => ρ.next_ne _ _ ?_, Kept.add rfl rfl rfl rfl, ?_⟩⟩
  · rw [(ag h.nx (.inr ⟨Nat.le_refl _, Nat.lt_succ_self _⟩)).1]; simp [Rn.next]
  · show id ≠ h.nx
    have : (h.add o).nx = h.nx + 1 := rfl
    omega
  · rintro b ⟨k, x, hx, lx, hro, rfl⟩
    by_cases hk : k = h.nx
    · subst hk; exact .inr (by simp [Rn.next])
    · simp only [LH.add, Tr.get_set, if_neg hk] at hx
      rw [(ρ.next_ne _ _ hk).1]
      exact .inl ⟨k, x, hx, lx, hro, rfl⟩

theorem Args.size {S : Sc} {ρ : Rn} {args : List LV} {A : Array Value} (h : Args S ρ args A) : A.size = args.length := by rw [h ρ (AgreeOn.refl _ _)]; simp
theorem Args.get {S : Sc} {ρ : Rn} {args : List LV} {A : Array Value} (h : Args S ρ args A) {i : Nat} {v : LV} (hv : args[i]? = some v) : Vl S ρ v (A.getD i undef) := fun ρ' ag => by
  rw [h ρ' ag]; simp [hv, Array.getD_eq_getD_getElem?]

theorem initTm_get : ∀ (args : List LV) (i : Nat) (tm : Tr LV) (t : Nat), tget (initTm i args tm) t = if i ≤ t ∧ t < i + args.length then args.getD (t - i) undefL else tget tm t := by
  intro args
  induction args with
  | nil => intro i tm t; simp [initTm]; omega
  | cons v vs ih =>
    intro i tm t
    simp only [initTm, Tr.setK_eq]
    rw [ih, tget_set]
    simp only [List.length_cons, Nat.succ_eq_add_one]
    by_cases h1 : t = i
    · subst h1
      rw [if_neg (by omega), if_pos rfl, if_pos (by omega)]; simp
    · by_cases h2 : i + 1 ≤ t ∧ t < i + 1 + vs.length
      · rw [if_pos h2, if_pos (by omega)]
        have : t - i = (t - (i + 1)) + 1 := by omega
        rw [this]; simp
      · rw [if_neg h2, if_neg h1, if_neg (by omega)]

theorem tget_leaf (t : Nat) : tget (.leaf : Tr LV) t = undefL := by simp [tget, Tr.get_leaf]

theorem enter_Tm {S : Sc} {ρ : Rn} {args : List LV} {A : Array Value} (hA : Args S ρ args A) (nt : Nat) : Tm S ρ (tget (initTm 0 args .leaf)) (args.length + (nt - args.length)) (A ++ Array.replicate (nt - A.size) undef) := by
  have hs := hA.size
  refine ⟨by simp [hs], fun t => ?_⟩
  rw [initTm_get, tget_leaf]
  by_cases h : t < args.length
  · rw [if_pos (by omega)]
    obtain ⟨v, hv⟩ : ∃ v, args[t]? = some v := ⟨args[t], by simp [h]⟩
    have : (A ++ Array.replicate (nt - A.size) undef).getD t undef = A.getD t undef := by
      simp only [Array.getD_eq_getD_getElem?]
      rw [Array.getElem?_append_left (by omega)]
    rw [this]
    simpa [hv] using hA.get hv
  · rw [if_neg (by omega)]
    have : (A ++ Array.replicate (nt - A.size) undef).getD t undef = undef := by
      simp only [Array.getD_eq_getD_getElem?]
      rw [Array.getElem?_append_right (by omega), Array.getElem?_replicate]
      split <;> rfl
    rw [this]
    exact fun ρ' _ => undefL_real ρ'

def resF (T : Array Value) : ResultVar → Sem Value
  | .tmp t => pure (T.getD t undef)
  | .cell a t => do loadVar t (← asAddr (T.getD a undef))

theorem resL_sound {h : LH} {tm : Tr LV} {S : Sc} {ρ : Rn} {w : World} {n : Nat} {T : Array Value} (m : Mem S ρ h w) (t : Tm S ρ (tget tm) n T) : ∀ (l : List ResultVar) (vs : List LV), resL E h tm l = some vs →
    ∀ ρ', AgreeOn S ρ ρ' → (l.mapM (resF T)).run E.P w = .ok (vs.map (LV.real ρ')) w := by
  intro l
  induction l with
  | nil => intro vs h ρ' ag; simp [resL] at h; subst h; simp
  | cons x l ih =>
    intro vs hx ρ' ag
    cases x with
    | tmp u =>
      simp only [resL] at hx
      split at hx
      · rename_i r hr
        simp only [Option.some.injEq] at hx
        subst hx
        simp only [List.mapM_cons, resF, Sem.run_bind, Sem.run_pure, Result.andThen_ok, ih _ hr ρ' ag, t.2 u ρ' ag, List.map_cons]
      · cases hx
    | cell ad ty =>
      simp only [resL] at hx
      split at hx
      · rename_i la hla
        split at hx
        · rename_i v r hv hr
          simp only [Option.some.injEq] at hx
          subst hx
          have e1 := t.2 ad ρ' ag
          rw [hla] at e1
          have e2 := loadL_sound hv (m ρ' ag)
          simp only [LV.real] at e1
          have ea : (asAddr (T.getD ad undef)).run E.P w = .ok (la.real ρ') w := by rw [← e1]; rfl
          simp only [List.mapM_cons, resF, Sem.run_bind, Sem.run_pure, Result.andThen_ok, ih _ hr ρ' ag, ea, e2, List.map_cons]
        · cases hx
      · cases hx

theorem results_sound {h : LH} {tm : Tr LV} {S : Sc} {ρ : Rn} {w : World} {n : Nat} {T : Array Value} {fn : Func} (m : Mem S ρ h w) (t : Tm S ρ (tget tm) n T) {vs : List LV} (hr : resL E h tm fn.results.toList = some vs) :
    ∃ V, (results fn T).run E.P w = .ok V w ∧ Vl S ρ (oneOrTup vs) V := by
  have key : ∀ ρ', AgreeOn S ρ ρ' → (results fn T).run E.P w = .ok ((oneOrTup vs).real ρ') w := fun ρ' ag => by
    have := resL_sound m t _ _ hr ρ' ag
    have e : results fn T = (do
        let vs ← fn.results.mapM (resF T)
        pure (if h : vs.size = 1 then vs[0] else .tuple vs)) := by
      unfold results
      congr 1
    rw [e, Array.mapM_eq_mapM_toList]
    simp only [map_eq_pure_bind, bind_assoc, pure_bind, Sem.run_bind, this, Result.andThen_ok, Sem.run_pure]
    congr 1
    rcases vs with _ | ⟨v, _ | ⟨v', vs⟩⟩
    · simp [oneOrTup, LV.real, LVs.real]
    · simp [oneOrTup]
    · simp [oneOrTup, LV.real, LVs.real_map]
  exact ⟨_, key ρ (AgreeOn.refl _ _), fun ρ' ag => by
    have := (key ρ' ag).symm.trans (key ρ (AgreeOn.refl _ _))
    injection this⟩

/-- Marks taken on the way out. -/
theorem unmark_inv {β : Type} {bad X : β} {k : LH → β} (hXb : X ≠ bad) : ∀ (mks : List Nat) (h : LH), unmark bad mks h k = X →
    ∃ h2, k h2 = X ∧ h2.nx = h.nx ∧ Stp h h2 ∧ ∀ (S : Sc) (ρ : Rn) (w : World) (ds : List Deferred) (fn : Func) (T : Array Value) (R : Ending → World → Prop), Mem S ρ h w → Mks S ρ mks ds →
      (∀ w2, Mem S ρ h2 w2 → Ext ρ h w ρ h2 w2 → LeavesInM Fence.wide 0 E.P fn T R [] .returning w2) → LeavesInM Fence.wide 0 E.P fn T R ds .returning w := by
  intro mks
  induction mks with
  | nil =>
    intro h hx
    exact ⟨h, hx, rfl, Stp.refl h, fun S ρ w ds fn T R m mk hl => by
      have : ds = [] := mk ρ (AgreeOn.refl _ _)
      subst this
      exact hl w m (Ext.refl _ _ _)⟩
  | cons r mks ih =>
    intro h hx
    simp only [unmark] at hx
    split at hx
    · rename_i hb hro
      have hro := Nat.le_of_ble_eq_true hro
      rw [LH.put_eq] at hx
      obtain ⟨h2, hk, hn, hs2, hl2⟩ := ih _ hx
      refine ⟨h2, hk, hn, (Stp.set ⟨_, hb, rfl⟩ _).trans hs2, fun S ρ w ds fn T R m mk hl => ?_⟩
      have hds : ds = mark ρ r :: mks.map (mark ρ) := mk ρ (AgreeOn.refl _ _)
      obtain ⟨m1, e1⟩ := m.set (O' := .deferred none) hb rfl hro (o' := .defd true) fun ρ' _ => rfl
      have ho : w.heap[ρ.s r]? = some (.deferred (some [])) := m.self.obj r _ hb
      subst hds
      refine ⟨by simp, .inl ⟨ρ.s r, _, rfl, run_takeDeferred ho, hl2 S ρ _ _ fn T R m1 ?_ fun w2 m2 e2 => hl w2 m2 (e1.trans e2)⟩⟩
      intro ρ' ag
      have := mk ρ' ag
      simp only [List.map_cons, List.cons.injEq] at this
      exact this.2
    · exact absurd hx.symm hXb

variable {md : Bool} {ih : Rec}

theorem callB_ok (hE : EnvOk E) (hI : CodeOk E ih) : CallOk E (callB E md ih) := by
  intro f args h pa v h' pa' hx hp
  unfold callB at hx
  split at hx
  · rename_i s hs
    split at hx
    · rename_i v1 h1 pa1 c hv
      obtain ⟨pa2, h2, h3⟩ := chk_inv hx (by intro e; cases e)
      cases h2
      obtain ⟨p1, rfl⟩ := h3 hp
      exact hE.sum f s hs args h pa v h' pa1 hv p1
    · cases hx
  · split at hx
    · cases hx
    rename_i fn hf
    split at hx
    · cases hx
    rename_i c hb
    split at hx
    · cases hx
    rename_i ex tm1 h1 mks1 pa1 hc
    have hne : ∀ id, ex ≠ .exit id := by intro id e; subst e; cases hx
    have hx' : unmark CR.bad mks1 h1 (fun h => match resL E h tm1 fn.results.toList with
        | some vs => .ret (oneOrTup vs) h pa1
        | none => .bad) = .ret v h' pa' := by
      cases ex with
      | exit id => exact absurd rfl (hne id)
      | normal => exact hx
      | ret => exact hx
    obtain ⟨h2, hk, hn2, hs2, hl2⟩ := unmark_inv (E := E) (by intro e; cases e) mks1 h1 hx'
    split at hk
    · rename_i vs hr
      cases hk
      obtain ⟨p0, s0, hcode⟩ := hI _ _ _ _ _ _ _ _ _ _ _ hc hp
      refine ⟨p0, s0.trans hs2, fun S ρ w A lo m hA => ⟨?_, ?_⟩⟩
      · have hnm : ¬ fn.name = "runtime.NumGoroutine" := by simpa using hE.names f fn c hf hb
        simp [callFunc, hf, hnm, hb]
      · refine callsIn_of_wp_marks hf hb trivial ?_
        have hwp := (hcode S ρ w { tmps := A ++ Array.replicate (fn.ntmps - A.size) undef, defers := [] } none (bodyPostM Fence.wide 0 E.P fn (Post S ρ h w (oneOrTup vs) h')) (fun _ => rfl) (lo.fst hs2) m (enter_Tm hA fn.ntmps) (fun _ _ => rfl) ?_).wp
        · exact hwp
        · intro ρ1 a1 w1 m1 t1 mk1 e1
          have key : LeavesInM Fence.wide 0 E.P fn a1.tmps (Post S ρ h w (oneOrTup vs) h') a1.defers .returning w1 := by
            refine hl2 _ ρ1 w1 a1.defers fn a1.tmps _ m1 mk1 fun w2 m2 e2 => ?_
            obtain ⟨V, hV, hVl⟩ := results_sound (fn := fn) m2 t1 hr
            refine ⟨V, hV, ρ1, V, rfl, ?_, ?_, e1.trans e2⟩
            · rw [hn2]; exact m2
            · rw [hn2]; exact hVl
          cases ex with
          | exit id => exact absurd rfl (hne id)
          | normal => exact key
          | ret => exact key
    · cases hk

theorem setParams_get : ∀ (ts : List Tmp) (vs : List LV) (S : Sc) (ρ : Rn) (tm : Tr LV) (n : Nat) (T : Array Value) (As : List Value), parsOk n ts = true → ts.length = vs.length → As.length = vs.length → (∀ (i : Nat) v, vs[i]? = some v → Vl S ρ v (As.getD i undef)) → Tm S ρ (tget tm) n T →
    Tm S ρ (tget (setParams ts vs tm)) n ((ts.zip As).foldl (fun tmps (p : Tmp × Value) => tmps.setIfInBounds p.1 p.2) T) := by
  intro ts
  induction ts with
  | nil => intro vs S ρ tm n T As _ hl _ _ t; cases vs with
    | nil => exact t
    | cons => cases hl
  | cons d ts ih =>
    intro vs S ρ tm n T As hok hl hla hv t
    cases vs with
    | nil => cases hl
    | cons v vs => cases As with
      | nil => cases hla
      | cons A As =>
        simp only [parsOk] at hok
        split at hok
        · rename_i hd
          have hd : d < n := Nat.le_of_ble_eq_true hd
          simp only [setParams, Tr.setK_eq, List.zip_cons_cons, List.foldl_cons]
          refine ih vs S ρ _ n _ As hok (by simpa using hl) (by simpa using hla) (fun i v' hi => ?_) (t.set (hv 0 v rfl) hd fun u => tget_set _ _ _ _)
          have := hv (i + 1) v' (by simpa using hi)
          simpa using this
        · cases hok

theorem jump_isNone (ex : Ex) : (jumpOf ex).isNone = isNormal ex := by cases ex <;> rfl

theorem roundB_ok (hI : CodeOk E ih) : RoundOk E (roundB ih) := by
  intro l args h pa v h' pa' hx hp
  unfold roundB at hx
  split at hx
  · rename_i pend fn tm n params assign body df hb hro
    have hro := Nat.le_of_ble_eq_true hro
    split at hx
    · cases hx
    rename_i hok
    obtain ⟨hlen, hpo⟩ := boolAnd_true.1 hok
    have hlen := Nat.eq_of_beq_eq_true hlen
    split at hx
    · rename_i tm1 h1 pa1 ha
      split at hx
      · rename_i pend' fn' tm' n' ps' as' bo' df' hb1
        rw [LH.put_eq] at hx
        split at hx
        · rename_i ex tm2 h3 pa3 hbd
          split at hx
          · rename_i st3 pend3 fn3 tm3 n3 ps3 as3 bo3 df3 hb3
            rw [LH.put_eq] at hx
            cases hx
            obtain ⟨p1, s1, hbd⟩ := hI _ _ _ _ _ _ _ _ _ _ _ hbd hp
            obtain ⟨p0, s0, ha⟩ := hI _ _ _ _ _ _ _ _ _ _ _ ha p1
            have sb : Stp h1 (h1.set l (.loop .busy pend' fn' tm' n' ps' as' bo' df')) := Stp.set ⟨_, hb1, rfl⟩ _
            have se : Stp h3 (h3.set l (.loop (stOf ex) (jumpOf ex) fn3 tm3 n3 ps3 as3 bo3 df3)) := Stp.set ⟨_, hb3, rfl⟩ _
            refine ⟨p0, ((s0.trans sb).trans s1).trans se, fun S ρ w A lo m hA => ?_⟩
            have lo3 : Fresh S h h3 := lo.fst se
            have lo1 : Fresh S h h1 := lo3.fst (sb.trans s1)
            -- what the record holds
            have hrec : ∀ ρ', AgreeOn S ρ ρ' → ∃ T fn2, w.heap[ρ'.s l]? = some (.loop { state := .ready, pending := pend, fn := fn2, tmps := T, params := params, assign := assign, body := body, defers := ρ'.s df }) ∧ TmEq ρ' tm n T := fun ρ' ag => (m ρ' ag).obj l _ hb
            obtain ⟨T, fn2, hT, _⟩ := hrec ρ (AgreeOn.refl _ _)
            have hTm : Tm S ρ (tget tm) n T := by
              have hs : ∀ ρ', AgreeOn S ρ ρ' → TmEq ρ' tm n T := fun ρ' ag => by
                obtain ⟨T', fn2', hT', ht'⟩ := hrec ρ' ag
                rw [(ag l (m.lt hb rfl)).1, hT] at hT'
                simp only [Option.some.injEq, Obj.loop.injEq, Loop.mk.injEq] at hT'
                rw [hT'.2.2.2.1]; exact ht'
              exact ⟨(hs ρ (AgreeOn.refl _ _)).1, fun t ρ' ag => ((hs ρ' ag).2 t).symm⟩
            have hAs := hA.size
            refine ⟨fn2, (params.zip A).foldl (fun tmps (p : Tmp × Value) => tmps.setIfInBounds p.1 p.2) T, assign, body, ?_, ?_⟩
            · simp only [Instr.yield, Sem.run_bind, run_getLoop hT, Result.andThen_ok]
              rw [if_neg (by rw [hAs, hlen]; simp)]
              rfl
            · refine roundIn_of_wpIn trivial ?_
              have hTp : Tm S ρ (tget (setParams params.toList args tm)) n ((params.zip A).foldl (fun tmps (p : Tmp × Value) => tmps.setIfInBounds p.1 p.2) T) := by
                rw [← Array.foldl_toList, Array.toList_zip]
                refine setParams_get params.toList args S ρ tm n T A.toList hpo (by simp [hlen]) (by simpa using hAs) (fun i v hi => ?_) hTm
                have := hA.get hi
                simpa [Array.getD_eq_getD_getElem?] using this
              refine (ha S ρ w { tmps := _, defers := [] } (some (ρ.s l)) _ (fun h => by cases h) lo1 m hTp (fun _ _ => rfl) ?_).wp
              intro ρ1 a1 w1 m1 t1 mk1 e1
              have hl1 : ρ1.s l = ρ.s l := ((lo1.on e1) l (m.lt hb rfl)).1
              obtain ⟨T1, f1, hT1, _⟩ := m1.self.obj l _ hb1
              rw [hl1] at hT1
              -- the record is busy from now on
              obtain ⟨m2, e2⟩ := m1.set (o' := .loop .busy pend' fn' tm' n' ps' as' bo' df') (O' := .loop { state := .busy, pending := pend', fn := f1, tmps := T1, params := ps', assign := as', body := bo', defers := ρ1.s df' }) hb1 rfl (by rw [e1.ro]; exact hro) fun ρ' ag => by
                obtain ⟨T', f', hT', ht'⟩ := (m1 ρ' ag).obj l _ hb1
                rw [(ag l (m1.lt hb1 rfl)).1, hl1, hT1] at hT'
                simp only [Option.some.injEq, Obj.loop.injEq, Loop.mk.injEq] at hT'
                exact ⟨T1, f1, by rw [hT'.2.2.2.2.2.2.2], by rw [hT'.2.2.2.1]; exact ht'⟩
              rw [hl1] at m2 e2
              refine ⟨_, run_beginRound hT1 rfl, ?_⟩
              refine (hbd _ ρ1 _ a1 (some (ρ.s l)) _ (fun h => by cases h) (lo3.snd (h1 := h1.set l (.loop .busy pend' fn' tm' n' ps' as' bo' df')) (s0.trans sb)) m2 t1 mk1 ?_).wp
              intro ρ3 a3 w3 m3 t3 mk3 e3
              have hl3 : ρ3.s l = ρ.s l := by
                have lo2 : Fresh (grow S h.nx h1.nx) (h1.set l (.loop .busy pend' fn' tm' n' ps' as' bo' df')) h3 := lo3.snd (h1 := h1.set l (.loop .busy pend' fn' tm' n' ps' as' bo' df')) (s0.trans sb)
                rw [(lo2.on e3 l (m1.lt hb1 rfl)).1, hl1]
              obtain ⟨T3, f3, hT3, _⟩ := m3.self.obj l _ hb3
              rw [hl3] at hT3
              obtain ⟨m4, e4⟩ := m3.set (o' := .loop (stOf ex) (jumpOf ex) fn3 tm3 n3 ps3 as3 bo3 df3) (O' := .loop { state := if (jumpOf ex).isNone then .ready else .done, pending := jumpOf ex, fn := f3, tmps := T3, params := ps3, assign := as3, body := bo3, defers := ρ3.s df3 }) hb3 rfl (by
                    have := e3.ro; have := e1.ro
                    simp only [LH.set] at *
                    omega) fun ρ' ag => by
                obtain ⟨T', f', hT', ht'⟩ := (m3 ρ' ag).obj l _ hb3
                rw [(ag l (m3.lt hb3 rfl)).1, hl3, hT3] at hT'
                simp only [Option.some.injEq, Obj.loop.injEq, Loop.mk.injEq] at hT'
                refine ⟨T3, f3, ?_, by rw [hT'.2.2.2.1]; exact ht'⟩
                rw [← hT'.2.2.2.2.2.2.2]
                cases ex <;> rfl
              rw [hl3] at m4 e4
              have hend := run_endRound (P := E.P) (jumpOf ex) hT3
              have hgg : grow (grow S h.nx h1.nx) h1.nx h3.nx = grow S h.nx h3.nx := grow_grow S e1.nx e3.nx
              have hpost : Post S ρ h w (.bool (isNormal ex)) (h3.set l (.loop (stOf ex) (jumpOf ex) fn3 tm3 n3 ps3 as3 bo3 df3)) (.returned (.bool (jumpOf ex).isNone)) (w3.putObj (ρ.s l) (.loop { state := if (jumpOf ex).isNone then .ready else .done, pending := jumpOf ex, fn := f3, tmps := T3, params := ps3, assign := as3, body := bo3, defers := ρ3.s df3 })) := by
                refine ⟨ρ3, .bool (jumpOf ex).isNone, rfl, ?_, fun ρ' _ => by simp [LV.real, jump_isNone], ((e1.trans e2).trans e3).trans e4⟩
                have hm : Mem (grow S h.nx h3.nx) ρ3 (h3.set l (.loop (stOf ex) (jumpOf ex) fn3 tm3 n3 ps3 as3 bo3 df3)) (w3.putObj (ρ.s l) (.loop { state := if (jumpOf ex).isNone then .ready else .done, pending := jumpOf ex, fn := f3, tmps := T3, params := ps3, assign := as3, body := bo3, defers := ρ3.s df3 })) := by
                  rw [← hgg]; exact m4
                exact hm
              cases ex with
              | normal => exact ⟨_, _, hend, hpost⟩
              | ret => exact ⟨_, _, hend, hpost⟩
              | exit id => exact ⟨_, _, hend, hpost⟩
          · cases hx
        · cases hx
      · cases hx
    · cases hx
  · cases hx
end
end Go.Ev

/- A range over a function; all code. -/
namespace Go.Ev
open Go

section
variable {E : Env} {md : Bool} {ih : Rec}

theorem rangeB_ok (hC : CallOk E (callB E md ih)) {fr : Fr} {f : Operand} {params : Array Tmp} {assign body : Code} {tm : Tr LV} {h : LH} {mks : List Nat} {pa : Path} {ex : Ex} {tm' : Tr LV} {h' : LH} {mks' : List Nat} {pa' : Path}
    (hx : rangeB E md ih fr f params assign body tm h mks pa = .mk ex tm' h' mks' pa') (hp : pa'.as = true) : pa.as = true ∧ Stp h h' ∧
    ∀ (S : Sc) (ρ : Rn) (w : World) (a : Act) (ro : Option Nat) (Q : Exit → Act → World → Prop), (fr.ro = none → ro = none) → Fresh S h h' → Mem S ρ h w → Tm S ρ (tget tm) fr.n a.tmps → Mks S ρ mks a.defers →
      Left S ρ h w fr.n tm' h' mks' (Q (exOf ex)) → (Code.rangeFunc f params assign body).wpIn (Fw ro) 0 E.P Q a w := by
  unfold rangeB at hx
  split at hx
  · rename_i g first caps hfr hf
    simp only [LH.push_eq] at hx
    split at hx
    · cases hx
    rename_i v h3 pa3 hcall
    split at hx
    · rename_i state pend fn' tm3 n' ps' as' bo' df' hb3 hro3
      have hro3 := Nat.le_of_ble_eq_true hro3
      have hnb : state ≠ .busy := by intro e; subst e; cases hx
      have hx' : rangeEnd pend tm (h3.set (h.add (.defd false)).nx (.loop .exhausted pend fn' tm3 n' ps' as' bo' df')) (h.nx :: mks) pa3 = .mk ex tm' h' mks' pa' := by
        cases state with
        | busy => exact absurd rfl hnb
        | _ => simpa [LH.put_eq] using hx
      unfold rangeEnd at hx'
      have hfin : tm' = tm ∧ h' = h3.set (h.add (.defd false)).nx (.loop .exhausted pend fn' tm3 n' ps' as' bo' df') ∧ mks' = h.nx :: mks ∧ pa' = pa3 ∧ ((pend = none ∧ ex = .normal) ∨ (pend = some .ret ∧ ex = .ret) ∨ ∃ id, pend = some (.exit id) ∧ ex = .exit id) := by
        split at hx'
        · cases hx'; exact ⟨rfl, rfl, rfl, rfl, .inl ⟨rfl, rfl⟩⟩
        · cases hx'; exact ⟨rfl, rfl, rfl, rfl, .inr (.inl ⟨rfl, rfl⟩)⟩
        · cases hx'; exact ⟨rfl, rfl, rfl, rfl, .inr (.inr ⟨_, rfl, rfl⟩)⟩
        · cases hx'
      obtain ⟨rfl, rfl, rfl, rfl, hpe⟩ := hfin
      obtain ⟨p0, s0, hc⟩ := hC _ _ _ _ _ _ _ hcall hp
      have sa : Stp h (h.add (.defd false)) := Stp.add _ _
      have sb : Stp (h.add (.defd false)) ((h.add (.defd false)).add (.loop .ready none fr.fn tm' fr.n params assign body h.nx)) := Stp.add _ _
      have se : Stp h3 (h3.set (h.add (.defd false)).nx (.loop .exhausted pend fn' tm3 n' ps' as' bo' df')) := Stp.set ⟨_, hb3, rfl⟩ _
      refine ⟨p0, ((sa.trans sb).trans s0).trans se, fun S ρ w a ro Q hro lo m t mk hl => ?_⟩
      have lo3 : Fresh S h h3 := lo.fst se
      have loB : Fresh S h ((h.add (.defd false)).add (.loop .ready none fr.fn tm' fr.n params assign body h.nx)) := lo3.fst s0
      have loA : Fresh S h (h.add (.defd false)) := loB.fst sb
      have hnS : ¬ S h.nx := loA.not (Nat.lt_succ_self _)
      have hnS1 : ¬ S (h.nx + 1) := fun hs => by
        rcases loB.1 _ hs with h | h
        · omega
        · simp [LH.add] at h; omega
      obtain rfl := hro hfr
      -- the block for deferred calls; the record
      obtain ⟨m1, e1⟩ := m.add (o := .defd false) (O := .deferred (some [])) hnS fun ρ' _ => rfl
      have lo1 : ¬ grow S h.nx (h.nx + 1) (h.nx + 1) := by
        rintro (h | h)
        · exact hnS1 h
        · omega
      have hr1 : (ρ.next h.nx w.heap.size 0).s h.nx = w.heap.size := by simp [Rn.next]
      have t1 := t.to (loA.on e1) (in_grow (a := h.nx) (b := h.nx + 1))
      have hrec : ∀ fn, ∃ ρ2, Mem (grow (grow S h.nx (h.nx + 1)) (h.nx + 1) (h.nx + 2)) ρ2 ((h.add (.defd false)).add (.loop .ready none fr.fn tm' fr.n params assign body h.nx))
            ((w.alloc (.deferred (some []))).alloc (.loop { state := .ready, pending := none, fn, tmps := a.tmps, params := params, assign, body, defers := w.heap.size })) ∧
          Ext (ρ.next h.nx w.heap.size 0) (h.add (.defd false)) (w.alloc (.deferred (some []))) ρ2 ((h.add (.defd false)).add (.loop .ready none fr.fn tm' fr.n params assign body h.nx))
            ((w.alloc (.deferred (some []))).alloc (.loop { state := .ready, pending := none, fn, tmps := a.tmps, params := params, assign, body, defers := w.heap.size })) ∧ ρ2.s (h.nx + 1) = w.heap.size + 1 := by
        intro fn
        have hag1 : AgreeOn (grow S h.nx (h.nx + 1)) (ρ.next h.nx w.heap.size 0) ((ρ.next h.nx w.heap.size 0).next (h.nx + 1) (w.heap.size + 1) 0) := fun id hi => Rn.next_ne _ _ _ (fun e => lo1 (e ▸ hi))
        obtain ⟨m2, e2⟩ := m1.add (o := .loop .ready none fr.fn tm' fr.n params assign body h.nx) (O := .loop { state := .ready, pending := none, fn, tmps := a.tmps, params := params, assign, body, defers := w.heap.size }) lo1 fun ρ' ag => by
          have ag' : AgreeOn (grow S h.nx (h.nx + 1)) (ρ.next h.nx w.heap.size 0) ρ' := by
            refine AgreeOn.trans (fun id hi => ?_) (S' := grow (grow S h.nx (h.nx + 1)) (h.nx + 1) (h.nx + 1 + 1)) (fun id hi => .inl hi) ag
            exact Rn.next_ne _ _ _ (fun e => lo1 (by rw [e] at hi; exact hi))
          refine ⟨a.tmps, fn, ?_, t1.1, fun u => ((t1.2 u) ρ' ag').symm⟩
          rw [(ag' h.nx (.inr ⟨Nat.le_refl _, Nat.lt_succ_self _⟩)).1, hr1]
        refine ⟨_, m2, e2, ?_⟩
        have : (w.alloc (.deferred (some []))).heap.size = w.heap.size + 1 := by simp
        simp only [LH.add, Rn.next, if_true]
        rw [this]
      refine wpIn_rangeFunc fun fn _ => ?_
      obtain ⟨ρ2, m2, e2, hl2⟩ := hrec fn
      have henter := run_enterLoop_outer (P := E.P) (w := w) fn a.tmps params assign body
      generalize hW : (w.alloc (.deferred (some []))).alloc (.loop { state := .ready, pending := none, fn, tmps := a.tmps, params := params, assign, body, defers := w.heap.size }) = W at m2 e2 henter
      have hgg : grow (grow S h.nx (h.nx + 1)) (h.nx + 1) (h.nx + 2) = grow S h.nx (h.nx + 2) := grow_grow S (Nat.le_succ _) (Nat.le_succ _)
      rw [hgg] at m2
      have e12 := e1.trans e2
      have lo2 : Fresh (grow S h.nx (h.nx + 2)) ((h.add (.defd false)).add (.loop .ready none fr.fn tm' fr.n params assign body h.nx)) h3 := lo3.snd (sa.trans sb)
      have hag : AgreeOn S ρ ρ2 := loB.on e12
      -- the call
      have hv := Vl.of m t f
      rw [← rho_F, hf] at hv
      have hA : Args (grow S h.nx (h.nx + 2)) ρ2 ((first ++ [.fn (.yield (h.nx + 1)) [] []]) ++ caps) (((first ++ [LV.fn (.yield (h.nx + 1)) [] []]) ++ caps).map (LV.real ρ2)).toArray := by
        intro ρ' ag
        obtain ⟨a1, a2⟩ := fn_stable hv (hag.trans in_grow ag)
        obtain ⟨b1, b2⟩ := fn_stable hv hag
        simp only [List.map_append, a1, a2, b1, b2, List.map_cons, List.map_nil, LV.real, LVs.real, fnR]
        rw [(ag (h.nx + 1) (.inr ⟨by omega, by omega⟩)).1]
      obtain ⟨hcf, hcc⟩ := hc _ ρ2 _ _ lo2 m2 hA
      refine ⟨w.heap.size + 1, [{ target := .collected w.heap.size, args := #[] }], W, { target := .fn (.func g) (caps.map (LV.real ρ)).toArray, args := ((first.map (LV.real ρ)).toArray ++ #[.func (.yield (w.heap.size + 1)) #[] #[]]) }, W, g, (((first ++ [LV.fn (.yield (h.nx + 1)) [] []]) ++ caps).map (LV.real ρ2)).toArray, W, henter, ?_, fun f' _ => trivial, ?_, fun hd => (by cases hd), ?_⟩
      · have hev : a.eval f = .func (.func g) (first.map (LV.real ρ)).toArray (caps.map (LV.real ρ)).toArray := by
          have := hv.self
          simp only [LV.real, LVs.real_map, fnR] at this
          exact this.symm
        simp only [resolve, hev, Deferred.ofValue, Sem.run_pure]
        simp [Act.eval]
      · simp only [invoke]
        rw [← hcf]
        obtain ⟨b1, b2⟩ := fn_stable hv hag
        simp [LV.real, LVs.real, fnR, hl2, b1, b2]
      · refine (callsIn_Fw hcc).mono ?_
        rintro e w3 ⟨ρ3, V, rfl, m3, _, e3⟩
        have hl3 : ρ3.s (h.nx + 1) = w.heap.size + 1 := by
          rw [(lo2.on e3 (h.nx + 1) (.inr ⟨by omega, by omega⟩)).1, hl2]
        have hb3' : h3.bs.get (h.nx + 1) = some (.loop state pend fn' tm3 n' ps' as' bo' df') := hb3
        obtain ⟨T3, f3, hT3, _⟩ := m3.self.obj (h.nx + 1) _ hb3'
        rw [hl3] at hT3
        obtain ⟨m4, e4⟩ := m3.set (o' := .loop .exhausted pend fn' tm3 n' ps' as' bo' df') (O' := .loop { state := .exhausted, pending := pend, fn := f3, tmps := T3, params := ps', assign := as', body := bo', defers := ρ3.s df' }) hb3' rfl hro3 fun ρ' ag => by
          obtain ⟨T', f', hT', ht'⟩ := (m3 ρ' ag).obj (h.nx + 1) _ hb3'
          rw [(ag (h.nx + 1) (m3.lt hb3' rfl)).1, hl3, hT3] at hT'
          simp only [Option.some.injEq, Obj.loop.injEq, Loop.mk.injEq] at hT'
          exact ⟨T3, f3, by rw [hT'.2.2.2.2.2.2.2], by rw [hT'.2.2.2.1]; exact ht'⟩
        rw [hl3] at m4 e4
        refine ⟨pend, _, run_endLoop hT3 hnb, ?_⟩
        have hgg3 : grow (grow S h.nx (h.nx + 2)) (h.nx + 2) h3.nx = grow S h.nx h3.nx := grow_grow S e12.nx e3.nx
        have eall := (e12.trans e3).trans e4
        have hfinal : Q (exOf ex) { a with defers := [{ target := .collected w.heap.size, args := #[] }] ++ a.defers } (w3.putObj (w.heap.size + 1) (.loop { state := .exhausted, pending := pend, fn := f3, tmps := T3, params := ps', assign := as', body := bo', defers := ρ3.s df' })) := by
          refine hl ρ3 _ _ ?_ (t.to (lo.on eall) in_grow) ?_ eall
          · have m4' := m4
            rw [show (((h.add (.defd false)).add (.loop .ready none fr.fn tm' fr.n params assign body h.nx)).nx) = h.nx + 2 from rfl, hgg3] at m4'
            exact m4'
          · intro ρ' ag
            have ag0 : AgreeOn S ρ ρ' := (lo.on eall).trans in_grow ag
            have hmk := mk ρ' ag0
            have hr3 : ρ'.s h.nx = w.heap.size := by
              rw [(ag h.nx (.inr ⟨Nat.le_refl _, by have := eall.nx; have := e3.nx; have := e12.nx; simp [LH.set, LH.add] at *; omega⟩)).1]
              rw [(e3.agree h.nx (.inl (by show h.nx < h.nx + 1 + 1; omega))).1, (e2.agree h.nx (.inl (by simp [LH.add]))).1, hr1]
            show _ :: a.defers = _
            simp only [List.map_cons, mark, hr3]
            rw [hmk]
        rcases hpe with ⟨rfl, rfl⟩ | ⟨rfl, rfl⟩ | ⟨id, rfl, rfl⟩
        · exact hfinal
        · exact wpIn_ret hfinal
        · exact wpIn_exit hfinal
    · cases hx
  · cases hx

theorem stepC_ok (hE : EnvOk E) (hD : DrawsOk E) (hI : CodeOk E ih) : CodeOk E (stepC E md ih) := by
  have hC := callB_ok (md := md) hE hI
  have hR := roundB_ok hI
  intro fr c tm h mks pa ex tm' h' mks' pa' hx hp
  unfold stepC at hx
  split at hx
  · cases hx
    exact ⟨hp, Stp.refl _, fun S ρ w a ro Q hro lo m t mk hl => wpIn_skip (hl ρ a w (by rw [grow_self]; exact m) (by rw [grow_self]; exact t) (by rw [grow_self]; exact mk) (Ext.refl _ _ _))⟩
  · exact cRegion_ok hE hD hC hR hx hp
  · obtain ⟨p0, s0, h2⟩ := cSeq_ok hI hx hp
    exact ⟨p0, s0, fun S ρ w a ro Q hro lo m t mk hl => wpIn_seq (h2 S ρ w a ro Q _ hro lo m t mk (fun _ _ h => h.wp) hl)⟩
  · exact cCond_ok hI hx hp
  · exact cBlock_ok hI hx hp
  · obtain ⟨p0, s0, h2⟩ := cSeq_ok hI hx hp
    exact ⟨p0, s0, fun S ρ w a ro Q hro lo m t mk hl => WpL.intro (h2 S ρ w a ro Q _ hro lo m t mk (fun _ _ h => h) hl)⟩
  · exact rangeB_ok hC hx hp
  · cases hx
    exact ⟨hp, Stp.refl _, fun S ρ w a ro Q hro lo m t mk hl => wpIn_exit (hl ρ a w (by rw [grow_self]; exact m) (by rw [grow_self]; exact t) (by rw [grow_self]; exact mk) (Ext.refl _ _ _))⟩
  · cases hx
    exact ⟨hp, Stp.refl _, fun S ρ w a ro Q hro lo m t mk hl => wpIn_ret (hl ρ a w (by rw [grow_self]; exact m) (by rw [grow_self]; exact t) (by rw [grow_self]; exact mk) (Ext.refl _ _ _))⟩
  · cases hx

theorem evC_ok (hE : EnvOk E) (hD : DrawsOk E) : ∀ n, CodeOk E (evC E md n) := by
  intro n
  induction n with
  | zero => intro fr c tm h mks pa ex tm' h' mks' pa' hx; cases hx
  | succ n ihn =>
    show CodeOk E (stepQ E md (evC E md n))
    rw [stepQ_eq]
    exact stepC_ok hE hD ihn

/-- A function's call: what the evaluator comes to holds. -/
theorem evF_ok (hE : EnvOk E) (hD : DrawsOk E) (n : Nat) : CallOk E (fun f args h pa => evF E md n f args h pa) := callB_ok hE (evC_ok hE hD n)
end
end Go.Ev
