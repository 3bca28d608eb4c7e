/- An evaluator of translated Go code over logical memory, and its soundness (EvF). -/
import Derived.Test.YtfblhdiihlkmjaaGreatDoorEvE
import Derived.OrdersIn
/- Regions that draw their order: any order comes to what the text's order comes to. -/
namespace Go.Ev
open Go

section
variable {E : Env}

def OR.same (h : LH) : OR → Prop
  | .val _ h' _ _ => h' = h
  | _ => True
theorem same_br {h : LH} {c : Bool} {pa : Path} {k : Bool → Path → OR} (hk : ∀ d pa, (k d pa).same h) : (br c pa k).same h := by
  obtain ⟨d, pa', e, _⟩ := chooseBr c pa k
  rw [e]; exact hk d pa'
theorem same_findL {h : LH} {x : LV} : ∀ (es : List (LV × LV × Nat)) (i : Nat) (pa : Path) (k : Option (Nat × LV) → Path → OR), (∀ r pa, (k r pa).same h) → (findL .bad x es i pa k).same h := by
  intro es
  induction es with
  | nil => intro i pa k hk; exact hk none pa
  | cons e es ih =>
    intro i pa k hk
    obtain ⟨y, v, c⟩ := e
    simp only [findL]
    split
    · trivial
    · refine same_br fun d pa => ?_
      cases d
      · exact ih _ _ _ hk
      · exact hk _ _
theorem same_okv {h : LH} {pa : Path} {r : Option LV} : (okv h pa r).same h := by unfold okv; split <;> first | trivial | rfl
theorem same_okv2 {h : LH} {pa : Path} {r : Option (LV × Bool)} : (okv2 h pa r).same h := by unfold okv2; split <;> first | trivial | rfl

theorem clsOf_conv {src dst : TypeId} {x : Operand} (h : clsOf E (.convert src dst x) = .pur ∨ clsOf E (.convert src dst x) = .lod) : ∃ k k', E.P.underlying src = some (.int k) ∧ E.P.underlying dst = some (.int k') := by
  simp only [clsOf] at h
  split at h
  · rename_i k k' h1 h2; exact ⟨k, k', h1, h2⟩
  · rcases h with h | h <;> cases h

theorem clsOf_call {c : Call} (h : clsOf E (.call c) = .pur ∨ clsOf E (.call c) = .lod) : c.callee = .builtin .len ∨ c.callee = .builtin .min ∨ c.callee = .builtin .max := by
  obtain ⟨callee, args, ts⟩ := c
  have ne : clsOf E (.call ⟨callee, args, ts⟩) ≠ .eff := by rcases h with h | h <;> rw [h] <;> intro e <;> cases e
  cases callee with
  | value f => exact absurd rfl ne
  | invoke r n => exact absurd rfl ne
  | builtin b =>
    cases b <;> first | exact .inl rfl | exact .inr (.inl rfl) | exact .inr (.inr rfl) | exact absurd rfl ne

theorem evO_same {ρ : Operand → LV} {o : Oper} {h : LH} {pa : Path} (hcl : clsOf E o.op = .pur ∨ clsOf E o.op = .lod) : (evO E ρ o h pa).same h := by
  unfold evO
  split
  case h_31 => trivial
  all_goals rename_i ho
  all_goals rw [ho] at hcl
  case h_30 =>
    rename_i cl
    unfold oCall
    rcases clsOf_call hcl with hc | hc | hc <;> rw [hc] <;> simp only [builtinL] <;> repeat' first
      | trivial
      | rfl
      | exact same_okv
      | split
  case h_13 =>
    obtain ⟨k, k', h1, h2⟩ := clsOf_conv hcl
    simp only [oConvert, h1, h2]
    repeat' first
      | trivial
      | rfl
      | split
  all_goals first
    | (exfalso; rcases hcl with h | h <;> cases h; done)
    | trivial
    | rfl
    | (simp only [oPick, oBuild, okAgg, oLoad, oNilCheck, oBin, oEq, oIface, oFunc, oSlice, oFieldAddr, oField, oIndexAddr, oAt, oIndex, oLookup, lookTell, oAssert, assertNo, oExtract]
       repeat' first
         | trivial
         | rfl
         | exact same_okv
         | exact same_okv2
         | apply same_findL
         | apply same_br
         | intro _
         | split)
    | exact same_okv
end
end Go.Ev

/- Regions that draw their order: temporaries of a set of operations. -/
namespace Go.Ev
open Go

section
variable {E : Env} {fr : Fr} {all : Array Oper} {sq : Nat → St} {D : Nat → Bool} {V : Nat → LV}
open Classical

/-- The temporaries, where the operations of X below j have run. -/
noncomputable def fXn (all : Array Oper) (f0 : Nat → LV) (V : Nat → LV) (X : Nat → Prop) : Nat → Nat → LV
  | 0, u => f0 u
  | j + 1, u => if X j ∧ (∃ o, all[j]? = some o ∧ o.dst = some u) then V j else fXn all f0 V X j u

/-- A closed set of operations: whoever stands in it has in it all that he stands behind. -/
def Closed (all : Array Oper) (X : Nat → Prop) : Prop := ∀ j i, X j → bit all j i = true → X i

theorem meets_of {a b : List Tmp} {u : Tmp} (h1 : u ∈ a) (h2 : u ∈ b) : meets a b = true := by
  simp only [meets, List.any_eq_true]
  exact ⟨u, h1, by simpa using h2⟩

theorem fX_below (q : DSeq E fr all sq D V) (sp : DrawSpec E all) {X : Nat → Prop} {j : Nat} {o : Oper} (hj : all[j]? = some o) (hm : ∀ i, bit all j i = true → X i) {u : Tmp} (hu : u ∈ namesOf all o) :
    ∀ i, i ≤ j → fXn all (tget (sq 0).tm) V X i u = tget (sq i).tm u := by
  have hjl : j < all.size := (Array.getElem?_eq_some_iff.1 hj).1
  intro i
  induction i with
  | zero => intro _; rfl
  | succ i ih =>
    intro hi
    have hil : all[i]? = some all[i] := by simp
    obtain ⟨oi, _, _, _, _, ft⟩ := q.fact i _ hil
    rw [ft.put u]
    simp only [fXn]
    by_cases hd : all[i].dst = some u
    · have hX : X i := by
        rcases sp.apart i j _ o hil hj (by omega) with h | ⟨_, h, _⟩
        · exact hm i h
        · rw [meets_of (u := u) (by simp [hd]) hu] at h; cases h
      rw [if_pos ⟨hX, _, hil, hd⟩, if_pos hd]
    · rw [if_neg (fun h => by obtain ⟨_, o', ho', h'⟩ := h; rw [hil] at ho'; cases ho'; exact hd h'), if_neg hd]
      exact ih (by omega)

theorem fX_above (sp : DrawSpec E all) {f0 : Nat → LV} {X : Nat → Prop} (hc : Closed all X) {j : Nat} {o : Oper} (hj : all[j]? = some o) (hn : ¬ X j) {u : Tmp} (hu : u ∈ namesOf all o) :
    ∀ i, j ≤ i → i ≤ all.size → fXn all f0 V X i u = fXn all f0 V X j u := by
  intro i
  induction i with
  | zero => intro h _; have : j = 0 := by omega
            subst this; rfl
  | succ i ih =>
    intro h hi
    by_cases he : j = i + 1
    · subst he; rfl
    · simp only [fXn]
      rw [if_neg, ih (by omega) (by omega)]
      rintro ⟨hX, o', ho', hd⟩
      by_cases hij : i = j
      · subst hij; exact hn hX
      · rcases sp.apart j i o o' hj ho' (by omega) with h | ⟨_, _, h⟩
        · exact hn (hc i j hX h)
        · rw [meets_of (u := u) (by simp [hd]) hu] at h; cases h

/-- What a ready operation looks at holds what it held in the text's order. -/
theorem fX_names (q : DSeq E fr all sq D V) (sp : DrawSpec E all) {X : Nat → Prop} (hc : Closed all X) {j : Nat} {o : Oper} (hj : all[j]? = some o) (hn : ¬ X j) (hm : ∀ i, bit all j i = true → X i) {u : Tmp} (hu : u ∈ namesOf all o) :
    fXn all (tget (sq 0).tm) V X all.size u = tget (sq j).tm u := by
  have hjl : j < all.size := (Array.getElem?_eq_some_iff.1 hj).1
  rw [fX_above sp hc hj hn hu _ (by omega) (Nat.le_refl _), fX_below q sp hj hm hu j (Nat.le_refl _)]

theorem fX_put (sp : DrawSpec E all) {f0 : Nat → LV} {X X' : Nat → Prop} (hc : Closed all X) {j : Nat} {o : Oper} (hj : all[j]? = some o) (hn : ¬ X j) (hX' : ∀ i, X' i ↔ X i ∨ i = j) (u : Tmp) :
    fXn all f0 V X' all.size u = if o.dst = some u then V j else fXn all f0 V X all.size u := by
  have hjl : j < all.size := (Array.getElem?_eq_some_iff.1 hj).1
  have low : ∀ i, i ≤ j → fXn all f0 V X' i u = fXn all f0 V X i u := by
    intro i
    induction i with
    | zero => intro _; rfl
    | succ i ih =>
      intro hi
      simp only [fXn]
      rw [ih (by omega)]
      have : X' i ↔ X i := by rw [hX']; constructor
                              · rintro (h | h)
                                · exact h
                                · omega
                              · exact .inl
      simp only [this]
  have high : ∀ i, j < i → i ≤ all.size → fXn all f0 V X' i u = if o.dst = some u then V j else fXn all f0 V X i u := by
    intro i
    induction i with
    | zero => intro h; omega
    | succ i ih =>
      intro h hi
      by_cases he : i = j
      · subst he
        simp only [fXn, low i (Nat.le_refl _)]
        by_cases hd : o.dst = some u
        · rw [if_pos ⟨(hX' i).2 (.inr rfl), o, hj, hd⟩, if_pos hd]
        · rw [if_neg (fun h => by obtain ⟨_, o', ho', h'⟩ := h; rw [hj] at ho'; cases ho'; exact hd h'), if_neg hd, if_neg (fun h => hn h.1)]
      · have hi' := ih (by omega) (by omega)
        have hXi : X' i ↔ X i := by rw [hX']; constructor
                                    · rintro (h | h)
                                      · exact h
                                      · exact absurd h he
                                    · exact .inl
        simp only [fXn, hXi, hi']
        by_cases hd : o.dst = some u
        · simp only [if_pos hd]
          rw [if_neg]
          rintro ⟨hX, o', ho', hd'⟩
          rcases sp.apart j i o o' hj ho' (by omega) with h | ⟨_, _, h⟩
          · exact hn (hc i j hX h)
          · rw [meets_of (u := u) (by simp [hd']) (by simp [namesOf, hd])] at h; cases h
        · simp only [if_neg hd]
  exact high _ hjl (Nat.le_refl _)

theorem fX_all (q : DSeq E fr all sq D V) {X : Nat → Prop} (hX : ∀ i, i < all.size → X i) : ∀ i, i ≤ all.size → ∀ u, fXn all (tget (sq 0).tm) V X i u = tget (sq i).tm u := by
  intro i
  induction i with
  | zero => intro _ u; rfl
  | succ i ih =>
    intro hi u
    have hil : all[i]? = some all[i] := by simp
    obtain ⟨oi, _, _, _, _, ft⟩ := q.fact i _ hil
    rw [ft.put u]
    simp only [fXn]
    by_cases hd : all[i].dst = some u
    · rw [if_pos ⟨hX i (by omega), _, hil, hd⟩, if_pos hd]
    · rw [if_neg (fun h => by obtain ⟨_, o', ho', h'⟩ := h; rw [hil] at ho'; cases ho'; exact hd h'), if_neg hd]
      exact ih (by omega) u
end
end Go.Ev

/- Regions that draw their order: memory of a set of operations. -/
namespace Go.Ev
open Go

section
variable {E : Env} {fr : Fr} {all : Array Oper} {sq : Nat → St} {D : Nat → Bool} {V : Nat → LV} {OB : Nat → LO}
open Classical

/-- The blocks of X that have not been put into the chain's memory by place k. -/
noncomputable def exL (E : Env) (all : Array Oper) (sq : Nat → St) (D : Nat → Bool) (OB : Nat → LO) (X : Nat → Prop) (k : Nat) : List Float :=
  ((List.range all.size).filter fun i => decide (X i ∧ Flo E all D i ∧ ¬ Ins E all D i k)).map fun i => (i, (sq i).h.nx, OB i)
noncomputable def hX (E : Env) (all : Array Oper) (sq : Nat → St) (D : Nat → Bool) (OB : Nat → LO) (X : Nat → Prop) (k : Nat) : LH := insL (sq k).h (exL E all sq D OB X k)
/-- The numbers given away when X has run. -/
def SX (all : Array Oper) (sq : Nat → St) (S0 : Sc) (X : Nat → Prop) : Sc := fun id => S0 id ∨ ∃ j, j < all.size ∧ X j ∧ (sq j).h.nx ≤ id ∧ id < (sq (j + 1)).h.nx

theorem mem_exL {X : Nat → Prop} {k : Nat} {f : Float} : f ∈ exL E all sq D OB X k ↔ ∃ i, X i ∧ Flo E all D i ∧ ¬ Ins E all D i k ∧ f = (i, (sq i).h.nx, OB i) := by
  simp only [exL, List.mem_map, List.mem_filter, List.mem_range, decide_eq_true_eq]
  constructor
  · rintro ⟨i, ⟨_, h1, h2, h3⟩, rfl⟩; exact ⟨i, h1, h2, h3, rfl⟩
  · rintro ⟨i, h1, h2, h3, rfl⟩
    obtain ⟨o, ho, _⟩ := h2
    exact ⟨i, ⟨(Array.getElem?_eq_some_iff.1 ho).1, h1, ⟨o, ho, ‹_›⟩, h3⟩, rfl⟩

theorem flo_nx (ha : ∀ i, AlcFact E all sq D V i (OB i)) {i : Nat} (h : Flo E all D i) : i < all.size ∧ (sq (i + 1)).h.nx = (sq i).h.nx + 1 := by
  obtain ⟨o, ho, hd, hc⟩ := h
  obtain ⟨_, h1, _⟩ := ha i o ho hd hc
  exact ⟨(Array.getElem?_eq_some_iff.1 ho).1, by rw [h1]⟩
/-- Ranges of numbers of two operations do not meet. -/
theorem nx_apart (q : DSeq E fr all sq D V) {i j id : Nat} (hi : i < all.size) (hj : j < all.size) (h1 : (sq i).h.nx ≤ id) (h2 : id < (sq (i + 1)).h.nx) (h3 : (sq j).h.nx ≤ id) (h4 : id < (sq (j + 1)).h.nx) : i = j := by
  rcases Nat.lt_trichotomy i j with h | h | h
  · have := q.nx_mono (i := i + 1) (j := j) (by omega) (by omega); omega
  · exact h
  · have := q.nx_mono (i := j + 1) (j := i) (by omega) (by omega); omega
theorem flo_inj (q : DSeq E fr all sq D V) (ha : ∀ i, AlcFact E all sq D V i (OB i)) {i j : Nat} (hi : Flo E all D i) (hj : Flo E all D j) (h : (sq i).h.nx = (sq j).h.nx) : i = j := by
  obtain ⟨h1, h2⟩ := flo_nx ha hi
  obtain ⟨h3, h4⟩ := flo_nx ha hj
  exact nx_apart q h1 h3 (Nat.le_refl _) (by omega) (by omega) (by omega)

theorem hX_some (q : DSeq E fr all sq D V) (ha : ∀ i, AlcFact E all sq D V i (OB i)) {X : Nat → Prop} {k i : Nat} (h1 : X i) (h2 : Flo E all D i) (h3 : ¬ Ins E all D i k) : (hX E all sq D OB X k).bs.get (sq i).h.nx = some (OB i) := by
  refine insL_some _ _ _ _ (fun f hf he => ?_) (.inl ⟨_, mem_exL.2 ⟨i, h1, h2, h3, rfl⟩, rfl⟩)
  obtain ⟨i', _, g2, _, rfl⟩ := mem_exL.1 hf
  rw [flo_inj q ha g2 h2 he]
theorem hX_none {X : Nat → Prop} {k id : Nat} (h : ∀ i, X i → Flo E all D i → ¬ Ins E all D i k → id ≠ (sq i).h.nx) : (hX E all sq D OB X k).bs.get id = (sq k).h.bs.get id := by
  refine insL_none _ _ _ fun f hf he => ?_
  obtain ⟨i, g1, g2, g3, rfl⟩ := mem_exL.1 hf
  exact h i g1 g2 g3 he.symm
theorem hX_ro (q : DSeq E fr all sq D V) {X : Nat → Prop} {k : Nat} (hk : k ≤ all.size) : (hX E all sq D OB X k).ro = (sq 0).h.ro := by rw [hX, insL_ro, q.ro hk]
/-- What stands in it: a block beside the chain, or one of the chain's. -/
theorem hX_cases (q : DSeq E fr all sq D V) (ha : ∀ i, AlcFact E all sq D V i (OB i)) {X : Nat → Prop} {k id : Nat} {o : LO} (h : (hX E all sq D OB X k).bs.get id = some o) :
    (∃ i, X i ∧ Flo E all D i ∧ ¬ Ins E all D i k ∧ id = (sq i).h.nx ∧ o = OB i) ∨ ((∀ i, X i → Flo E all D i → ¬ Ins E all D i k → id ≠ (sq i).h.nx) ∧ (sq k).h.bs.get id = some o) := by
  by_cases hf : ∃ i, X i ∧ Flo E all D i ∧ ¬ Ins E all D i k ∧ id = (sq i).h.nx
  · obtain ⟨i, h1, h2, h3, rfl⟩ := hf
    rw [hX_some q ha h1 h2 h3] at h
    cases h
    exact .inl ⟨i, h1, h2, h3, rfl, rfl⟩
  · have hn : ∀ i, X i → Flo E all D i → ¬ Ins E all D i k → id ≠ (sq i).h.nx := fun i h1 h2 h3 e => hf ⟨i, h1, h2, h3, e⟩
    rw [hX_none hn] at h
    exact .inr ⟨hn, h⟩

/-- A block beside the chain does not live in the chain's memory. -/
theorem flo_dead (q : DSeq E fr all sq D V) (sp : DrawSpec E all) (ha : ∀ i, AlcFact E all sq D V i (OB i)) (h0 : (sq 0).fl = []) {S0 : Sc} {ρ0 : Rn} {w0 : World} (m0 : Mem S0 ρ0 (sq 0).h w0) (f0 : Fresh S0 (sq 0).h (sq all.size).h)
    {i k : Nat} (hi : Flo E all D i) (hn : ¬ Ins E all D i k) (hk : k ≤ all.size) : ¬ LiveAt (sq k).h (sq i).h.nx := by
  intro hl
  obtain ⟨h1, h2⟩ := flo_nx ha hi
  have n0 := q.nx_mono (i := 0) (j := i) (by omega) (by omega)
  have n1 := q.nx_mono (i := i + 1) (j := all.size) (by omega) (Nat.le_refl _)
  rcases q.live sp ha h0 k hk _ hl with ⟨o, ho, hlo⟩ | ⟨e, o, he, ho, hd, hc, h3, h4⟩ | ⟨i', g1, g2, g3⟩
  · rcases f0.1 _ (m0.lt ho hlo) with h | h <;> omega
  · have hej : e < all.size := (Array.getElem?_eq_some_iff.1 ho).1
    have := nx_apart q h1 hej (Nat.le_refl _) (by omega) h3 h4
    subst this
    obtain ⟨o', ho', _, hc'⟩ := hi
    rw [ho] at ho'; cases ho'
    rw [hc] at hc'; cases hc'
  · have := flo_inj q ha hi g1 g3
    subst this
    exact hn g2
end
end Go.Ev

/- Regions that draw their order: the invariant. -/
namespace Go.Ev
open Go

/-- All that is told of a run in the text's order, and of where it starts. -/
structure Ctx (E : Env) (fr : Fr) (all : Array Oper) (sq : Nat → St) (D : Nat → Bool) (V : Nat → LV) (OB : Nat → LO) (S0 : Sc) (ρ0 : Rn) (w0 : World) (a0 : Act) : Prop where
  hE : EnvBase E
  hX : ExtOk E
  q : DSeq E fr all sq D V
  sp : DrawSpec E all
  ha : ∀ i, AlcFact E all sq D V i (OB i)
  fl0 : (sq 0).fl = []
  hs0 : (sq 0).hs = [(sq 0).h]
  ag : agains E (sq all.size).hs.reverse (sq all.size).ag = true
  m0 : Mem S0 ρ0 (sq 0).h w0
  f0 : Fresh S0 (sq 0).h (sq all.size).h
  t0 : Tm S0 ρ0 (tget (sq 0).tm) fr.n a0.tmps

section
variable {E : Env} {fr : Fr} {all : Array Oper} {sq : Nat → St} {D : Nat → Bool} {V : Nat → LV} {OB : Nat → LO} {S0 : Sc} {ρ0 : Rn} {w0 : World} {a0 : Act}

/-- What stands when the operations of X have run, k behind the last effect. -/
structure InvK (E : Env) (fr : Fr) (all : Array Oper) (sq : Nat → St) (D : Nat → Bool) (V : Nat → LV) (OB : Nat → LO) (S0 : Sc) (ρ0 : Rn) (w0 : World) (a0 : Act) (X : Nat → Prop) (k : Nat) (ρ : Rn) (a : Act) (w : World) : Prop where
  le : k ≤ all.size
  eff : ∀ e o, all[e]? = some o → clsOf E o.op = .eff → (X e ↔ e < k)
  mem : Mem (SX all sq S0 X) ρ (hX E all sq D OB X k) w
  tm : Tm (SX all sq S0 X) ρ (fXn all (tget (sq 0).tm) V X all.size) fr.n a.tmps
  kept : Kept ρ0 (sq 0).h w0 w
  foot : FootIn ρ0 (sq 0).h w0 ρ (hX E all sq D OB X k)
  out : ∀ id, id < (sq 0).h.nx ∨ (sq all.size).h.nx ≤ id → ρ.s id = ρ0.s id ∧ ρ.g id = ρ0.g id
  defers : a.defers = a0.defers

theorem SX_mono {X X' : Nat → Prop} (h : ∀ i, X i → X' i) : ∀ id, SX all sq S0 X id → SX all sq S0 X' id := by
  rintro id (hs | ⟨j, hj, hx, r⟩)
  · exact .inl hs
  · exact .inr ⟨j, hj, h j hx, r⟩

/-- An operation is done: its value put, memory as told. -/
theorem InvK.put (c : Ctx E fr all sq D V OB S0 ρ0 w0 a0) {X X' : Nat → Prop} {k k' : Nat} {ρ ρ1 : Rn} {a : Act} {w w1 : World} (i : InvK E fr all sq D V OB S0 ρ0 w0 a0 X k ρ a w) (hc : Closed all X) {j : Nat} {o : Oper} (hj : all[j]? = some o) (hn : ¬ X j) (hX' : ∀ i, X' i ↔ X i ∨ i = j)
    (hk' : k' ≤ all.size) (he' : ∀ e o, all[e]? = some o → clsOf E o.op = .eff → (X' e ↔ e < k')) {R : Value} (m1 : Mem (SX all sq S0 X') ρ1 (hX E all sq D OB X' k') w1) (v1 : Vl (SX all sq S0 X') ρ1 (V j) R) (hag : AgreeOn (SX all sq S0 X) ρ ρ1)
    (kp : Kept ρ (hX E all sq D OB X k) w w1) (ft : FootIn ρ (hX E all sq D OB X k) w ρ1 (hX E all sq D OB X' k')) (hout : ∀ id, id < (sq 0).h.nx ∨ (sq all.size).h.nx ≤ id → ρ1.s id = ρ.s id ∧ ρ1.g id = ρ.g id) :
    InvK E fr all sq D V OB S0 ρ0 w0 a0 X' k' ρ1 (a.put o.dst R) w1 := by
  obtain ⟨oi, _, _, _, _, f⟩ := c.q.fact j o hj
  refine ⟨hk', he', m1, ?_, i.kept.trans i.foot kp, i.foot.trans i.kept.size ft, fun id hi => ?_, (put_defers _ _ _).trans i.defers⟩
  · have t1 := i.tm.to hag (SX_mono (X' := X') fun i h => (hX' i).2 (.inl h))
    have hf : ∀ u, fXn all (tget (sq 0).tm) V X' all.size u = if o.dst = some u then V j else fXn all (tget (sq 0).tm) V X all.size u := fX_put c.sp hc hj hn hX'
    cases hd : o.dst with
    | none =>
      have : fXn all (tget (sq 0).tm) V X' all.size = fXn all (tget (sq 0).tm) V X all.size := by funext u; rw [hf, hd]; simp
      rw [this]; exact t1
    | some d =>
      refine t1.set v1 (f.dst d hd) fun u => ?_
      rw [hf, hd]
      simp [eq_comm]
  · obtain ⟨h1, h2⟩ := hout id hi
    obtain ⟨h3, h4⟩ := i.out id hi
    exact ⟨h1.trans h3, h2.trans h4⟩

theorem Mem.more {S S' : Sc} {ρ : Rn} {h : LH} {w : World} (m : Mem S ρ h w) (hs : ∀ id, S id → S' id) : Mem S' ρ h w := fun ρ' ag => m ρ' fun id hi => ag id (hs id hi)

/-- Memory that has not changed. -/
theorem hX_same (q : DSeq E fr all sq D V) (ha : ∀ i, AlcFact E all sq D V i (OB i)) {X X' : Nat → Prop} {k k' : Nat} (hb : (sq k').h.bs = (sq k).h.bs) (hXX : ∀ i, Flo E all D i → (X' i ↔ X i)) (hI : ∀ i, Ins E all D i k' ↔ Ins E all D i k) (id : Nat) :
    (hX E all sq D OB X' k').bs.get id = (hX E all sq D OB X k).bs.get id := by
  by_cases hf : ∃ i, X i ∧ Flo E all D i ∧ ¬ Ins E all D i k ∧ id = (sq i).h.nx
  · obtain ⟨i, h1, h2, h3, rfl⟩ := hf
    rw [hX_some q ha h1 h2 h3, hX_some q ha ((hXX i h2).2 h1) h2 fun h => h3 ((hI i).1 h)]
  · rw [hX_none fun i h1 h2 h3 e => hf ⟨i, h1, h2, h3, e⟩, hX_none fun i h1 h2 h3 e => hf ⟨i, (hXX i h2).1 h1, h2, fun h => h3 ((hI i).2 h), e⟩, hb]

/-- Memory as it was, but for a step in a part of it that gives nothing away. -/
theorem InvK.quiet (c : Ctx E fr all sq D V OB S0 ρ0 w0 a0) {X X' : Nat → Prop} {k k' : Nat} {ρ ρ1 : Rn} {a : Act} {w w1 : World} (i : InvK E fr all sq D V OB S0 ρ0 w0 a0 X k ρ a w) (hc : Closed all X) {j : Nat} {o : Oper} (hj : all[j]? = some o) (hn : ¬ X j) (hX' : ∀ i, X' i ↔ X i ∨ i = j)
    (hk' : k' ≤ all.size) (he' : ∀ e o, all[e]? = some o → clsOf E o.op = .eff → (X' e ↔ e < k')) (hsame : ∀ id, (hX E all sq D OB X' k').bs.get id = (hX E all sq D OB X k).bs.get id)
    {R : Value} (m1 : Mem (SX all sq S0 X) ρ1 (hX E all sq D OB X k) w1) (v1 : Vl (SX all sq S0 X) ρ1 (V j) R) (hag : ∀ id, ρ1.s id = ρ.s id ∧ ρ1.g id = ρ.g id)
    (kp : Kept ρ (hX E all sq D OB X k) w w1) (ft : FootIn ρ (hX E all sq D OB X k) w ρ1 (hX E all sq D OB X k)) : InvK E fr all sq D V OB S0 ρ0 w0 a0 X' k' ρ1 (a.put o.dst R) w1 := by
  have hSX : ∀ id, SX all sq S0 X id → SX all sq S0 X' id := SX_mono fun i h => (hX' i).2 (.inl h)
  refine i.put c hc hj hn hX' hk' he' ((m1.sub fun id o ho _ => by rw [← hsame]; exact ho).more hSX) (v1.to (AgreeOn.refl _ _) hSX) (fun id _ => hag id) kp ?_ fun id _ => hag id
  rintro b ⟨id, o, ho, hl, hr, e⟩
  rw [hsame] at ho
  exact ft b ⟨id, o, ho, hl, by rw [hX_ro c.q hk'] at hr; rw [hX_ro c.q i.le]; exact hr, e⟩

/-- A step in a part of memory that leaves that part as it is. -/
theorem still_step {r : Operand → LV} {o : Oper} {hs hX h' : LH} {pa : Path} {v : LV} {S : Sc} {ρ : Rn} {w : World} {a : Act} (hos : OSound E r o hs pa v h') (hh : h' = hs) (m : Mem S ρ hX w) (ro : hs.ro = hX.ro) (sub : ∀ id o, hs.bs.get id = some o → o.live = true → hX.bs.get id = some o)
    (t : ∀ x, Vl S ρ (r x) (a.eval x)) (fr : Fresh S hs hs) :
    ∃ ρ1 R w1, ((execOp a.eval o).run E.P w = .ok (.value R) w1 ∨ ((execOp a.eval o).run E.P w = .ok .skip w1 ∧ R = undef)) ∧ Mem S ρ1 hX w1 ∧ Vl S ρ1 v R ∧ (∀ id, ρ1.s id = ρ.s id ∧ ρ1.g id = ρ.g id) ∧ Kept ρ hX w w1 ∧ FootIn ρ hX w ρ1 hX := by
  subst hh
  obtain ⟨ρ1, R, w1, hr, m1, v1, e1⟩ := op_step hos (m.sub sub) t fun h => by omega
  obtain ⟨m2, k2, f2⟩ := m.frame (hY := hX) ro sub m1 e1 (Stp.refl _) fr (fun id o ho hl => by
    by_cases hlv : LiveAt h' id
    · obtain ⟨o2, ho2, hl2⟩ := hlv
      have := sub id o2 ho2 hl2
      rw [ho] at this
      cases this
      exact .inl ho2
    · exact .inr ⟨ho, hlv⟩) ro.symm
  rw [grow_self] at m2 v1
  exact ⟨ρ1, R, w1, hr, m2, v1, fun id => e1.agree id (by omega), k2, f2⟩
end
end Go.Ev

/- Regions that draw their order: one step, whichever comes next. -/
namespace Go.Ev
open Go

section
variable {E : Env} {fr : Fr} {all : Array Oper} {sq : Nat → St} {D : Nat → Bool} {V : Nat → LV} {OB : Nat → LO} {S0 : Sc} {ρ0 : Rn} {w0 : World} {a0 : Act}

/-- No effect between the last one that has run and one that is ready. -/
theorem InvK.gap (c : Ctx E fr all sq D V OB S0 ρ0 w0 a0) {X : Nat → Prop} {k : Nat} {ρ : Rn} {a : Act} {w : World} (i : InvK E fr all sq D V OB S0 ρ0 w0 a0 X k ρ a w) {j : Nat} {o : Oper} (hj : all[j]? = some o) (hm : ∀ i, bit all j i = true → X i) (hef : clsOf E o.op = .eff) (hn : ¬ X j) :
    k ≤ j ∧ ∀ e p, k ≤ e → e < j → all[e]? = some p → clsOf E p.op ≠ .eff := by
  have hkj : k ≤ j := by
    apply Nat.le_of_not_lt
    intro h
    exact hn ((i.eff j o hj hef).2 h)
  refine ⟨hkj, fun e p h1 h2 hp he => ?_⟩
  rcases c.sp.apart e j p o hp hj h2 with h | ⟨h, _⟩
  · have := (i.eff e p hp he).1 (hm e h)
    omega
  · exact h ⟨isEff_iff.2 hef, isEff_iff.2 he⟩

/-- The next set of effects, where no effect was run. -/
theorem InvK.effs {X X' : Nat → Prop} {k : Nat} {ρ : Rn} {a : Act} {w : World} (i : InvK E fr all sq D V OB S0 ρ0 w0 a0 X k ρ a w) {j : Nat} {o : Oper} (hj : all[j]? = some o) (hne : clsOf E o.op ≠ .eff) (hX' : ∀ i, X' i ↔ X i ∨ i = j) :
    ∀ e p, all[e]? = some p → clsOf E p.op = .eff → (X' e ↔ e < k) := by
  intro e p hp he
  rw [hX', ← i.eff e p hp he]
  constructor
  · rintro (h | h)
    · exact h
    · subst h; rw [hj] at hp; cases hp; exact absurd he hne
  · exact .inl

/-- What a ready operation's operands hold. -/
theorem InvK.opnds (c : Ctx E fr all sq D V OB S0 ρ0 w0 a0) {X : Nat → Prop} (hc : Closed all X) {j : Nat} {o : Oper} (hj : all[j]? = some o) (hn : ¬ X j) (hm : ∀ i, bit all j i = true → X i) :
    (∀ x ∈ o.op.operands, rhoF (fXn all (tget (sq 0).tm) V X all.size) x = rho (sq j).tm x) ∧ ∀ u ∈ Oper.looksAt all o, fXn all (tget (sq 0).tm) V X all.size u = tget (sq j).tm u := by
  have h2 : ∀ u ∈ Oper.looksAt all o, fXn all (tget (sq 0).tm) V X all.size u = tget (sq j).tm u := fun u hu => fX_names c.q c.sp hc hj hn hm (List.mem_append_right _ hu)
  refine ⟨fun x hx => ?_, h2⟩
  rw [rho_F]
  cases x with
  | tmp u => exact h2 u (List.mem_append_left _ (List.mem_filterMap.2 ⟨.tmp u, by simpa using hx, rfl⟩))
  | const v => rfl
  | global g => rfl
  | func f => rfl

theorem InvK.want (c : Ctx E fr all sq D V OB S0 ρ0 w0 a0) {X : Nat → Prop} {k : Nat} {ρ : Rn} {a : Act} {w : World} (i : InvK E fr all sq D V OB S0 ρ0 w0 a0 X k ρ a w) (hc : Closed all X) {j : Nat} {o : Oper} (hj : all[j]? = some o) (hn : ¬ X j) (hm : ∀ i, bit all j i = true → X i) :
    Region.wanted o (yielded all a.tmps) = D j := by
  obtain ⟨oi, _, _, _, _, f⟩ := c.q.fact j o hj
  exact f.want _ _ _ a _ i.tm (InvK.opnds c hc hj hn hm).2

theorem evO_ndefer {r : Operand → LV} {o : Oper} {h h' : LH} {pa pa' : Path} {v : LV} {b : Bool} (hx : evO E r o h pa = .val v h' pa' b) : ∀ c, o.op ≠ .defer c := evO_defer (by rw [hx]; intro e; cases e)

/-- A run that comes to a value, in the calculus. -/
theorem wpIn_value {o : Oper} {a : Act} {w w1 : World} {R : Value} {ro : Option Nat} {K : Act → World → Prop} {Q : Exit → Act → World → Prop} (hd : ∀ c, o.op ≠ .defer c)
    (hr : (execOp a.eval o).run E.P w = .ok (.value R) w1 ∨ ((execOp a.eval o).run E.P w = .ok .skip w1 ∧ R = undef)) (hK : K (a.put o.dst R) w1) : o.wpIn (Fw ro) 0 E.P a w K Q := by
  refine ⟨fun f _ => trivial, ?_⟩
  rw [Oper.semAt_eq _ _ _ hd]
  rcases hr with hr | ⟨hr, rfl⟩
  · rw [hr]; exact hK
  · rw [hr]; exact hK

/-- A step of a value reckoned in a part of memory that it leaves as it is. -/
theorem InvK.still (c : Ctx E fr all sq D V OB S0 ρ0 w0 a0) {X X' : Nat → Prop} {k : Nat} {ρ : Rn} {a : Act} {w : World} (i : InvK E fr all sq D V OB S0 ρ0 w0 a0 X k ρ a w) (hc : Closed all X) {j : Nat} {o : Oper} (hj : all[j]? = some o) (hn : ¬ X j) (hm : ∀ i, bit all j i = true → X i)
    (hX' : ∀ i, X' i ↔ X i ∨ i = j) (hcl : clsOf E o.op = .pur ∨ clsOf E o.op = .lod) {hs h' : LH} {pa pa' : Path} (hev : evO E (rho (sq j).tm) o hs pa = .val (V j) h' pa' true) (hp : pa'.as = true) (ro' : hs.ro = (sq 0).h.ro)
    (sub : ∀ id ob, hs.bs.get id = some ob → ob.live = true → (hX E all sq D OB X k).bs.get id = some ob) (fr' : Fresh (SX all sq S0 X) hs hs) {ro : Option Nat} {K : Act → World → Prop} {Q : Exit → Act → World → Prop}
    (hK : ∀ k' ρ' a' w', InvK E fr all sq D V OB S0 ρ0 w0 a0 X' k' ρ' a' w' → K a' w') : o.wpIn (Fw ro) 0 E.P a w K Q := by
  have hop := (InvK.opnds c hc hj hn hm).1
  have hev' := (evO_congr o hs pa hop).trans hev
  have hos := evO_sound c.hE c.hX hev' rfl hp
  have hh : h' = hs := by
    have := evO_same (E := E) (ρ := rho (sq j).tm) (h := hs) (pa := pa) hcl
    rw [hev] at this; exact this
  obtain ⟨ρ1, R, w1, hr, m1, v1, hag, kp, ft⟩ := still_step hos hh i.mem (ro'.trans (hX_ro c.q i.le).symm) sub (Vl.of i.mem i.tm) fr'
  have hne : clsOf E o.op ≠ .eff := by rcases hcl with h | h <;> rw [h] <;> intro e <;> cases e
  have hna : clsOf E o.op ≠ .alc := by rcases hcl with h | h <;> rw [h] <;> intro e <;> cases e
  refine wpIn_value (evO_ndefer hev) hr (hK k ρ1 _ w1 (i.quiet c hc hj hn hX' i.le (i.effs hj hne hX') (fun id => hX_same c.q c.ha rfl (fun i' hf => ?_) (fun _ => Iff.rfl) id) m1 v1 hag kp ft))
  rw [hX']
  constructor
  · rintro (h | h)
    · exact h
    · subst h
      obtain ⟨o', ho', _, h'⟩ := hf
      rw [hj] at ho'; cases ho'
      exact absurd h' hna
  · exact .inl

/-- An operation that is not wanted, and no effect. -/
theorem InvK.skip (c : Ctx E fr all sq D V OB S0 ρ0 w0 a0) {X X' : Nat → Prop} {k : Nat} {ρ : Rn} {a : Act} {w : World} (i : InvK E fr all sq D V OB S0 ρ0 w0 a0 X k ρ a w) (hc : Closed all X) {j : Nat} {o : Oper} (hj : all[j]? = some o) (hn : ¬ X j)
    (hX' : ∀ i, X' i ↔ X i ∨ i = j) (hne : clsOf E o.op ≠ .eff) (hd : D j = false) : InvK E fr all sq D V OB S0 ρ0 w0 a0 X' k ρ (a.put o.dst undef) w := by
  obtain ⟨oi, _, _, _, _, f⟩ := c.q.fact j o hj
  have hv : V j = undefL := (f.no hd).1
  refine i.quiet c hc hj hn hX' i.le (i.effs hj hne hX') (fun id => hX_same c.q c.ha rfl (fun i' hf => ?_) (fun _ => Iff.rfl) id) i.mem (by rw [hv]; exact fun ρ' _ => undefL_real ρ') (fun _ => ⟨rfl, rfl⟩) (Kept.refl _ _ _) (FootIn.refl _ _ _)
  rw [hX']
  constructor
  · rintro (h | h)
    · exact h
    · subst h
      obtain ⟨_, _, h', _⟩ := hf
      rw [hd] at h'; cases h'
  · exact .inl

/-- The next set of effects, where one was run. -/
theorem InvK.effs1 (c : Ctx E fr all sq D V OB S0 ρ0 w0 a0) {X X' : Nat → Prop} {k : Nat} {ρ : Rn} {a : Act} {w : World} (i : InvK E fr all sq D V OB S0 ρ0 w0 a0 X k ρ a w) {j : Nat} {o : Oper} (hj : all[j]? = some o) (hef : clsOf E o.op = .eff) (hn : ¬ X j) (hm : ∀ i, bit all j i = true → X i) (hX' : ∀ i, X' i ↔ X i ∨ i = j) :
    ∀ e p, all[e]? = some p → clsOf E p.op = .eff → (X' e ↔ e < j + 1) := by
  obtain ⟨hkj, hno⟩ := i.gap c hj hm hef hn
  intro e p hp he
  rw [hX', i.eff e p hp he]
  constructor
  · rintro (h | h) <;> omega
  · intro h
    by_cases h1 : e = j
    · exact .inr h1
    · left
      apply Nat.lt_of_not_le
      intro h2
      exact hno e p h2 (by omega) hp he

theorem InvK.ahead (c : Ctx E fr all sq D V OB S0 ρ0 w0 a0) {X : Nat → Prop} {k : Nat} {ρ : Rn} {a : Act} {w : World} (i : InvK E fr all sq D V OB S0 ρ0 w0 a0 X k ρ a w) {j : Nat} {o : Oper} (hj : all[j]? = some o) (hm : ∀ i, bit all j i = true → X i) (hef : clsOf E o.op = .eff) (hn : ¬ X j) :
    (sq j).h.bs = (sq k).h.bs ∧ ∀ i', Ins E all D i' j ↔ Ins E all D i' k := by
  obtain ⟨hkj, hno⟩ := i.gap c hj hm hef hn
  have hjl : j < all.size := (Array.getElem?_eq_some_iff.1 hj).1
  refine ⟨c.q.same hkj (by omega) fun e p h1 h2 hp h => hno e p h1 h2 hp (isEff_iff.1 h.2), fun i' => ⟨?_, fun h => h.mono hkj⟩⟩
  rintro ⟨e, p, he, hp, hd, hcl, hb⟩
  refine ⟨e, p, ?_, hp, hd, hcl, hb⟩
  apply Nat.lt_of_not_le
  intro h
  exact hno e p h he hp hcl

/-- An effect that is not wanted. -/
theorem InvK.skipEff (c : Ctx E fr all sq D V OB S0 ρ0 w0 a0) {X X' : Nat → Prop} {k : Nat} {ρ : Rn} {a : Act} {w : World} (i : InvK E fr all sq D V OB S0 ρ0 w0 a0 X k ρ a w) (hc : Closed all X) {j : Nat} {o : Oper} (hj : all[j]? = some o) (hn : ¬ X j) (hm : ∀ i, bit all j i = true → X i)
    (hX' : ∀ i, X' i ↔ X i ∨ i = j) (hef : clsOf E o.op = .eff) (hd : D j = false) : InvK E fr all sq D V OB S0 ρ0 w0 a0 X' (j + 1) ρ (a.put o.dst undef) w := by
  have hjl : j < all.size := (Array.getElem?_eq_some_iff.1 hj).1
  obtain ⟨oi, _, _, _, _, f⟩ := c.q.fact j o hj
  obtain ⟨hv, hh, _⟩ := f.no hd
  obtain ⟨hb, hI⟩ := i.ahead c hj hm hef hn
  refine i.quiet c hc hj hn hX' (by omega) (i.effs1 c hj hef hn hm hX') (fun id => hX_same c.q c.ha (by rw [hh, hb]) (fun i' hf => ?_) (fun i' => ?_) id) i.mem (by rw [hv]; exact fun ρ' _ => undefL_real ρ') (fun _ => ⟨rfl, rfl⟩) (Kept.refl _ _ _) (FootIn.refl _ _ _)
  · rw [hX']
    constructor
    · rintro (h | h)
      · exact h
      · subst h
        obtain ⟨_, _, h', _⟩ := hf
        rw [hd] at h'; cases h'
    · exact .inl
  · rw [← hI i']
    constructor
    · rintro ⟨e, p, he, hp, hde, r⟩
      have : e ≠ j := by rintro rfl; rw [hd] at hde; cases hde
      exact ⟨e, p, by omega, hp, hde, r⟩
    · exact fun h => h.mono (by omega)

/-- Numbers an operation gives away are given away by none that has run. -/
theorem Ctx.fresh (c : Ctx E fr all sq D V OB S0 ρ0 w0 a0) {X : Nat → Prop} {j : Nat} (hjl : j < all.size) (hn : ¬ X j) : ∀ id, SX all sq S0 X id → id < (sq j).h.nx ∨ (sq (j + 1)).h.nx ≤ id := by
  have n0 := c.q.nx_mono (i := 0) (j := j) (by omega) (by omega)
  have n1 := c.q.nx_mono (i := j + 1) (j := all.size) (by omega) (Nat.le_refl _)
  rintro id (hs | ⟨i, hi, hx, h1, h2⟩)
  · rcases c.f0.1 id hs with h | h <;> omega
  · by_cases h : id < (sq j).h.nx
    · exact .inl h
    · right
      apply Nat.le_of_not_lt
      intro h3
      have := nx_apart c.q hi hjl h1 h2 (by omega) h3
      exact hn (this ▸ hx)
theorem Ctx.roLe (c : Ctx E fr all sq D V OB S0 ρ0 w0 a0) {j : Nat} (hj : j ≤ all.size) : (sq j).h.ro ≤ (sq j).h.nx := by
  rw [c.q.ro hj]
  exact Nat.le_trans c.f0.2 (c.q.nx_mono (i := 0) (j := j) (by omega) hj)
theorem grow_SX {X X' : Nat → Prop} {j : Nat} (hjl : j < all.size) (hX' : ∀ i, X' i ↔ X i ∨ i = j) : ∀ id, grow (SX all sq S0 X) (sq j).h.nx (sq (j + 1)).h.nx id → SX all sq S0 X' id := by
  rintro id (h | h)
  · exact SX_mono (fun i h => (hX' i).2 (.inl h)) id h
  · exact .inr ⟨j, hjl, (hX' j).2 (.inr rfl), h.1, h.2⟩

/-- A block is laid beside the chain. -/
theorem InvK.lay (c : Ctx E fr all sq D V OB S0 ρ0 w0 a0) {X X' : Nat → Prop} {k : Nat} {ρ : Rn} {a : Act} {w : World} (i : InvK E fr all sq D V OB S0 ρ0 w0 a0 X k ρ a w) (hc : Closed all X) {j : Nat} {o : Oper} (hj : all[j]? = some o) (hn : ¬ X j) (hm : ∀ i, bit all j i = true → X i)
    (hX' : ∀ i, X' i ↔ X i ∨ i = j) (hcl : clsOf E o.op = .alc) (hd : D j = true) {ro : Option Nat} {K : Act → World → Prop} {Q : Exit → Act → World → Prop}
    (hK : ∀ k' ρ' a' w', InvK E fr all sq D V OB S0 ρ0 w0 a0 X' k' ρ' a' w' → K a' w') : o.wpIn (Fw ro) 0 E.P a w K Q := by
  have hjl : j < all.size := (Array.getElem?_eq_some_iff.1 hj).1
  obtain ⟨⟨pa, pa', h', hev, hp, hob, hnx⟩, hsq, _⟩ := c.ha j o hj hd hcl
  have hev' := (evO_congr o _ pa (InvK.opnds c hc hj hn hm).1).trans hev
  have hos := evO_sound c.hE c.hX hev' rfl hp
  have hnx1 : (sq (j + 1)).h.nx = (sq j).h.nx + 1 := by rw [hsq]
  have hfr := c.fresh hjl hn
  have hst : Stp ⟨.leaf, (sq j).h.nx, (sq j).h.ro⟩ h' := by
    have := evO_stp (E := E) (ρ := rho (sq j).tm) (o := o) (h := ⟨.leaf, (sq j).h.nx, (sq j).h.ro⟩) (pa := pa)
    rw [hev] at this; exact this
  have hF : Fresh (SX all sq S0 X) ⟨.leaf, (sq j).h.nx, (sq j).h.ro⟩ h' := ⟨fun id hi => by
    have := hfr id hi
    simp only
    omega, c.roLe (by omega)⟩
  have hsub : ∀ id ob, (⟨.leaf, (sq j).h.nx, (sq j).h.ro⟩ : LH).bs.get id = some ob → ob.live = true → (hX E all sq D OB X k).bs.get id = some ob := fun id ob h => by
    have : (Tr.leaf : Tr LO).get id = some ob := h
    rw [Tr.get_leaf] at this; cases this
  obtain ⟨ρ1, R, w1, hr, m1, v1, e1⟩ := op_step hos (i.mem.sub hsub) (Vl.of i.mem i.tm) fun _ hs => by
    rcases hfr _ hs with h | h
    · exact Nat.lt_irrefl _ h
    · simp only at h; omega
  have hro : (⟨.leaf, (sq j).h.nx, (sq j).h.ro⟩ : LH).ro = (hX E all sq D OB X k).ro := by
    rw [hX_ro c.q i.le]; exact c.q.ro (by omega)
  have hnI : ¬ Ins E all D j k := by
    rintro ⟨e, p, he, hpe, _, hce, hb⟩
    exact hn (hc e j ((i.eff e p hpe hce).2 he) hb)
  obtain ⟨m2, k2, f2⟩ := i.mem.frame (hY := hX E all sq D OB X' k) hro hsub m1 e1 hst hF (fun id ob ho hl => by
    rcases hX_cases c.q c.ha ho with ⟨i', g1, g2, g3, rfl, rfl⟩ | ⟨g1, g2⟩
    · rcases (hX' i').1 g1 with g | rfl
      · exact .inr ⟨hX_some c.q c.ha g g2 g3, fun ⟨ob', h, _⟩ => by
          have : (Tr.leaf : Tr LO).get (sq i').h.nx = some ob' := h
          rw [Tr.get_leaf] at this; cases this⟩
      · exact .inl hob
    · refine .inr ⟨?_, fun ⟨ob', h, _⟩ => by
        have : (Tr.leaf : Tr LO).get id = some ob' := h
        rw [Tr.get_leaf] at this; cases this⟩
      rw [hX_none fun i' g3 g4 g5 => g1 i' ((hX' i').2 (.inl g3)) g4 g5]; exact g2) (by rw [hX_ro c.q i.le, hst.ro]; exact (c.q.ro (by omega)).symm)
  have hgr : ∀ id, grow (SX all sq S0 X) (sq j).h.nx h'.nx id → SX all sq S0 X' id := by
    rw [hnx, ← hnx1]; exact grow_SX hjl hX'
  have hne : clsOf E o.op ≠ .eff := by rw [hcl]; intro e; cases e
  refine wpIn_value (evO_ndefer hev) hr (hK k ρ1 _ w1 (i.put c hc hj hn hX' i.le (i.effs hj hne hX') (m2.more hgr) (v1.to (AgreeOn.refl _ _) hgr) (hF.on e1) k2 f2 fun id hi => e1.agree id ?_))
  have n0 := c.q.nx_mono (i := 0) (j := j) (by omega) (by omega)
  have n1 := c.q.nx_mono (i := j + 1) (j := all.size) (by omega) (Nat.le_refl _)
  simp only
  omega
end
end Go.Ev

/- Regions that draw their order: effects, readings; all orders. -/
namespace Go.Ev
open Go

section
variable {E : Env} {fr : Fr} {all : Array Oper} {sq : Nat → St} {D : Nat → Bool} {V : Nat → LV} {OB : Nat → LO} {S0 : Sc} {ρ0 : Rn} {w0 : World} {a0 : Act}

/-- What lives in the chain's memory stands in that of a set. -/
theorem Ctx.chain (c : Ctx E fr all sq D V OB S0 ρ0 w0 a0) {X : Nat → Prop} {k id : Nat} {ob : LO} (hk : k ≤ all.size) (h : (sq k).h.bs.get id = some ob) (hl : ob.live = true) : (Go.Ev.hX E all sq D OB X k).bs.get id = some ob := by
  rw [hX_none fun i _ g2 g3 e => flo_dead c.q c.sp c.ha c.fl0 c.m0 c.f0 g2 g3 hk ⟨ob, e ▸ h, hl⟩]; exact h

/-- An effect. -/
theorem InvK.effect (c : Ctx E fr all sq D V OB S0 ρ0 w0 a0) {X X' : Nat → Prop} {k : Nat} {ρ : Rn} {a : Act} {w : World} (i : InvK E fr all sq D V OB S0 ρ0 w0 a0 X k ρ a w) (hc : Closed all X) {j : Nat} {o : Oper} (hj : all[j]? = some o) (hn : ¬ X j) (hm : ∀ i, bit all j i = true → X i)
    (hX' : ∀ i, X' i ↔ X i ∨ i = j) (hef : clsOf E o.op = .eff) (hd : D j = true) {ro : Option Nat} {K : Act → World → Prop} {Q : Exit → Act → World → Prop}
    (hK : ∀ k' ρ' a' w', InvK E fr all sq D V OB S0 ρ0 w0 a0 X' k' ρ' a' w' → K a' w') : o.wpIn (Fw ro) 0 E.P a w K Q := by
  have hjl : j < all.size := (Array.getElem?_eq_some_iff.1 hj).1
  obtain ⟨oi, hoc, hmk, _, _, f⟩ := c.q.fact j o hj
  obtain ⟨hst, hsteps, _⟩ := f.eff hd (hoc.trans hef)
  obtain ⟨hb, hI⟩ := i.ahead c hj hm hef hn
  have hop := (InvK.opnds c hc hj hn hm).1
  have hnxs : (insL (sq j).h (splitFl oi.mask (sq j).fl).1).nx = (sq j).h.nx := insL_nx _ _
  have hros : (insL (sq j).h (splitFl oi.mask (sq j).fl).1).ro = (sq 0).h.ro := (insL_ro _ _).trans (c.q.ro (by omega))
  have hnF : ¬ Flo E all D j := fun ⟨o', ho', _, h'⟩ => by rw [hj] at ho'; cases ho'; rw [hef] at h'; cases h'
  have fls : ∀ f ∈ (splitFl oi.mask (sq j).fl).1, ∃ i', X i' ∧ Flo E all D i' ∧ ¬ Ins E all D i' k ∧ bit all j i' = true ∧ f = (i', (sq i').h.nx, OB i') := by
    intro f hf
    simp only [splitFl, List.mem_filter, hmk] at hf
    obtain ⟨i', h1, h2, h3, rfl⟩ := (c.q.floats c.sp c.ha c.fl0 j (by omega) f).1 hf.1
    exact ⟨i', hm i' hf.2, h2, fun h => h3 ((hI i').2 h), hf.2, rfl⟩
  have sub : ∀ id ob, (insL (sq j).h (splitFl oi.mask (sq j).fl).1).bs.get id = some ob → ob.live = true → (hX E all sq D OB X k).bs.get id = some ob := by
    intro id ob ho hl
    by_cases hf : ∃ f ∈ (splitFl oi.mask (sq j).fl).1, f.2.1 = id
    · obtain ⟨f, hf, he⟩ := hf
      have h0 := fls f hf
      obtain ⟨i', h1, h2, h3, h4, h5⟩ := h0
      have hid : id = (sq i').h.nx := by rw [← he, h5]
      have : (insL (sq j).h (splitFl oi.mask (sq j).fl).1).bs.get id = some (OB i') := insL_some _ _ _ _ (fun f2 hf2 he2 => by
        obtain ⟨i2, _, g2, _, _, rfl⟩ := fls f2 hf2
        have : i2 = i' := flo_inj c.q c.ha g2 h2 (he2.trans hid)
        rw [this]) (.inl ⟨f, hf, he⟩)
      rw [this] at ho
      cases ho
      rw [hid]
      exact hX_some c.q c.ha h1 h2 h3
    · rw [insL_none _ _ _ fun f h1 h2 => hf ⟨f, h1, h2⟩, hb] at ho
      exact c.chain i.le ho hl
  have hF : Fresh (SX all sq S0 X) (insL (sq j).h (splitFl oi.mask (sq j).fl).1) (sq (j + 1)).h := ⟨fun id hi => by
    rw [hnxs]; exact c.fresh hjl hn id hi, by
    rw [hnxs, insL_ro]; exact c.roLe (by omega)⟩
  have insS : ∀ i', Ins E all D i' k → Ins E all D i' (j + 1) := fun i' h => ((hI i').2 h).mono (by omega)
  have insJ : ∀ i', bit all j i' = true → Ins E all D i' (j + 1) := fun i' h => ⟨j, o, by omega, hj, hd, hef, h⟩
  refine hsteps _ hop (SX all sq S0 X) ρ w a ro K Q hF (i.mem.sub sub) (Vl.of i.mem i.tm) fun ρ1 R w1 m1 v1 e1 => ?_
  have hroX : (insL (sq j).h (splitFl oi.mask (sq j).fl).1).ro = (hX E all sq D OB X k).ro := by rw [hX_ro c.q i.le, hros]
  obtain ⟨m2, k2, f2⟩ := i.mem.frame (hY := hX E all sq D OB X' (j + 1)) hroX sub m1 e1 hst hF (fun id ob ho hl => by
    rcases hX_cases c.q c.ha ho with ⟨i', g1, g2, g3, rfl, rfl⟩ | ⟨g1, g2⟩
    · have hXi : X i' := ((hX' i').1 g1).resolve_right fun h => hnF (h ▸ g2)
      have hnk : ¬ Ins E all D i' k := fun h => g3 (insS i' h)
      refine .inr ⟨hX_some c.q c.ha hXi g2 hnk, fun hlv => ?_⟩
      rcases insL_live hlv with h | ⟨f, hf, hfe⟩
      · exact flo_dead c.q c.sp c.ha c.fl0 c.m0 c.f0 g2 (fun h => hnk ((hI i').1 h)) (by omega) h
      · obtain ⟨i2, _, q2, _, q4, rfl⟩ := fls f hf
        have : i2 = i' := flo_inj c.q c.ha q2 g2 hfe
        subst this
        exact g3 (insJ _ q4)
    · exact .inl g2) (by rw [hX_ro c.q (by omega)]; exact (c.q.ro (by omega)).symm)
  have hgr : ∀ id, grow (SX all sq S0 X) (insL (sq j).h (splitFl oi.mask (sq j).fl).1).nx (sq (j + 1)).h.nx id → SX all sq S0 X' id := by
    rw [hnxs]; exact grow_SX hjl hX'
  refine hK (j + 1) ρ1 _ w1 (i.put c hc hj hn hX' (by omega) (i.effs1 c hj hef hn hm hX') (m2.more hgr) (v1.to (AgreeOn.refl _ _) hgr) (hF.on e1) k2 f2 fun id hi => e1.agree id ?_)
  have n0 := c.q.nx_mono (i := 0) (j := j) (by omega) (by omega)
  have n1 := c.q.nx_mono (i := j + 1) (j := all.size) (by omega) (Nat.le_refl _)
  rw [hnxs]
  omega

theorem pk_le {i j : Nat} (_hij : i ≤ j) (hj : j ≤ all.size) : pk E all i ≤ pk E all j := by
  induction j with
  | zero => have : i = 0 := by omega
            subst this; exact Nat.le_refl _
  | succ j ih =>
    by_cases h : i = j + 1
    · subst h; exact Nat.le_refl _
    · have hjl : all[j]? = some all[j] := by simp
      have := pk_succ (E := E) hjl
      have := ih (by omega) (by omega)
      omega
theorem pk_same {i j : Nat} (_hij : i ≤ j) (hj : j ≤ all.size) (h : pk E all i = pk E all j) : ∀ e o, i ≤ e → e < j → all[e]? = some o → ¬ isEff (clsOf E o.op) = true := by
  intro e o h1 h2 ho he
  have := pk_succ (E := E) ho
  rw [if_pos he] at this
  have := pk_le (E := E) (all := all) h1 (by omega)
  have := pk_le (E := E) (all := all) (i := e + 1) (j := j) (by omega) hj
  omega

/-- A reading. -/
theorem InvK.read (c : Ctx E fr all sq D V OB S0 ρ0 w0 a0) {X X' : Nat → Prop} {k : Nat} {ρ : Rn} {a : Act} {w : World} (i : InvK E fr all sq D V OB S0 ρ0 w0 a0 X k ρ a w) (hc : Closed all X) {j : Nat} {o : Oper} (hj : all[j]? = some o) (hn : ¬ X j) (hm : ∀ i, bit all j i = true → X i)
    (hX' : ∀ i, X' i ↔ X i ∨ i = j) (hcl : clsOf E o.op = .lod) (hd : D j = true) {ro : Option Nat} {K : Act → World → Prop} {Q : Exit → Act → World → Prop}
    (hK : ∀ k' ρ' a' w', InvK E fr all sq D V OB S0 ρ0 w0 a0 X' k' ρ' a' w' → K a' w') : o.wpIn (Fw ro) 0 E.P a w K Q := by
  have hjl : j < all.size := (Array.getElem?_eq_some_iff.1 hj).1
  obtain ⟨hh, pa, pa', h', hbs, ⟨hro, hnx⟩, hev, hp⟩ := c.q.reads c.sp c.hs0 c.ag hj hd hcl i.le
    (lo_le fun i' o' ho' he hb => (i.eff i' o' ho' (isEff_iff.1 he)).1 (hm i' hb))
    (le_hi fun i' o' ho' he hlt => by
      cases hb : bit all i' j with
      | false => rfl
      | true => exact absurd (hc i' j ((i.eff i' o' ho' (isEff_iff.1 he)).2 hlt) hb) hn)
    (lo_le fun i' o' _ _ hb => bit_lt c.sp.back _ _ hb)
    (le_hi fun i' o' _ _ hlt => by
      cases hb : bit all i' j with
      | false => rfl
      | true => have := bit_lt c.sp.back _ _ hb; omega)
  have hbk : hh.bs = (sq k).h.bs := by
    rcases hbs with h | ⟨h1, h2⟩
    · exact h
    · rw [h2]
      rcases Nat.le_total k j with hkj | hkj
      · exact c.q.same hkj (by omega) fun e o h3 h4 ho h => pk_same hkj (by omega) h1 e o h3 h4 ho h.2
      · exact (c.q.same hkj i.le fun e o h3 h4 ho h => pk_same hkj i.le h1.symm e o h3 h4 ho h.2).symm
  refine i.still c hc hj hn hm hX' (.inr hcl) hev hp hro (fun id ob ho hl => c.chain i.le (by rw [← hbk]; exact ho) hl) ⟨fun id _ => by omega, ?_⟩ hK
  rw [hro]
  exact Nat.le_trans c.f0.2 hnx

/-- Whichever operation comes next. -/
theorem InvK.step (c : Ctx E fr all sq D V OB S0 ρ0 w0 a0) {X X' : Nat → Prop} {k : Nat} {ρ : Rn} {a : Act} {w : World} (i : InvK E fr all sq D V OB S0 ρ0 w0 a0 X k ρ a w) (hc : Closed all X) {j : Nat} {o : Oper} (hj : all[j]? = some o) (hn : ¬ X j) (hm : ∀ i, bit all j i = true → X i)
    (hX' : ∀ i, X' i ↔ X i ∨ i = j) {ro : Option Nat} {K : Act → World → Prop} {Q : Exit → Act → World → Prop}
    (hK : ∀ k' ρ' a' w', InvK E fr all sq D V OB S0 ρ0 w0 a0 X' k' ρ' a' w' → K a' w') : wpOpIn (Fw ro) 0 E.P all Q j K a w := by
  have hjl : j < all.size := (Array.getElem?_eq_some_iff.1 hj).1
  unfold wpOpIn
  simp only [hj, i.want c hc hj hn hm]
  cases hd : D j with
  | false =>
    simp only [Bool.false_eq_true, if_false]
    refine ⟨fun _ _ => trivial, ?_⟩
    by_cases hef : clsOf E o.op = .eff
    · exact hK _ _ _ _ (i.skipEff c hc hj hn hm hX' hef hd)
    · exact hK _ _ _ _ (i.skip c hc hj hn hX' hef hd)
  | true =>
    simp only [if_true]
    cases hcl : clsOf E o.op with
    | eff => exact i.effect c hc hj hn hm hX' hcl hd hK
    | alc => exact i.lay c hc hj hn hm hX' hcl hd hK
    | lod => exact i.read c hc hj hn hm hX' hcl hd hK
    | pur =>
      obtain ⟨oi, hoc, _, _, _, f⟩ := c.q.fact j o hj
      obtain ⟨pa, pa', h', hev, hp, _⟩ := f.pur hd (hoc.trans hcl)
      refine i.still c hc hj hn hm hX' (.inl hcl) hev hp (c.q.ro (by omega)) (fun id ob h => ?_) ⟨fun id _ => by simp only; omega, c.roLe (by omega)⟩ hK
      have : (Tr.leaf : Tr LO).get id = some ob := h
      rw [Tr.get_leaf] at this; cases this

/-- The operations that are listed. -/
def lX (listed : Array Bool) (i : Nat) : Prop := listed.getD i false = true

theorem fX_none {f0 : Nat → LV} {X : Nat → Prop} (hX : ∀ i, ¬ X i) : ∀ i u, fXn all f0 V X i u = f0 u := by
  intro i
  induction i with
  | zero => intro u; rfl
  | succ i ih => intro u; simp only [fXn]; rw [if_neg fun h => hX i h.1, ih]

theorem InvK.start (c : Ctx E fr all sq D V OB S0 ρ0 w0 a0) {X : Nat → Prop} (hnX : ∀ i, ¬ X i) : InvK E fr all sq D V OB S0 ρ0 w0 a0 X 0 ρ0 a0 w0 := by
  have e : ∀ id, (hX E all sq D OB X 0).bs.get id = (sq 0).h.bs.get id := fun id => hX_none fun i h => absurd h (hnX i)
  refine ⟨Nat.zero_le _, fun e o _ _ => ⟨fun h => absurd h (hnX e), fun h => by omega⟩, ?_, ?_, Kept.refl _ _ _, ?_, fun _ _ => ⟨rfl, rfl⟩, rfl⟩
  · exact (c.m0.sub fun id o ho _ => by rw [← e]; exact ho).more fun id h => .inl h
  · have := fX_none (all := all) (V := V) (f0 := tget (sq 0).tm) hnX all.size
    rw [show fXn all (tget (sq 0).tm) V X all.size = tget (sq 0).tm from funext this]
    exact c.t0.to (AgreeOn.refl _ _) fun id h => .inl h
  · rintro b ⟨id, o, ho, hl, hr, rfl⟩
    rw [e] at ho
    exact .inl ⟨id, o, ho, hl, by rw [hX_ro c.q (Nat.zero_le _)] at hr; exact hr, rfl⟩

/-- All that lives behind the run's last place stands in the memory of all operations. -/
theorem Ctx.final (c : Ctx E fr all sq D V OB S0 ρ0 w0 a0) {X : Nat → Prop} {k : Nat} {ρ : Rn} {a : Act} {w : World} (i : InvK E fr all sq D V OB S0 ρ0 w0 a0 X k ρ a w) (hall : ∀ i, i < all.size → X i) :
    ∀ id ob, (insL (sq all.size).h (sq all.size).fl).bs.get id = some ob → ob.live = true → (Go.Ev.hX E all sq D OB X k).bs.get id = some ob := by
  intro id ob ho hl
  have hb : (sq all.size).h.bs = (sq k).h.bs := c.q.same i.le (Nat.le_refl _) fun e o h1 h2 ho h => by
    have := (i.eff e o ho (isEff_iff.1 h.2)).1 (hall e h2)
    omega
  have fls : ∀ f ∈ (sq all.size).fl, ∃ i', X i' ∧ Flo E all D i' ∧ ¬ Ins E all D i' k ∧ f = (i', (sq i').h.nx, OB i') := by
    intro f hf
    obtain ⟨i', h1, h2, h3, rfl⟩ := (c.q.floats c.sp c.ha c.fl0 _ (Nat.le_refl _) f).1 hf
    exact ⟨i', hall i' h1, h2, fun h => h3 (h.mono i.le), rfl⟩
  by_cases hf : ∃ f ∈ (sq all.size).fl, f.2.1 = id
  · obtain ⟨f, hf, he⟩ := hf
    obtain ⟨i', h1, h2, h3, h5⟩ := fls f hf
    have hid : id = (sq i').h.nx := by rw [← he, h5]
    have : (insL (sq all.size).h (sq all.size).fl).bs.get id = some (OB i') := insL_some _ _ _ _ (fun f2 hf2 he2 => by
      obtain ⟨i2, _, g2, _, rfl⟩ := fls f2 hf2
      have : i2 = i' := flo_inj c.q c.ha g2 h2 (he2.trans hid)
      rw [this]) (.inl ⟨f, hf, he⟩)
    rw [this] at ho
    cases ho
    rw [hid]
    exact hX_some c.q c.ha h1 h2 h3
  · rw [insL_none _ _ _ fun f h1 h2 => hf ⟨f, h1, h2⟩, hb] at ho
    exact c.chain i.le ho hl

theorem any_ok (c : Ctx E fr all sq D V OB S0 ρ0 w0 a0) {ro : Option Nat} {Q : Exit → Act → World → Prop} (hQ : ∀ k X ρ a w, (∀ i, i < all.size → X i) → InvK E fr all sq D V OB S0 ρ0 w0 a0 X k ρ a w → Q .normal a w) :
    ∀ (fuel : Nat) (listed : Array Bool) (k : Nat) (ρ : Rn) (a : Act) (w : World), listed.size = all.size → listed.toList.count false = fuel →
      (∀ k o, lX listed k → all[k]? = some o → ∀ e ∈ o.after.toList, Region.binds .any e = true → lX listed e.on) → InvK E fr all sq D V OB S0 ρ0 w0 a0 (lX listed) k ρ a w →
      wpAnyIn (Fw ro) 0 E.P .any all Q fuel listed a w := by
  have lf : ∀ {listed : Array Bool} {i : Nat}, listed.getD i true = false → ∃ h : i < listed.size, listed[i] = false := by
    intro listed i h
    by_cases hi : i < listed.size
    · refine ⟨hi, ?_⟩
      simpa [Array.getD_eq_getD_getElem?, hi] using h
    · simp [Array.getD_eq_getD_getElem?, hi] at h
  have done : ∀ (listed : Array Bool), listed.size = all.size → Region.ready .any all listed = [] → ∀ i, i < all.size → lX listed i := by
    intro listed hs hr i
    induction i using Nat.strongRecOn with
    | _ i ih =>
      intro hi
      apply Classical.byContradiction
      intro hx
      have : i ∈ Region.ready .any all listed := by
        rw [mem_ready]
        have hil : all[i]? = some all[i] := by simp [hi]
        refine ⟨?_, _, hil, fun e he hb => ?_⟩
        · have h2 : i < listed.size := by omega
          simp only [lX, Array.getD_eq_getD_getElem?, h2, getElem?_pos, Option.getD_some] at hx ⊢
          simpa using hx
        · have := c.sp.back i _ hil e (by simpa using he) hb
          exact ih e.on this (by omega)
      rw [hr] at this
      cases this
  intro fuel
  induction fuel with
  | zero =>
    intro listed k ρ a w hs hf hcl i
    have hr : Region.ready .any all listed = [] := by
      rw [List.eq_nil_iff_forall_not_mem]
      intro j hj
      obtain ⟨h, _⟩ := mem_ready.1 hj
      obtain ⟨h1, h2⟩ := lf h
      have : false ∈ listed.toList := by rw [← h2]; simp
      rw [List.count_eq_zero] at hf
      exact hf this
    exact ⟨hr, hQ k _ ρ a w (done listed hs hr) i⟩
  | succ fuel ih =>
    intro listed k ρ a w hs hf hcl i
    refine ⟨fun hr => hQ k _ ρ a w (done listed hs hr) i, fun j hj => ?_⟩
    obtain ⟨hun, o, hjo, hall⟩ := mem_ready.1 hj
    obtain ⟨hjl, hjf⟩ := lf hun
    have hn : ¬ lX listed j := by simp [lX, Array.getD_eq_getD_getElem?, hjl, hjf]
    have hc : Closed all (lX listed) := fun x y hx hb => bit_closed c.sp.back x hcl (fun o' ho' => hcl x o' hx ho') y hb
    have hm : ∀ y, bit all j y = true → lX listed y := fun y hb => bit_closed c.sp.back j hcl (fun o' ho' e he hbe => by
      rw [hjo] at ho'; cases ho'
      exact hall e (by simpa using he) hbe) y hb
    have hX' : ∀ y, lX (listed.setIfInBounds j true) y ↔ lX listed y ∨ y = j := by
      intro y
      by_cases hy : y = j
      · subst hy; simp [lX, Array.getD_eq_getD_getElem?, hjl]
      · simp only [lX, Array.getD_eq_getD_getElem?]
        rw [Array.getElem?_setIfInBounds_ne (Ne.symm hy)]
        simp [hy]
    refine i.step c hc hjo hn hm hX' fun k' ρ' a' w' i' => ih _ k' ρ' a' w' (by simpa using hs) ?_ ?_ i'
    · simp only [Array.toList_setIfInBounds, List.count]
      rw [List.countP_set (by simpa using hjl)]
      have : listed.toList[j]'(by simpa using hjl) = false := by simpa using hjf
      rw [this]
      have h0 : List.countP (fun x => x == false) listed.toList = fuel + 1 := hf
      simp only [h0, beq_self_eq_true, if_true]
      rfl
    · intro x o' hx ho' e he hb
      rw [hX'] at hx ⊢
      rcases hx with hx | rfl
      · exact .inl (hcl x o' hx ho' e he hb)
      · rw [hjo] at ho'; cases ho'
        exact .inl (hall e (by simpa using he) hb)

/-- Regions that draw their order. -/
theorem draws_ok (hE : EnvBase E) (hX : ExtOk E) (hmix : E.P.follows .mixedOrders = true) : DrawsOk E := by
  intro md callF roundF hC hR β bad X fr all k tm h pa hXb hdr hx
  have sp := drawOk_spec hdr
  obtain ⟨s', pa', hag, hk, hrun⟩ := evDraw_inv hE hX hC hR hXb _ 0 tm h [] [h] [] pa hx
  refine ⟨s'.tm, insL s'.h s'.fl, pa', hk, fun hp => ?_⟩
  obtain ⟨p0, hr⟩ := hrun hp
  obtain ⟨sq, D, V, h0, hn, q⟩ := hr.dseq
  obtain ⟨OB, ha⟩ := q.alcs
  have e0 : (sq 0).h = h := by rw [h0]
  have fl0 : (sq 0).fl = [] := by rw [h0]
  have hs0 : (sq 0).hs = [(sq 0).h] := by rw [h0]
  have tm0 : (sq 0).tm = tm := by rw [h0]
  have hnx : h.nx ≤ s'.h.nx := by
    have := q.nx_mono (i := 0) (j := all.size) (by omega) (Nat.le_refl _)
    rwa [e0, hn] at this
  have hro : s'.h.ro = h.ro := by
    have := q.ro (j := all.size) (Nat.le_refl _)
    rwa [e0, hn] at this
  have hst : Stp h (insL s'.h s'.fl) := by
    refine ⟨by rw [insL_nx]; exact hnx, by rw [insL_ro]; exact hro, fun id hl => ?_⟩
    rw [insL_nx]
    have inF : ∀ i, Flo E all D i → h.nx ≤ (sq i).h.nx ∧ (sq i).h.nx < s'.h.nx := by
      intro i hi
      obtain ⟨h1, h2⟩ := flo_nx ha hi
      have n0 := q.nx_mono (i := 0) (j := i) (by omega) (by omega)
      have n1 := q.nx_mono (i := i + 1) (j := all.size) (by omega) (Nat.le_refl _)
      rw [e0] at n0
      rw [hn] at n1
      omega
    rw [← hn] at hl
    rcases insL_live hl with hl | ⟨f, hf, hfe⟩
    · rcases q.live sp ha fl0 _ (Nat.le_refl _) id hl with h1 | ⟨e, o, he, ho, _, _, h3, h4⟩ | ⟨i, h1, _, h3⟩
      · exact .inl (e0 ▸ h1)
      · right
        have hel : e < all.size := (Array.getElem?_eq_some_iff.1 ho).1
        have n0 := q.nx_mono (i := 0) (j := e) (by omega) (by omega)
        have n1 := q.nx_mono (i := e + 1) (j := all.size) (by omega) (Nat.le_refl _)
        rw [e0] at n0
        rw [hn] at n1
        omega
      · right; rw [h3]; exact inF i h1
    · obtain ⟨i, _, h2, _, rfl⟩ := (q.floats sp ha fl0 _ (Nat.le_refl _) f).1 hf
      right; rw [← hfe]; exact inF i h2
  refine ⟨p0, hst, fun S ρ w a ro Q id hF m t hg => wpIn_region_any hmix ?_⟩
  have c : Ctx E fr all sq D V OB S ρ { w with drawn := w.drawn + 1 } a := ⟨hE, hX, q, sp, ha, fl0, hs0, by rw [hn]; exact hag, by rw [e0]; exact fun ρ' ag => (m ρ' ag).heap rfl, by
      rw [e0, hn]
      exact ⟨fun id hi => by have := hF.1 id hi; rwa [insL_nx] at this, hF.2⟩, by rw [tm0]; exact t⟩
  have nX : ∀ i, ¬ lX (Array.replicate all.size false) i := by
    intro i hi
    by_cases h : i < all.size <;> simp [lX, Array.getD_eq_getD_getElem?, h] at hi
  refine any_ok c (fun k X ρ1 a1 w1 hall i => ?_) all.size _ 0 ρ a _ (by simp) (by simp) (fun x o hx => absurd hx (nX x)) (InvK.start c nX)
  have hfin := c.final i hall
  rw [hn] at hfin
  have hgr : ∀ id, SX all sq S X id → grow S h.nx (insL s'.h s'.fl).nx id := by
    rintro id (hs | ⟨j, hj, _, h1, h2⟩)
    · exact .inl hs
    · right
      have n0 := q.nx_mono (i := 0) (j := j) (by omega) (by omega)
      have n1 := q.nx_mono (i := j + 1) (j := all.size) (by omega) (Nat.le_refl _)
      rw [e0] at n0
      rw [hn] at n1
      rw [insL_nx]
      omega
  refine hg ρ1 a1 w1 ((i.mem.sub hfin).more hgr) ?_ ⟨hst.nx, hst.ro, fun id hi => i.out id (by rw [e0, hn]; rwa [insL_nx] at hi), ?_, ?_⟩ i.defers
  · have := fX_all q hall all.size (Nat.le_refl _)
    have e : fXn all (tget (sq 0).tm) V X all.size = tget s'.tm := by funext u; rw [this u, hn]
    have t1 := i.tm
    rw [e] at t1
    exact t1.to (AgreeOn.refl _ _) hgr
  · have := i.kept
    rw [e0] at this
    exact ⟨this.size, this.same, this.tape, this.os, this.output⟩
  · rintro b ⟨id, o, ho, hl, hr, e⟩
    have := i.foot b ⟨id, o, hfin id o ho hl, hl, by rw [hX_ro q i.le, e0]; rw [insL_ro, hro] at hr; exact hr, e⟩
    rw [e0] at this
    exact this

/-- A function's call, in whatever environment stands. -/
theorem evF_sound (hE : EnvOk E) (md : Bool) (n : Nat) : CallOk E (fun f args h pa => evF E md n f args h pa) := evF_ok hE (draws_ok hE.base hE.ext hE.mixed) n
end
end Go.Ev
