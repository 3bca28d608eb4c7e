/- An evaluator of translated Go code over logical memory, and its soundness (EvE). -/
import Derived.Test.YtfblhdiihlkmjaaGreatDoorEvD
/- Regions that draw their order: what the evaluator's run in the text's order tells. -/
namespace Go.Ev
open Go

section
variable {E : Env} {md : Bool} {callF : FuncId → List LV → LH → Path → CR} {roundF : Nat → List LV → LH → Path → CR}

noncomputable def insL (h : LH) : List Float → LH
  | [] => h
  | (_, id, o) :: fl => insL (h.set id o) fl
theorem insAll_eq {β : Type} : ∀ (fl : List Float) (h : LH) (k : LH → β), insAll h fl k = k (insL h fl) := by
  intro fl
  induction fl with
  | nil => intro h k; rfl
  | cons f fl ih => intro h k; obtain ⟨i, id, o⟩ := f; simp only [insAll, LH.put_eq, insL]; exact ih _ _
theorem insL_nx : ∀ (fl : List Float) (h : LH), (insL h fl).nx = h.nx := by
  intro fl
  induction fl with
  | nil => intro h; rfl
  | cons f fl ih => intro h; obtain ⟨i, id, o⟩ := f; simp only [insL]; rw [ih]; rfl
theorem insL_ro : ∀ (fl : List Float) (h : LH), (insL h fl).ro = h.ro := by
  intro fl
  induction fl with
  | nil => intro h; rfl
  | cons f fl ih => intro h; obtain ⟨i, id, o⟩ := f; simp only [insL]; rw [ih]; rfl
theorem insL_none : ∀ (fl : List Float) (h : LH) (id : Nat), (∀ f ∈ fl, f.2.1 ≠ id) → (insL h fl).bs.get id = h.bs.get id := by
  intro fl
  induction fl with
  | nil => intro h id _; rfl
  | cons f fl ih =>
    intro h id hn
    obtain ⟨i, id', o⟩ := f
    simp only [insL]
    rw [ih _ _ fun f hf => hn f (List.mem_cons_of_mem _ hf)]
    have : id' ≠ id := hn _ (List.mem_cons_self ..)
    simp [LH.set, Tr.get_set, Ne.symm this]
theorem insL_some : ∀ (fl : List Float) (h : LH) (id : Nat) (ob : LO), (∀ f ∈ fl, f.2.1 = id → f.2.2 = ob) → ((∃ f ∈ fl, f.2.1 = id) ∨ h.bs.get id = some ob) → (insL h fl).bs.get id = some ob := by
  intro fl
  induction fl with
  | nil =>
    intro h id ob _ hor
    rcases hor with ⟨f, hf, _⟩ | hor
    · cases hf
    · exact hor
  | cons f fl ih =>
    intro h id ob hall hor
    obtain ⟨i, id', o⟩ := f
    simp only [insL]
    refine ih _ _ _ (fun f hf => hall f (List.mem_cons_of_mem _ hf)) ?_
    by_cases he : id' = id
    · have : o = ob := hall (i, id', o) (List.mem_cons_self ..) he
      exact .inr (by simp [LH.set, Tr.get_set, he, this])
    · rcases hor with ⟨f, hf, hfe⟩ | hor
      · rcases List.mem_cons.1 hf with rfl | hf
        · exact absurd hfe he
        · exact .inl ⟨f, hf, hfe⟩
      · exact .inr (by simp [LH.set, Tr.get_set, Ne.symm he, hor])

/-- Where the run in the text's order stands. -/
structure St where
  tm : Tr LV
  h : LH
  fl : List Float
  hs : List LH
  ag : List Again

/-- What is told of one operation of the run. -/
structure DFact (E : Env) (fr : Fr) (all : Array Oper) (j : Nat) (o : Oper) (oi : OI) (s s' : St) (d : Bool) (v : LV) : Prop where
  want : ∀ (S : Sc) (ρ : Rn) (N : Nat) (a : Act) (f : Nat → LV), Tm S ρ f N a.tmps → (∀ u, u ∈ Oper.looksAt all o → f u = tget s.tm u) → Region.wanted o (yielded all a.tmps) = d
  dst : ∀ dd, o.dst = some dd → dd < fr.n
  put : ∀ u, tget s'.tm u = if o.dst = some u then v else tget s.tm u
  no : d = false → v = undefL ∧ s'.h = s.h ∧ s'.fl = s.fl ∧ s'.hs = (match oi.cls with
    | .eff => s.h :: s.hs
    | _ => s.hs) ∧ s'.ag = s.ag
  eff : d = true → oi.cls = .eff → Stp (insL s.h (splitFl oi.mask s.fl).1) s'.h ∧ Steps1 E o (rho s.tm) (insL s.h (splitFl oi.mask s.fl).1) v s'.h ∧ s'.fl = (splitFl oi.mask s.fl).2 ∧ s'.hs = s'.h :: s.hs ∧ s'.ag = s.ag
  alc : d = true → oi.cls = .alc → ∃ ob pa pa' h', evO E (rho s.tm) o ⟨.leaf, s.h.nx, s.h.ro⟩ pa = .val v h' pa' true ∧ pa'.as = true ∧ h'.bs.get s.h.nx = some ob ∧ h'.nx = s.h.nx + 1 ∧ s'.h = ⟨s.h.bs, s.h.nx + 1, s.h.ro⟩ ∧
    s'.fl = (j, s.h.nx, ob) :: s.fl ∧ s'.hs = s.hs ∧ s'.ag = s.ag
  lod : d = true → oi.cls = .lod → ∃ pa pa' h', evO E (rho s.tm) o s.h pa = .val v h' pa' true ∧ pa'.as = true ∧ s'.h = s.h ∧ s'.fl = s.fl ∧ s'.hs = s.hs ∧ s'.ag = (match Nat.blt oi.lo oi.hi with
    | true => ⟨o, s.tm, v, oi.lo, oi.hi⟩ :: s.ag
    | false => s.ag)
  pur : d = true → oi.cls = .pur → ∃ pa pa' h', evO E (rho s.tm) o ⟨.leaf, s.h.nx, s.h.ro⟩ pa = .val v h' pa' true ∧ pa'.as = true ∧ s'.h = s.h ∧ s'.fl = s.fl ∧ s'.hs = s.hs ∧ s'.ag = s.ag

/-- A run in the text's order. -/
inductive Run (E : Env) (fr : Fr) (all : Array Oper) : Nat → List (Oper × OI) → St → St → Prop
  | nil (i : Nat) (s : St) : Run E fr all i [] s s
  | cons {i : Nat} {o : Oper} {oi : OI} {rest : List (Oper × OI)} {s s1 s2 : St} {d : Bool} {v : LV} (f : DFact E fr all i o oi s s1 d v) (r : Run E fr all (i + 1) rest s1 s2) : Run E fr all i ((o, oi) :: rest) s s2

theorem evDraw_inv (hE : EnvBase E) (hX : ExtOk E) (hC : CallOk E callF) (hR : RoundOk E roundF) {β : Type} {bad X : β} {fr : Fr} {all : Array Oper} {k : Tr LV → LH → Path → β} (hXb : X ≠ bad) :
    ∀ (l : List (Oper × OI)) (i : Nat) (tm : Tr LV) (h : LH) (fl : List Float) (hs : List LH) (ag : List Again) (pa : Path), evDraw E md callF roundF bad fr all l i tm h fl hs ag pa k = X →
      ∃ s' pa', agains E s'.hs.reverse s'.ag = true ∧ k s'.tm (insL s'.h s'.fl) pa' = X ∧ (pa'.as = true → pa.as = true ∧ Run E fr all i l ⟨tm, h, fl, hs, ag⟩ s') := by
  intro l
  induction l with
  | nil =>
    intro i tm h fl hs ag pa hx
    unfold evDraw at hx
    split at hx
    · rename_i hag
      rw [insAll_eq] at hx
      exact ⟨⟨tm, h, fl, hs, ag⟩, pa, hag, hx, fun hp => ⟨hp, .nil _ _⟩⟩
    · exact absurd hx.symm hXb
  | cons oo rest ih =>
    obtain ⟨o, oi⟩ := oo
    intro i tm h fl hs ag pa hx
    unfold evDraw at hx
    simp only [evQ_eq] at hx
    obtain ⟨d, pa1, hx, hd⟩ := wants_inv hx hXb
    cases d
    · simp only at hx
      obtain ⟨tm1, pa2, hx, ht⟩ := tput_inv hx hXb
      obtain ⟨s', pa', h1, h2, h3⟩ := ih _ _ _ _ _ _ _ hx
      refine ⟨s', pa', h1, h2, fun hp => ?_⟩
      obtain ⟨p2, hr⟩ := h3 hp
      obtain ⟨p1, _, ht2, ht3⟩ := ht p2
      obtain ⟨p0, hw⟩ := hd p1
      refine ⟨p0, .cons (s1 := ⟨tm1, h, fl, (match oi.cls with
        | .eff => h :: hs
        | _ => hs), ag⟩) (d := false) (v := undefL) ⟨hw, ht2, ht3, fun _ => ⟨rfl, rfl, rfl, ?_, rfl⟩, fun h => (by cases h), fun h => (by cases h), fun h => (by cases h), fun h => (by cases h)⟩ hr⟩
      rfl
    · simp only at hx
      split at hx <;> rename_i hcls
      · rw [insAll_eq] at hx
        obtain ⟨v, h1, pa2, hx, hst⟩ := opStep_inv hE hX hC hR hx hXb
        obtain ⟨tm1, pa3, hx, ht⟩ := tput_inv hx hXb
        obtain ⟨s', pa', h1', h2, h3⟩ := ih _ _ _ _ _ _ _ hx
        refine ⟨s', pa', h1', h2, fun hp => ?_⟩
        obtain ⟨p3, hr⟩ := h3 hp
        obtain ⟨p2, _, ht2, ht3⟩ := ht p3
        obtain ⟨p1, hs1, hst⟩ := hst p2
        obtain ⟨p0, hw⟩ := hd p1
        refine ⟨p0, .cons (s1 := ⟨tm1, h1, (splitFl oi.mask fl).2, h1 :: hs, ag⟩) (d := true) (v := v) ⟨hw, ht2, ht3, fun h => (by cases h), fun _ _ => ?_, fun _ h => (by rw [hcls] at h; cases h), fun _ h => (by rw [hcls] at h; cases h), fun _ h => (by rw [hcls] at h; cases h)⟩ hr⟩
        exact ⟨hs1, hst, rfl, rfl, rfl⟩
      · split at hx
        · rename_i v h' pa2 c hev
          obtain ⟨pa3, hx, hc⟩ := chk_inv hx hXb
          split at hx
          · rename_i ob hob hnx
            obtain ⟨tm1, pa4, hx, ht⟩ := tput_inv hx hXb
            obtain ⟨s', pa', h1', h2, h3⟩ := ih _ _ _ _ _ _ _ hx
            refine ⟨s', pa', h1', h2, fun hp => ?_⟩
            obtain ⟨p4, hr⟩ := h3 hp
            obtain ⟨p3, _, ht2, ht3⟩ := ht p4
            obtain ⟨p2, rfl⟩ := hc p3
            have hnx' : h'.nx = h.nx + 1 := Nat.eq_of_beq_eq_true hnx
            have p1 : pa1.as = true := (evO_sound hE hX hev rfl p2).1
            obtain ⟨p0, hw⟩ := hd p1
            rw [hnx'] at hr
            exact ⟨p0, .cons (s1 := ⟨tm1, ⟨h.bs, h.nx + 1, h.ro⟩, (i, h.nx, ob) :: fl, hs, ag⟩) (d := true) (v := v) ⟨hw, ht2, ht3, fun h => (by cases h), fun _ h => (by rw [hcls] at h; cases h), fun _ _ => ⟨ob, pa1, pa2, h', hev, p2, hob, hnx', rfl, rfl, rfl, rfl⟩, fun _ h => (by rw [hcls] at h; cases h), fun _ h => (by rw [hcls] at h; cases h)⟩ hr⟩
          · exact absurd hx.symm hXb
        · exact absurd hx.symm hXb
      · split at hx
        · rename_i v h' pa2 c hev
          obtain ⟨pa3, hx, hc⟩ := chk_inv hx hXb
          obtain ⟨tm1, pa4, hx, ht⟩ := tput_inv hx hXb
          obtain ⟨s', pa', h1', h2, h3⟩ := ih _ _ _ _ _ _ _ hx
          refine ⟨s', pa', h1', h2, fun hp => ?_⟩
          obtain ⟨p4, hr⟩ := h3 hp
          obtain ⟨p3, _, ht2, ht3⟩ := ht p4
          obtain ⟨p2, rfl⟩ := hc p3
          have p1 : pa1.as = true := (evO_sound hE hX hev rfl p2).1
          obtain ⟨p0, hw⟩ := hd p1
          exact ⟨p0, .cons (s1 := ⟨tm1, h, fl, hs, (match Nat.blt oi.lo oi.hi with
            | true => ⟨o, tm, v, oi.lo, oi.hi⟩ :: ag
            | false => ag)⟩) (d := true) (v := v) ⟨hw, ht2, ht3, fun h => (by cases h), fun _ h => (by rw [hcls] at h; cases h), fun _ h => (by rw [hcls] at h; cases h), fun _ _ => ⟨pa1, pa2, h', hev, p2, rfl, rfl, rfl, rfl⟩, fun _ h => (by rw [hcls] at h; cases h)⟩ hr⟩
        · exact absurd hx.symm hXb
      · split at hx
        · rename_i v h' pa2 c hev
          obtain ⟨pa3, hx, hc⟩ := chk_inv hx hXb
          obtain ⟨tm1, pa4, hx, ht⟩ := tput_inv hx hXb
          obtain ⟨s', pa', h1', h2, h3⟩ := ih _ _ _ _ _ _ _ hx
          refine ⟨s', pa', h1', h2, fun hp => ?_⟩
          obtain ⟨p4, hr⟩ := h3 hp
          obtain ⟨p3, _, ht2, ht3⟩ := ht p4
          obtain ⟨p2, rfl⟩ := hc p3
          have p1 : pa1.as = true := (evO_sound hE hX hev rfl p2).1
          obtain ⟨p0, hw⟩ := hd p1
          exact ⟨p0, .cons (s1 := ⟨tm1, h, fl, hs, ag⟩) (d := true) (v := v) ⟨hw, ht2, ht3, fun h => (by cases h), fun _ h => (by rw [hcls] at h; cases h), fun _ h => (by rw [hcls] at h; cases h), fun _ h => (by rw [hcls] at h; cases h), fun _ _ => ⟨pa1, pa2, h', hev, p2, rfl, rfl, rfl, rfl⟩⟩ hr⟩
        · exact absurd hx.symm hXb
end
end Go.Ev

/- Regions that draw their order: a step in a part of memory. -/
namespace Go.Ev
open Go

theorem Mem.sub {S : Sc} {ρ : Rn} {hX hs : LH} {w : World} (m : Mem S ρ hX w) (sub : ∀ id o, hs.bs.get id = some o → o.live = true → hX.bs.get id = some o) : Mem S ρ hs w := fun ρ' ag =>
  ⟨fun id o ho => (by
    cases hl : o.live with
    | true => exact (m ρ' ag).obj id o (sub id o ho hl)
    | false => cases o <;> first | trivial | cases hl),
   fun i j x y hx hy lx ly he => (m ρ' ag).inj i j x y (sub i x hx lx) (sub j y hy ly) lx ly he, (m ρ' ag).glob⟩

/-- A step in a part of memory leaves the rest as it is. -/
theorem Mem.frame {S : Sc} {ρ ρ1 : Rn} {hX hs h1 hY : LH} {w w1 : World} (m : Mem S ρ hX w) (ro : hs.ro = hX.ro) (sub : ∀ id o, hs.bs.get id = some o → o.live = true → hX.bs.get id = some o)
    (m1 : Mem (grow S hs.nx h1.nx) ρ1 h1 w1) (e1 : Ext ρ hs w ρ1 h1 w1) (st : Stp hs h1) (fr : Fresh S hs h1)
    (cov : ∀ id o, hY.bs.get id = some o → o.live = true → h1.bs.get id = some o ∨ (hX.bs.get id = some o ∧ ¬ LiveAt hs id)) (roY : hY.ro = h1.ro) :
    Mem (grow S hs.nx h1.nx) ρ1 hY w1 ∧ Kept ρ hX w w1 ∧ FootIn ρ hX w ρ1 hY := by
  have hag : AgreeOn S ρ ρ1 := fr.on e1
  have fs : ∀ b, Foot ρ hs b → Foot ρ hX b := fun b ⟨id, o, ho, hl, hr, e⟩ => ⟨id, o, sub id o ho hl, hl, ro ▸ hr, e⟩
  have nf : ∀ id o, hX.bs.get id = some o → o.live = true → ¬ LiveAt hs id → ¬ Foot ρ hs (ρ.s id) := fun id o ho hl hn ⟨i0, o0, ho0, hl0, _, e⟩ =>
    hn (by rw [← m.self.inj i0 id o0 o (sub _ _ ho0 hl0) ho hl0 hl e]; exact ⟨o0, ho0, hl0⟩)
  have key : ∀ x y ox oy, h1.bs.get x = some ox → ox.live = true → hX.bs.get y = some oy → oy.live = true → ¬ LiveAt hs y → ρ1.s x ≠ ρ.s y := by
    intro x y ox oy hx lx hy ly hn he
    rcases st.live x ⟨ox, hx, lx⟩ with ⟨o0, ho0, hl0⟩ | ⟨h2, h3⟩
    · have hxS : S x := m.lt (sub _ _ ho0 hl0) hl0
      rw [(hag x hxS).1] at he
      have := m.self.inj x y o0 oy (sub _ _ ho0 hl0) hy hl0 ly he
      subst this
      exact hn ⟨o0, ho0, hl0⟩
    · have hfo : Foot ρ1 h1 (ρ1.s x) := ⟨x, ox, hx, lx, by rw [st.ro]; exact Nat.le_trans fr.2 h2, rfl⟩
      rcases e1.foot _ hfo with hf | hf
      · rw [he] at hf; exact nf y oy hy ly hn hf
      · rw [he] at hf
        have := m.self.lt hy ly
        omega
  refine ⟨fun ρ' ag => ?_, ⟨e1.kept.size, fun b hb hnf => e1.kept.same b hb fun hf => hnf (fs b hf), e1.kept.tape, e1.kept.os, e1.kept.output⟩, ?_⟩
  · have hag' : AgreeOn S ρ ρ' := hag.trans in_grow ag
    have H1 := m1 ρ' ag
    have HX := m ρ' hag'
    have key' : ∀ x y ox oy, h1.bs.get x = some ox → ox.live = true → hX.bs.get y = some oy → oy.live = true → ¬ LiveAt hs y → ρ'.s x ≠ ρ'.s y := by
      intro x y ox oy hx lx hy ly hn he
      rw [(ag x (m1.lt hx lx)).1, (hag' y (m.lt hy ly)).1] at he
      exact key x y ox oy hx lx hy ly hn he
    refine ⟨fun id o ho => ?_, fun i j x y hx hy lx ly he => ?_, H1.glob⟩
    · cases hl : o.live with
      | false => cases o <;> first | trivial | cases hl
      | true =>
        rcases cov id o ho hl with h | ⟨h, hn⟩
        · exact H1.obj id o h
        · have e2 := (hag' id (m.lt h hl)).1
          have := HX.obj id o h
          rw [e2] at this ⊢
          rw [e1.kept.same (ρ.s id) (m.self.lt h hl) (nf id o h hl hn)]
          exact this
    · rcases cov i x hx lx with h | ⟨h, hn⟩ <;> rcases cov j y hy ly with h' | ⟨h', hn'⟩
      · exact H1.inj i j x y h h' lx ly he
      · exact absurd he (key' i j x y h lx h' ly hn')
      · exact absurd he.symm (key' j i y x h' ly h lx hn)
      · exact HX.inj i j x y h h' lx ly he
  · rintro b ⟨id, o, ho, hl, hr, rfl⟩
    rcases cov id o ho hl with h | ⟨h, hn⟩
    · rcases e1.foot _ ⟨id, o, h, hl, by rw [roY] at hr; exact hr, rfl⟩ with hf | hf
      · exact .inl (fs _ hf)
      · exact .inr hf
    · refine .inl ⟨id, o, h, hl, ?_, ((hag id (m.lt h hl)).1).symm⟩
      rw [roY, st.ro, ro] at hr; exact hr

/-! ### what an operation stands behind -/
theorem masks_append : ∀ (l : List Oper) (ms : List Nat), ∃ t, masks l ms = ms ++ t ∧ t.length = l.length := by
  intro l
  induction l with
  | nil => intro ms; exact ⟨[], by simp [masks], rfl⟩
  | cons o l ih =>
    intro ms
    obtain ⟨t, h1, h2⟩ := ih (ms ++ [maskOf ms o])
    exact ⟨maskOf ms o :: t, by simp [masks, h1], by simp [h2]⟩

end Go.Ev

/- Regions that draw their order: what stands behind what. -/
namespace Go.Ev
open Go

theorem masks_get : ∀ (l : List Oper) (ms : List Nat) (j : Nat) (o : Oper), l[j]? = some o → (masks l ms)[ms.length + j]? = some (maskOf ((masks l ms).take (ms.length + j)) o) := by
  intro l
  induction l with
  | nil => intro ms j o h; simp at h
  | cons p l ih =>
    intro ms j o h
    simp only [masks]
    cases j with
    | zero =>
      simp at h
      subst h
      obtain ⟨t, h1, _⟩ := masks_append l (ms ++ [maskOf ms p])
      rw [h1]
      simp
    | succ j =>
      have := ih (ms ++ [maskOf ms p]) j o (by simpa using h)
      simp only [List.length_append, List.length_cons, List.length_nil] at this
      rw [show ms.length + (j + 1) = ms.length + (0 + 1) + j by omega]
      exact this

/-- What operation j stands behind. -/
def bit (all : Array Oper) (j i : Nat) : Bool := ((masks all.toList []).getD j 0).testBit i

theorem masks_length (all : Array Oper) : (masks all.toList []).length = all.size := by
  obtain ⟨t, h1, h2⟩ := masks_append all.toList []
  rw [h1]; simpa using h2

theorem foldl_bits (ms : List Nat) (i : Nat) {f : Nat → Edge → Nat} (hf : ∀ s e, f s e = if Region.binds .any e = true then s ||| (2 ^ e.on) ||| (ms.getD e.on 0) else s) :
    ∀ (l : List Edge) (s : Nat), (l.foldl f s).testBit i = true ↔ s.testBit i = true ∨ ∃ e ∈ l, Region.binds .any e = true ∧ (e.on = i ∨ (ms.getD e.on 0).testBit i = true) := by
  intro l
  induction l with
  | nil => intro s; simp
  | cons e l ih =>
    intro s
    simp only [List.foldl_cons]
    rw [ih, hf]
    by_cases hb : Region.binds .any e = true
    · simp only [hb, if_true, Nat.testBit_or, Nat.testBit_two_pow, Bool.or_eq_true, decide_eq_true_eq, List.mem_cons, exists_eq_or_imp, true_and]
      constructor
      · rintro ((( h | h) | h) | h)
        · exact .inl h
        · exact .inr (.inl (.inl h))
        · exact .inr (.inl (.inr h))
        · exact .inr (.inr h)
      · rintro (h | (h | h) | h)
        · exact .inl (.inl (.inl h))
        · exact .inl (.inl (.inr h))
        · exact .inl (.inr h)
        · exact .inr h
    · simp [hb]

/-- Edges lead back. -/
def Back (all : Array Oper) : Prop := ∀ j o, all[j]? = some o → ∀ e ∈ o.after.toList, Region.binds .any e = true → e.on < j

theorem bit_iff {all : Array Oper} (hb : Back all) {j : Nat} {o : Oper} (hj : all[j]? = some o) (i : Nat) : bit all j i = true ↔ ∃ e ∈ o.after.toList, Region.binds .any e = true ∧ (e.on = i ∨ bit all e.on i = true) := by
  have h := masks_get all.toList [] j o (by simpa using hj)
  simp only [List.length_nil, Nat.zero_add] at h
  unfold bit
  rw [List.getD_eq_getElem?_getD, h]
  simp only [Option.getD_some, maskOf]
  rw [foldl_bits _ i (fun s e => by cases Region.binds .any e <;> rfl)]
  simp only [Nat.zero_testBit, Bool.false_eq_true, false_or]
  have look : ∀ e ∈ o.after.toList, Region.binds .any e = true → (((masks all.toList []).take j).getD e.on 0) = (masks all.toList []).getD e.on 0 := by
    intro e he hbe
    have := hb j o hj e he hbe
    simp [List.getD_eq_getElem?_getD, this]
  constructor
  · rintro ⟨e, he, hbe, h⟩
    rw [look e he hbe] at h
    exact ⟨e, he, hbe, h⟩
  · rintro ⟨e, he, hbe, h⟩
    rw [← look e he hbe] at h
    exact ⟨e, he, hbe, h⟩

theorem bit_none {all : Array Oper} {j i : Nat} (hj : all[j]? = none) : bit all j i = false := by
  unfold bit
  have : (masks all.toList [])[j]? = none := by
    rw [List.getElem?_eq_none_iff, masks_length]
    simpa using hj
  rw [List.getD_eq_getElem?_getD, this]
  simp

theorem bit_lt {all : Array Oper} (hb : Back all) : ∀ j i, bit all j i = true → i < j := by
  intro j
  induction j using Nat.strongRecOn with
  | _ j ih =>
    intro i h
    cases hj : all[j]? with
    | none => rw [bit_none hj] at h; cases h
    | some o =>
      obtain ⟨e, he, hbe, h1⟩ := (bit_iff hb hj i).1 h
      have hlt := hb j o hj e he hbe
      rcases h1 with rfl | h1
      · exact hlt
      · exact Nat.lt_trans (ih _ hlt i h1) hlt

/-- Whoever stands in a set that is closed has all that he stands behind in it. -/
theorem bit_closed {all : Array Oper} (hb : Back all) {X : Nat → Prop} : ∀ j, (∀ k o, X k → all[k]? = some o → ∀ e ∈ o.after.toList, Region.binds .any e = true → X e.on) →
    (∀ o, all[j]? = some o → ∀ e ∈ o.after.toList, Region.binds .any e = true → X e.on) → ∀ i, bit all j i = true → X i := by
  intro j
  induction j using Nat.strongRecOn with
  | _ j ih =>
    intro hX hj i h
    cases ho : all[j]? with
    | none => rw [bit_none ho] at h; cases h
    | some o =>
      obtain ⟨e, he, hbe, h1⟩ := (bit_iff hb ho i).1 h
      have hXe := hj o ho e he hbe
      rcases h1 with rfl | h1
      · exact hXe
      · exact ih e.on (hb j o ho e he hbe) hX (fun o' ho' => hX e.on o' hXe ho') i h1

section
variable {E : Env}

theorem zip3_mem : ∀ (l : List Oper) (ms : List Nat) (s j : Nat) (o : Oper) (m : Nat), l[j]? = some o → ms[j]? = some m → (s + j, o, m) ∈ zip3 s l ms := by
  intro l
  induction l with
  | nil => intro ms s j o m h; simp at h
  | cons p l ih =>
    intro ms s j o m h hm
    cases ms with
    | nil => simp at hm
    | cons n ms =>
      simp only [zip3, List.mem_cons]
      cases j with
      | zero => simp at h hm; simp [h, hm]
      | succ j =>
        right
        have := ih ms (s + 1) j o m (by simpa using h) (by simpa using hm)
        rw [show s + (j + 1) = s + 1 + j by omega]
        exact this
theorem zip3_get : ∀ (l : List Oper) (ms : List Nat) (s : Nat), ms.length = l.length → (zip3 s l ms).length = l.length ∧ ∀ j o, l[j]? = some o → (zip3 s l ms)[j]? = some (s + j, o, ms.getD j 0) := by
  intro l
  induction l with
  | nil => intro ms s h; simp at h; subst h; exact ⟨rfl, fun j o h => by simp at h⟩
  | cons p l ih =>
    intro ms s h
    cases ms with
    | nil => simp at h
    | cons n ms =>
      obtain ⟨h1, h2⟩ := ih ms (s + 1) (by simpa using h)
      refine ⟨by simp [zip3, h1], fun j o hj => ?_⟩
      cases j with
      | zero => simp at hj; simp [zip3, hj]
      | succ j =>
        have := h2 j o (by simpa using hj)
        simp only [zip3, List.getElem?_cons_succ, List.getD_cons_succ]
        rw [this]
        congr 2; omega

theorem mask_get {all : Array Oper} {j : Nat} {o : Oper} (hj : all[j]? = some o) : ∃ m, (masks all.toList [])[j]? = some m ∧ ∀ i, m.testBit i = bit all j i := by
  have hlt : j < (masks all.toList []).length := by rw [masks_length]; exact (Array.getElem?_eq_some_iff.1 hj).1
  refine ⟨(masks all.toList [])[j], by simp [hlt], fun i => ?_⟩
  simp [bit, List.getD_eq_getElem?_getD, hlt]

structure DrawSpec (E : Env) (all : Array Oper) : Prop where
  back : Back all
  sel : ∀ (j : Nat) (o : Oper), all[j]? = some o → ∀ cs b, o.op ≠ .select cs b
  apart : ∀ (i j : Nat) (p o : Oper), all[i]? = some p → all[j]? = some o → i < j → bit all j i = true ∨ (¬ (isEff (clsOf E o.op) = true ∧ isEff (clsOf E p.op) = true) ∧ meets p.dst.toList (namesOf all o) = false ∧ meets o.dst.toList (namesOf all p) = false)
  guard : ∀ (j : Nat) (o : Oper) (g : Nat) (b : Bool), all[j]? = some o → o.guard = some (g, b) → bit all j g = true

theorem drawOk_spec {all : Array Oper} (h : drawOk E all = true) : DrawSpec E all := by
  unfold drawOk at h
  simp only [Bool.and_eq_true] at h
  obtain ⟨h1, h2⟩ := h
  have get1 : ∀ j o, all[j]? = some o → ∃ m, (∀ i, m.testBit i = bit all j i) ∧ (j, o, m) ∈ zip3 0 all.toList (masks all.toList []) := fun j o hj => by
    obtain ⟨m, hm, hb⟩ := mask_get hj
    have := zip3_mem all.toList (masks all.toList []) 0 j o m (by simpa using hj) hm
    rw [Nat.zero_add] at this
    exact ⟨m, hb, this⟩
  refine ⟨fun j o hj e he hb => ?_, fun j o hj cs b ho => ?_, fun i j p o hi hj hij => ?_, fun j o g b hj hg => ?_⟩
  · obtain ⟨m, _, hm⟩ := get1 j o hj
    have h3 := List.all_eq_true.1 h1 _ hm
    simp only [Bool.and_eq_true] at h3
    have h4 := List.all_eq_true.1 h3.1.1 e (by simpa using he)
    rw [boolNot_eq, hb] at h4
    simpa using h4
  · obtain ⟨m, _, hm⟩ := get1 j o hj
    have h3 := List.all_eq_true.1 h1 _ hm
    simp only [Bool.and_eq_true] at h3
    have h4 := h3.1.2
    rw [ho] at h4
    cases h4
  · obtain ⟨m, hbit, hm⟩ := get1 j o hj
    obtain ⟨m', _, hm'⟩ := get1 i p hi
    have h3 := List.all_eq_true.1 h1 _ hm
    simp only [Bool.and_eq_true] at h3
    have h4 := List.all_eq_true.1 h3.2 _ hm'
    have hlt : Nat.blt i j = true := Nat.ble_eq_true_of_le hij
    simp only [hlt, boolNot_eq, Bool.not_true, Bool.false_or, Bool.or_eq_true, Bool.and_eq_true, Bool.not_eq_true', hbit] at h4
    rcases h4 with h4 | ⟨⟨h4, h5⟩, h6⟩
    · exact .inl h4
    · refine .inr ⟨fun h => ?_, h5, h6⟩
      rw [h.1, h.2] at h4
      cases h4
  · obtain ⟨m, hbit, hm⟩ := get1 j o hj
    have h3 := List.all_eq_true.1 h2 _ hm
    simp only [hg, Bool.and_eq_true, hbit] at h3
    exact h3.1

/-- A region's operations, numbered, with what they stand behind. -/
def zl (all : Array Oper) : List (Nat × Oper × Nat) := zip3 0 all.toList (masks all.toList [])
def effX (E : Env) (x : Nat × Oper × Nat) : Bool := isEff (clsOf E x.2.1.op)

theorem zl_length (all : Array Oper) : (zl all).length = all.size := by
  have := (zip3_get all.toList (masks all.toList []) 0 (by rw [masks_length]; simp)).1
  simpa [zl] using this
theorem zl_get {all : Array Oper} {j : Nat} {o : Oper} (hj : all[j]? = some o) : ∃ m, (zl all)[j]? = some (j, o, m) ∧ ∀ i, m.testBit i = bit all j i := by
  have := (zip3_get all.toList (masks all.toList []) 0 (by rw [masks_length]; simp)).2 j o (by simpa using hj)
  rw [Nat.zero_add] at this
  exact ⟨_, this, fun i => rfl⟩
theorem zl_spec {all : Array Oper} {j : Nat} {x : Nat × Oper × Nat} (hj : (zl all)[j]? = some x) : x.1 = j ∧ all[j]? = some x.2.1 ∧ ∀ i, x.2.2.testBit i = bit all j i := by
  have hlt : j < all.size := by rw [← zl_length]; exact (List.getElem?_eq_some_iff.1 hj).1
  obtain ⟨m, hm, hb⟩ := zl_get (all := all) (j := j) (o := all[j]) (by simp [hlt])
  rw [hj] at hm
  simp only [Option.some.injEq] at hm
  subst hm
  exact ⟨rfl, by simp [hlt], hb⟩

/-- How many effects stand ahead of place k. -/
def pk (E : Env) (all : Array Oper) (k : Nat) : Nat := ((zl all).take k).countP (effX E)

theorem pk_succ {all : Array Oper} {k : Nat} {o : Oper} (hk : all[k]? = some o) : pk E all (k + 1) = pk E all k + if isEff (clsOf E o.op) then 1 else 0 := by
  obtain ⟨m, hm, _⟩ := zl_get hk
  unfold pk
  rw [List.take_add_one, hm]
  simp only [Option.toList_some, List.countP_append, List.countP_cons, List.countP_nil, Nat.zero_add, effX]
  by_cases h : isEff (clsOf E o.op) = true <;> simp [h]

theorem drawInfo_get {all : Array Oper} {j : Nat} {o : Oper} (hj : all[j]? = some o) : ∃ oi : OI, (drawInfo E all)[j]? = some (o, oi) ∧ oi.cls = clsOf E o.op ∧ (∀ i, oi.mask.testBit i = bit all j i) ∧
    oi.lo = (zl all).countP (fun x => effX E x && bit all j x.1) ∧ oi.hi = (zl all).countP (fun x => effX E x && boolNot (bit all x.1 j)) := by
  obtain ⟨m, hm, hb⟩ := zl_get hj
  have hm' : (zip3 0 all.toList (masks all.toList []))[j]? = some (j, o, m) := hm
  refine ⟨_, by simp only [drawInfo, infoOf, List.getElem?_map, hm', Option.map_some]; rfl, rfl, hb, ?_, ?_⟩
  · simp only
    rw [← List.countP_eq_length_filter, List.countP_filter]
    apply List.countP_congr
    intro x hx
    simp only [effX, hb, Bool.and_comm]
  · simp only
    rw [← List.countP_eq_length_filter, List.countP_filter]
    apply List.countP_congr
    intro x hx
    obtain ⟨i, hi⟩ := List.getElem?_of_mem hx
    obtain ⟨h1, _, h3⟩ := zl_spec (all := all) hi
    simp only [effX, h1, h3, Bool.and_comm]

/-- The phase of a state lies between an operation's bounds. -/
theorem lo_le {all : Array Oper} {j k : Nat} (h : ∀ i o, all[i]? = some o → isEff (clsOf E o.op) = true → bit all j i = true → i < k) : (zl all).countP (fun x => effX E x && bit all j x.1) ≤ pk E all k := by
  unfold pk
  conv => lhs; rw [← List.take_append_drop k (zl all), List.countP_append]
  have hd : ((zl all).drop k).countP (fun x => effX E x && bit all j x.1) = 0 := by
    rw [List.countP_eq_zero]
    intro x hx hc
    simp only [Bool.and_eq_true] at hc
    obtain ⟨i, hi⟩ := List.getElem?_of_mem hx
    rw [List.getElem?_drop] at hi
    obtain ⟨h1, h2, _⟩ := zl_spec hi
    have := h _ _ h2 hc.1 (h1 ▸ hc.2)
    omega
  rw [hd, Nat.add_zero]
  exact List.countP_mono_left fun x _ hx => by simp only [Bool.and_eq_true] at hx; exact hx.1
theorem le_hi {all : Array Oper} {j k : Nat} (h : ∀ i o, all[i]? = some o → isEff (clsOf E o.op) = true → i < k → bit all i j = false) : pk E all k ≤ (zl all).countP (fun x => effX E x && boolNot (bit all x.1 j)) := by
  unfold pk
  conv => rhs; rw [← List.take_append_drop k (zl all), List.countP_append]
  refine Nat.le_trans (List.countP_mono_left fun x hx hc => ?_) (Nat.le_add_right _ _)
  obtain ⟨i, hi⟩ := List.getElem?_of_mem hx
  have hik : i < k := by
    have := (List.getElem?_eq_some_iff.1 hi).1
    simp at this; omega
  rw [List.getElem?_take, if_pos hik] at hi
  obtain ⟨h1, h2, _⟩ := zl_spec hi
  have := h _ _ h2 hc hik
  rw [h1, this]
  simp [hc, boolNot]
end
end Go.Ev

/- Regions that draw their order: the run in the text's order, place by place. -/
namespace Go.Ev
open Go

section
variable {E : Env} {fr : Fr} {all : Array Oper}

theorem Run.seq {i : Nat} {l : List (Oper × OI)} {s s' : St} (r : Run E fr all i l s s') : ∃ (sq : Nat → St) (D : Nat → Bool) (V : Nat → LV), sq i = s ∧ sq (i + l.length) = s' ∧
    ∀ j o oi, l[j]? = some (o, oi) → DFact E fr all (i + j) o oi (sq (i + j)) (sq (i + j + 1)) (D (i + j)) (V (i + j)) := by
  induction r with
  | nil i s => exact ⟨fun _ => s, fun _ => true, fun _ => undefL, rfl, rfl, fun j o oi h => by simp at h⟩
  | @cons i o oi rest s s1 s2 d v f r ih =>
    obtain ⟨sq, D, V, h1, h2, h3⟩ := ih
    refine ⟨fun k => if k = i then s else sq k, fun k => if k = i then d else D k, fun k => if k = i then v else V k, by simp, ?_, fun j o' oi' hj => ?_⟩
    · have : i + (rest.length + 1) ≠ i := by omega
      simp only [List.length_cons, if_neg this]
      rw [← h2]; congr 1; omega
    · cases j with
      | zero =>
        simp at hj
        obtain ⟨rfl, rfl⟩ := hj
        have : i + 1 ≠ i := by omega
        simp only [Nat.add_zero, if_true, if_neg this, h1]
        exact f
      | succ j =>
        have := h3 j o' oi' (by simpa using hj)
        have e1 : i + (j + 1) ≠ i := by omega
        have e2 : i + (j + 1) + 1 ≠ i := by omega
        simp only [if_neg e1, if_neg e2]
        rw [show i + (j + 1) = i + 1 + j by omega]
        exact this

/-- The run, place by place. -/
structure DSeq (E : Env) (fr : Fr) (all : Array Oper) (sq : Nat → St) (D : Nat → Bool) (V : Nat → LV) : Prop where
  fact : ∀ (j : Nat) (o : Oper), all[j]? = some o → ∃ oi : OI, oi.cls = clsOf E o.op ∧ (∀ i, oi.mask.testBit i = bit all j i) ∧ oi.lo = (zl all).countP (fun x => effX E x && bit all j x.1) ∧
    oi.hi = (zl all).countP (fun x => effX E x && boolNot (bit all x.1 j)) ∧ DFact E fr all j o oi (sq j) (sq (j + 1)) (D j) (V j)

theorem Run.dseq {s s' : St} (r : Run E fr all 0 (drawInfo E all) s s') : ∃ sq D V, sq 0 = s ∧ sq all.size = s' ∧ DSeq E fr all sq D V := by
  obtain ⟨sq, D, V, h1, h2, h3⟩ := r.seq
  have hl : (drawInfo E all).length = all.size := by
    have := zl_length all
    simpa [drawInfo, infoOf, zl] using this
  rw [hl, Nat.zero_add] at h2
  refine ⟨sq, D, V, h1, h2, ⟨fun j o hj => ?_⟩⟩
  obtain ⟨oi, h4, h5, h6, h7, h8⟩ := drawInfo_get (E := E) hj
  have := h3 j o oi h4
  rw [Nat.zero_add] at this
  exact ⟨oi, h5, h6, h7, h8, this⟩

variable {sq : Nat → St} {D : Nat → Bool} {V : Nat → LV}

/-- One place on: numbers and memory. -/
theorem DSeq.step (q : DSeq E fr all sq D V) {j : Nat} {o : Oper} (hj : all[j]? = some o) : (sq j).h.nx ≤ (sq (j + 1)).h.nx ∧ (sq (j + 1)).h.ro = (sq j).h.ro ∧
    (¬ (D j = true ∧ isEff (clsOf E o.op) = true) → (sq (j + 1)).h.bs = (sq j).h.bs) := by
  obtain ⟨oi, hc, _, _, _, f⟩ := q.fact j o hj
  cases hd : D j with
  | false =>
    obtain ⟨_, h1, _⟩ := f.no hd
    rw [h1]; exact ⟨Nat.le_refl _, rfl, fun _ => rfl⟩
  | true =>
    cases hcl : oi.cls with
    | eff =>
      obtain ⟨h1, _⟩ := f.eff hd hcl
      refine ⟨by have := h1.nx; rwa [insL_nx] at this, by have := h1.ro; rwa [insL_ro] at this, fun h => absurd ⟨rfl, ?_⟩ h⟩
      rw [← hc, hcl]; rfl
    | alc =>
      obtain ⟨ob, pa, pa', h', _, _, _, _, h1, _⟩ := f.alc hd hcl
      rw [h1]; exact ⟨Nat.le_succ _, rfl, fun _ => rfl⟩
    | lod =>
      obtain ⟨pa, pa', h', _, _, h1, _⟩ := f.lod hd hcl
      rw [h1]; exact ⟨Nat.le_refl _, rfl, fun _ => rfl⟩
    | pur =>
      obtain ⟨pa, pa', h', _, _, h1, _⟩ := f.pur hd hcl
      rw [h1]; exact ⟨Nat.le_refl _, rfl, fun _ => rfl⟩

theorem DSeq.nx_mono (q : DSeq E fr all sq D V) : ∀ {i j : Nat}, i ≤ j → j ≤ all.size → (sq i).h.nx ≤ (sq j).h.nx := by
  intro i j hij hj
  induction j with
  | zero => have : i = 0 := by omega
            subst this; exact Nat.le_refl _
  | succ j ih =>
    by_cases h : i = j + 1
    · subst h; exact Nat.le_refl _
    · exact Nat.le_trans (ih (by omega) (by omega)) (q.step (j := j) (o := all[j]) (by simp)).1
theorem DSeq.ro (q : DSeq E fr all sq D V) : ∀ {j : Nat}, j ≤ all.size → (sq j).h.ro = (sq 0).h.ro := by
  intro j hj
  induction j with
  | zero => rfl
  | succ j ih => rw [(q.step (j := j) (o := all[j]) (by simp)).2.1, ih (by omega)]
/-- No effect between two places: the same memory. -/
theorem DSeq.same (q : DSeq E fr all sq D V) : ∀ {i j : Nat}, i ≤ j → j ≤ all.size → (∀ e o, i ≤ e → e < j → all[e]? = some o → ¬ (D e = true ∧ isEff (clsOf E o.op) = true)) → (sq j).h.bs = (sq i).h.bs := by
  intro i j hij hj he
  induction j with
  | zero => have : i = 0 := by omega
            subst this; rfl
  | succ j ih =>
    by_cases h : i = j + 1
    · subst h; rfl
    · have hjl : all[j]? = some all[j] := by simp
      rw [(q.step hjl).2.2 (he j _ (by omega) (by omega) hjl), ih (by omega) (by omega) fun e o h1 h2 => he e o h1 (by omega)]

theorem isEff_iff {c : Cls} : isEff c = true ↔ c = .eff := by cases c <;> simp [isEff]

/-- An operation that lays a block beside the chain of effects. -/
def Flo (E : Env) (all : Array Oper) (D : Nat → Bool) (i : Nat) : Prop := ∃ o, all[i]? = some o ∧ D i = true ∧ clsOf E o.op = .alc
/-- Its block has been put into the chain's memory by place k. -/
def Ins (E : Env) (all : Array Oper) (D : Nat → Bool) (i k : Nat) : Prop := ∃ e o, e < k ∧ all[e]? = some o ∧ D e = true ∧ clsOf E o.op = .eff ∧ bit all e i = true

def AlcFact (E : Env) (all : Array Oper) (sq : Nat → St) (D : Nat → Bool) (V : Nat → LV) (i : Nat) (ob : LO) : Prop :=
  ∀ o, all[i]? = some o → D i = true → clsOf E o.op = .alc → (∃ pa pa' h', evO E (rho (sq i).tm) o ⟨.leaf, (sq i).h.nx, (sq i).h.ro⟩ pa = .val (V i) h' pa' true ∧ pa'.as = true ∧ h'.bs.get (sq i).h.nx = some ob ∧ h'.nx = (sq i).h.nx + 1) ∧
    (sq (i + 1)).h = ⟨(sq i).h.bs, (sq i).h.nx + 1, (sq i).h.ro⟩ ∧ (sq (i + 1)).fl = (i, (sq i).h.nx, ob) :: (sq i).fl

theorem DSeq.alcs (q : DSeq E fr all sq D V) : ∃ OB : Nat → LO, ∀ i, AlcFact E all sq D V i (OB i) := by
  refine Classical.axiomOfChoice fun i => ?_
  cases hi : all[i]? with
  | none => exact ⟨.dead, fun o ho => by rw [hi] at ho; cases ho⟩
  | some o =>
    obtain ⟨oi, hc, _, _, _, f⟩ := q.fact i o hi
    by_cases h : D i = true ∧ clsOf E o.op = .alc
    · obtain ⟨ob, pa, pa', h', h1, h2, h3, h4, h5, h6, _⟩ := f.alc h.1 (hc.trans h.2)
      refine ⟨ob, fun o' ho' _ _ => ?_⟩
      rw [hi] at ho'
      cases ho'
      exact ⟨⟨pa, pa', h', h1, h2, h3, h4⟩, h5, h6⟩
    · exact ⟨.dead, fun o' ho' hd hcl => by rw [hi] at ho'; cases ho'; exact absurd ⟨hd, hcl⟩ h⟩

theorem DSeq.floats (q : DSeq E fr all sq D V) (sp : DrawSpec E all) {OB : Nat → LO} (ha : ∀ i, AlcFact E all sq D V i (OB i)) (h0 : (sq 0).fl = []) :
    ∀ k, k ≤ all.size → ∀ f, f ∈ (sq k).fl ↔ ∃ i, i < k ∧ Flo E all D i ∧ ¬ Ins E all D i k ∧ f = (i, (sq i).h.nx, OB i) := by
  intro k
  induction k with
  | zero => intro _ f; rw [h0]; simp
  | succ k ih =>
    intro hk f
    have ihk := ih (by omega)
    have hkl : all[k]? = some all[k] := by simp
    obtain ⟨oi, hc, hm, _, _, ft⟩ := q.fact k _ hkl
    -- what is put in at this place
    have insS : ∀ i, Ins E all D i (k + 1) ↔ Ins E all D i k ∨ (D k = true ∧ clsOf E all[k].op = .eff ∧ bit all k i = true) := by
      intro i
      constructor
      · rintro ⟨e, o, he, ho, hd, hcl, hb⟩
        by_cases hek : e = k
        · subst hek
          rw [hkl] at ho; cases ho
          exact .inr ⟨hd, hcl, hb⟩
        · exact .inl ⟨e, o, by omega, ho, hd, hcl, hb⟩
      · rintro (⟨e, o, he, r⟩ | ⟨hd, hcl, hb⟩)
        · exact ⟨e, o, by omega, r⟩
        · exact ⟨k, _, by omega, hkl, hd, hcl, hb⟩
    have same : (¬ (D k = true ∧ clsOf E all[k].op = .eff)) → (¬ Flo E all D k) → (sq (k + 1)).fl = (sq k).fl → (f ∈ (sq (k + 1)).fl ↔ ∃ i, i < k + 1 ∧ Flo E all D i ∧ ¬ Ins E all D i (k + 1) ∧ f = (i, (sq i).h.nx, OB i)) := by
      intro hne hnf e
      rw [e, ihk]
      constructor
      · rintro ⟨i, h1, h2, h3, h4⟩
        exact ⟨i, by omega, h2, fun h => h3 ((insS i).1 h |>.resolve_right fun h => hne ⟨h.1, h.2.1⟩), h4⟩
      · rintro ⟨i, h1, h2, h3, h4⟩
        have : i ≠ k := fun e => hnf (e ▸ h2)
        exact ⟨i, by omega, h2, fun h => h3 ((insS i).2 (.inl h)), h4⟩
    cases hd : D k with
    | false =>
      exact same (fun h => by rw [hd] at h; cases h.1) (fun ⟨o, _, h, _⟩ => by rw [hd] at h; cases h) (ft.no hd).2.2.1
    | true =>
      cases hcl : oi.cls with
      | eff =>
        obtain ⟨_, _, h1, _⟩ := ft.eff hd hcl
        rw [h1]
        simp only [splitFl, List.mem_filter, boolNot_eq, hm]
        rw [ihk]
        constructor
        · rintro ⟨⟨i, h1, h2, h3, rfl⟩, h4⟩
          refine ⟨i, by omega, h2, fun h => ?_, rfl⟩
          rcases (insS i).1 h with h | h
          · exact h3 h
          · rw [h.2.2] at h4; cases h4
        · rintro ⟨i, h1, h2, h3, rfl⟩
          have : i ≠ k := by
            rintro rfl
            obtain ⟨o, ho, _, h⟩ := h2
            rw [hkl] at ho; cases ho
            rw [← hc, hcl] at h; cases h
          refine ⟨⟨i, by omega, h2, fun h => h3 ((insS i).2 (.inl h)), rfl⟩, ?_⟩
          cases hb : bit all k i with
          | false => rfl
          | true => exact absurd ((insS i).2 (.inr ⟨hd, hc ▸ hcl, hb⟩)) h3
      | alc =>
        obtain ⟨_, _, h1⟩ := ha k _ hkl hd (hc ▸ hcl)
        rw [h1, List.mem_cons, ihk]
        have hne : ¬ (D k = true ∧ clsOf E all[k].op = .eff) := fun h => by rw [← hc, hcl] at h; cases h.2
        constructor
        · rintro (rfl | ⟨i, h1, h2, h3, h4⟩)
          · refine ⟨k, by omega, ⟨_, hkl, hd, hc ▸ hcl⟩, ?_, rfl⟩
            rintro ⟨e, o, he, _, _, _, hb⟩
            have := bit_lt sp.back _ _ hb
            omega
          · exact ⟨i, by omega, h2, fun h => h3 ((insS i).1 h |>.resolve_right fun h => hne ⟨h.1, h.2.1⟩), h4⟩
        · rintro ⟨i, h1, h2, h3, h4⟩
          by_cases hik : i = k
          · subst hik; exact .inl h4
          · exact .inr ⟨i, by omega, h2, fun h => h3 ((insS i).2 (.inl h)), h4⟩
      | lod =>
        obtain ⟨_, _, _, _, _, _, h1, _⟩ := ft.lod hd hcl
        exact same (fun h => by rw [← hc, hcl] at h; cases h.2) (fun ⟨o, ho, _, h⟩ => by rw [hkl] at ho; cases ho; rw [← hc, hcl] at h; cases h) h1
      | pur =>
        obtain ⟨_, _, _, _, _, _, h1, _⟩ := ft.pur hd hcl
        exact same (fun h => by rw [← hc, hcl] at h; cases h.2) (fun ⟨o, ho, _, h⟩ => by rw [hkl] at ho; cases ho; rw [← hc, hcl] at h; cases h) h1
end
end Go.Ev

/- Regions that draw their order: what lives, and the memories behind each effect. -/
namespace Go.Ev
open Go

section
variable {E : Env} {fr : Fr} {all : Array Oper} {sq : Nat → St} {D : Nat → Bool} {V : Nat → LV}

theorem insL_live {fl : List Float} {h : LH} {id : Nat} (hl : LiveAt (insL h fl) id) : LiveAt h id ∨ ∃ f ∈ fl, f.2.1 = id := by
  by_cases hf : ∃ f ∈ fl, f.2.1 = id
  · exact .inr hf
  · obtain ⟨o, ho, hlo⟩ := hl
    rw [insL_none fl h id fun f hm he => hf ⟨f, hm, he⟩] at ho
    exact .inl ⟨o, ho, hlo⟩

theorem Ins.mono {i k k' : Nat} (h : Ins E all D i k) (hk : k ≤ k') : Ins E all D i k' := by
  obtain ⟨e, o, he, r⟩ := h
  exact ⟨e, o, by omega, r⟩

/-- What lives at a place of the run. -/
theorem DSeq.live (q : DSeq E fr all sq D V) (sp : DrawSpec E all) {OB : Nat → LO} (ha : ∀ i, AlcFact E all sq D V i (OB i)) (h0 : (sq 0).fl = []) :
    ∀ k, k ≤ all.size → ∀ id, LiveAt (sq k).h id → LiveAt (sq 0).h id ∨ (∃ e o, e < k ∧ all[e]? = some o ∧ D e = true ∧ clsOf E o.op = .eff ∧ (sq e).h.nx ≤ id ∧ id < (sq (e + 1)).h.nx) ∨
      ∃ i, Flo E all D i ∧ Ins E all D i k ∧ id = (sq i).h.nx := by
  intro k
  induction k with
  | zero => intro _ id h; exact .inl h
  | succ k ih =>
    intro hk id hl
    have hkl : all[k]? = some all[k] := by simp
    obtain ⟨oi, hc, hm, _, _, ft⟩ := q.fact k _ hkl
    have lift : LiveAt (sq k).h id → LiveAt (sq 0).h id ∨ (∃ e o, e < k + 1 ∧ all[e]? = some o ∧ D e = true ∧ clsOf E o.op = .eff ∧ (sq e).h.nx ≤ id ∧ id < (sq (e + 1)).h.nx) ∨
        ∃ i, Flo E all D i ∧ Ins E all D i (k + 1) ∧ id = (sq i).h.nx := fun h => by
      rcases ih (by omega) id h with h | ⟨e, o, he, r⟩ | ⟨i, h1, h2, h3⟩
      · exact .inl h
      · exact .inr (.inl ⟨e, o, by omega, r⟩)
      · exact .inr (.inr ⟨i, h1, h2.mono (by omega), h3⟩)
    by_cases he : D k = true ∧ isEff (clsOf E all[k].op) = true
    · have hcl : oi.cls = .eff := hc.trans (isEff_iff.1 he.2)
      obtain ⟨hst, _⟩ := ft.eff he.1 hcl
      rcases hst.live id hl with h | h
      · rcases insL_live h with h | ⟨f, hf, hfe⟩
        · exact lift h
        · simp only [splitFl, List.mem_filter, hm] at hf
          obtain ⟨i, h1, h2, h3, rfl⟩ := (q.floats sp ha h0 k (by omega) f).1 hf.1
          exact .inr (.inr ⟨i, h2, ⟨k, _, by omega, hkl, he.1, isEff_iff.1 he.2, hf.2⟩, hfe.symm⟩)
      · rw [insL_nx] at h
        exact .inr (.inl ⟨k, _, by omega, hkl, he.1, isEff_iff.1 he.2, h⟩)
    · have hb := (q.step hkl).2.2 he
      obtain ⟨o, ho, hlo⟩ := hl
      rw [hb] at ho
      exact lift ⟨o, ho, hlo⟩

/-- The memories behind each effect. -/
theorem DSeq.phases (q : DSeq E fr all sq D V) (h0 : (sq 0).hs = [(sq 0).h]) :
    ∀ k, k ≤ all.size → ∃ hd tl, (sq k).hs = hd :: tl ∧ hd.bs = (sq k).h.bs ∧ (hd.ro = (sq 0).h.ro ∧ (sq 0).h.nx ≤ hd.nx) ∧ tl.length = pk E all k := by
  intro k
  induction k with
  | zero => intro _; exact ⟨(sq 0).h, [], h0, rfl, ⟨rfl, Nat.le_refl _⟩, by simp [pk]⟩
  | succ k ih =>
    intro hk
    obtain ⟨hd, tl, h1, h2, h3, h4⟩ := ih (by omega)
    have hkl : all[k]? = some all[k] := by simp
    obtain ⟨oi, hc, hm, _, _, ft⟩ := q.fact k _ hkl
    have hpk := pk_succ (E := E) hkl
    have hro : (sq k).h.ro = (sq 0).h.ro ∧ (sq 0).h.nx ≤ (sq k).h.nx := ⟨q.ro (by omega), q.nx_mono (by omega) (by omega)⟩
    have hro' : (sq (k + 1)).h.ro = (sq 0).h.ro ∧ (sq 0).h.nx ≤ (sq (k + 1)).h.nx := ⟨q.ro (by omega), q.nx_mono (by omega) (by omega)⟩
    cases hdk : D k with
    | false =>
      obtain ⟨_, e1, _, e2, _⟩ := ft.no hdk
      cases hcl : oi.cls with
      | eff =>
        rw [hcl] at e2
        rw [← hc, hcl] at hpk
        exact ⟨_, _, e2, by rw [e1], hro, by rw [h1, List.length_cons, h4, hpk]; rfl⟩
      | _ =>
        rw [hcl] at e2
        rw [← hc, hcl] at hpk
        exact ⟨hd, tl, e2.trans h1, by rw [e1]; exact h2, h3, by rw [h4, hpk]; rfl⟩
    | true =>
      cases hcl : oi.cls with
      | eff =>
        obtain ⟨_, _, _, e2, _⟩ := ft.eff hdk hcl
        rw [← hc, hcl] at hpk
        exact ⟨_, _, e2, rfl, hro', by rw [h1, List.length_cons, h4, hpk]; rfl⟩
      | alc =>
        obtain ⟨_, _, _, _, _, _, _, _, e1, _, e2, _⟩ := ft.alc hdk hcl
        rw [← hc, hcl] at hpk
        exact ⟨hd, tl, e2.trans h1, by rw [e1]; exact h2, h3, by rw [h4, hpk]; rfl⟩
      | lod =>
        obtain ⟨_, _, _, _, _, e1, _, e2, _⟩ := ft.lod hdk hcl
        rw [← hc, hcl] at hpk
        exact ⟨hd, tl, e2.trans h1, by rw [e1]; exact h2, h3, by rw [h4, hpk]; rfl⟩
      | pur =>
        obtain ⟨_, _, _, _, _, e1, _, e2, _⟩ := ft.pur hdk hcl
        rw [← hc, hcl] at hpk
        exact ⟨hd, tl, e2.trans h1, by rw [e1]; exact h2, h3, by rw [h4, hpk]; rfl⟩
end
end Go.Ev

/- Regions that draw their order: readings that come to the same in many memories. -/
namespace Go.Ev
open Go

mutual
theorem LV.beq_eq : ∀ (a b : LV), LV.beq a b = true → a = b
  | .bool a, b, h => by cases b <;> simp_all [LV.beq]
  | .int k a, b, h => by
    cases b <;> simp only [LV.beq, Bool.and_eq_true, Bool.false_eq_true] at h
    obtain ⟨h1, h2⟩ := h
    rw [kEq_eq h1, eq_of_beq h2]
  | .str a, b, h => by cases b <;> simp_all [LV.beq]
  | .ptr none, b, h => by
    cases b with
    | ptr x => cases x <;> simp_all [LV.beq]
    | _ => simp [LV.beq] at h
  | .ptr (some a), b, h => by
    cases b with
    | ptr x => cases x with
      | none => simp [LV.beq] at h
      | some x =>
        simp only [LV.beq, Bool.and_eq_true] at h
        obtain ⟨⟨⟨h1, h2⟩, h3⟩, h4⟩ := h
        cases a; cases x
        simp only at h1 h2 h3 h4
        rw [Nat.eq_of_beq_eq_true h1, Nat.eq_of_beq_eq_true h2, Nat.eq_of_beq_eq_true h3, Nat.eq_of_beq_eq_true h4]
    | _ => simp [LV.beq] at h
  | .slice none l (.kn c), b, h => by
    cases b with
    | slice x l' c' => cases x with
      | none => cases c' with
        | kn c' =>
          simp only [LV.beq, Bool.and_eq_true] at h
          rw [Nat.eq_of_beq_eq_true h.1, Nat.eq_of_beq_eq_true h.2]
        | un a b => simp [LV.beq] at h
      | some x => cases c' <;> simp [LV.beq] at h
    | _ => simp [LV.beq] at h
  | .slice none l (.un s t), b, h => by
    cases b with
    | slice x l' c' => cases x <;> cases c' <;> simp [LV.beq] at h
    | _ => simp [LV.beq] at h
  | .slice (some a) l c, b, h => by
    cases b with
    | slice x l' c' => cases x with
      | none => cases c <;> cases c' <;> simp [LV.beq] at h
      | some x =>
        simp only [LV.beq, Bool.and_eq_true] at h
        obtain ⟨⟨⟨⟨⟨h1, h2⟩, h3⟩, h4⟩, h5⟩, h6⟩ := h
        cases a; cases x
        simp only at h1 h2 h3 h4
        rw [Nat.eq_of_beq_eq_true h1, Nat.eq_of_beq_eq_true h2, Nat.eq_of_beq_eq_true h3, Nat.eq_of_beq_eq_true h4, Nat.eq_of_beq_eq_true h5]
        cases c <;> cases c' <;> simp only [Bool.and_eq_true, Bool.false_eq_true] at h6
        · rw [Nat.eq_of_beq_eq_true h6]
        · rw [Nat.eq_of_beq_eq_true h6.1, Nat.eq_of_beq_eq_true h6.2]
    | _ => cases c <;> simp [LV.beq] at h
  | .map none, b, h => by
    cases b with
    | map x => cases x <;> simp_all [LV.beq]
    | _ => simp [LV.beq] at h
  | .map (some a), b, h => by
    cases b with
    | map x => cases x with
      | none => simp [LV.beq] at h
      | some x => simp only [LV.beq] at h; rw [Nat.eq_of_beq_eq_true h]
    | _ => simp [LV.beq] at h
  | .nilFn, b, h => by cases b <;> simp_all [LV.beq]
  | .nilIface, b, h => by cases b <;> simp_all [LV.beq]
  | .agg a, b, h => by
    cases b <;> simp only [LV.beq, Bool.false_eq_true] at h
    rw [LVs.beq_eq a _ h]
  | .tup a, b, h => by
    cases b <;> simp only [LV.beq, Bool.false_eq_true] at h
    rw [LVs.beq_eq a _ h]
  | .fn f a c, b, h => by cases b <;> simp [LV.beq] at h
  | .iface t v, b, h => by cases b <;> simp [LV.beq] at h
  | .raw v, b, h => by cases b <;> simp [LV.beq] at h
theorem LVs.beq_eq : ∀ (a b : List LV), LVs.beq a b = true → a = b
  | [], b, h => by cases b <;> simp_all [LVs.beq]
  | x :: l, b, h => by
    cases b with
    | nil => simp [LVs.beq] at h
    | cons y m =>
      simp only [LVs.beq, Bool.and_eq_true] at h
      rw [LV.beq_eq x y h.1, LVs.beq_eq l m h.2]
end

section
variable {E : Env} {fr : Fr} {all : Array Oper} {sq : Nat → St} {D : Nat → Bool} {V : Nat → LV}

theorem DSeq.later (q : DSeq E fr all sq D V) {k : Nat} : ∀ {m : Nat}, k ≤ m → m ≤ all.size → (∃ pre, (sq m).hs = pre ++ (sq k).hs) ∧ ∀ a ∈ (sq k).ag, a ∈ (sq m).ag := by
  intro m hkm hm
  induction m with
  | zero => have : k = 0 := by omega
            subst this; exact ⟨⟨[], rfl⟩, fun _ h => h⟩
  | succ m ih =>
    by_cases h : k = m + 1
    · subst h; exact ⟨⟨[], rfl⟩, fun _ h => h⟩
    · obtain ⟨⟨pre, h1⟩, h2⟩ := ih (by omega) (by omega)
      have hml : all[m]? = some all[m] := by simp
      obtain ⟨oi, hc, hmk, _, _, ft⟩ := q.fact m _ hml
      have same : (sq (m + 1)).hs = (sq m).hs → (sq (m + 1)).ag = (sq m).ag → (∃ pre, (sq (m + 1)).hs = pre ++ (sq k).hs) ∧ ∀ a ∈ (sq k).ag, a ∈ (sq (m + 1)).ag := fun e1 e2 =>
        ⟨⟨pre, e1.trans h1⟩, fun a ha => by rw [e2]; exact h2 a ha⟩
      cases hd : D m with
      | false =>
        obtain ⟨_, _, _, e1, e2⟩ := ft.no hd
        cases hcl : oi.cls with
        | eff => rw [hcl] at e1; exact ⟨⟨_ :: pre, by rw [e1, h1]; rfl⟩, fun a ha => by rw [e2]; exact h2 a ha⟩
        | _ => rw [hcl] at e1; exact same e1 e2
      | true =>
        cases hcl : oi.cls with
        | eff =>
          obtain ⟨_, _, _, e1, e2⟩ := ft.eff hd hcl
          exact ⟨⟨_ :: pre, by rw [e1, h1]; rfl⟩, fun a ha => by rw [e2]; exact h2 a ha⟩
        | alc => obtain ⟨_, _, _, _, _, _, _, _, _, _, e1, e2⟩ := ft.alc hd hcl; exact same e1 e2
        | lod =>
          obtain ⟨_, _, _, _, _, _, _, e1, e2⟩ := ft.lod hd hcl
          refine ⟨⟨pre, e1.trans h1⟩, fun a ha => ?_⟩
          rw [e2]
          split
          · exact List.mem_cons_of_mem _ (h2 a ha)
          · exact h2 a ha
        | pur => obtain ⟨_, _, _, _, _, _, _, e1, e2⟩ := ft.pur hd hcl; exact same e1 e2

theorem stable_mem {a : Again} : ∀ {hs : List LH}, stable E a hs = true → ∀ h ∈ hs, ∃ v h' pa', evO E (rho a.tm) a.o h ⟨[], true⟩ = .val v h' pa' true ∧ pa'.as = true ∧ v = a.v := by
  intro hs
  induction hs with
  | nil => intro _ h hm; cases hm
  | cons x hs ih =>
    intro hst h hm
    simp only [stable, evQ_eq, Bool.and_eq_true] at hst
    rcases List.mem_cons.1 hm with rfl | hm
    · have h1 := hst.1
      split at h1
      · rename_i v h' pa' hev
        obtain ⟨h2, h3⟩ := boolAnd_true.1 h1
        exact ⟨v, h', pa', hev, h2, (LV.beq_eq _ _ h3).symm⟩
      · cases h1
    · exact ih hst.2 h hm
theorem agains_mem {hs : List LH} : ∀ {ag : List Again}, agains E hs ag = true → ∀ a ∈ ag, stable E a ((hs.drop a.lo).take (a.hi + 1 - a.lo)) = true := by
  intro ag
  induction ag with
  | nil => intro _ a ha; cases ha
  | cons x ag ih =>
    intro h a ha
    simp only [agains, Bool.and_eq_true] at h
    rcases List.mem_cons.1 ha with rfl | ha
    · exact h.1
    · exact ih h.2 a ha

/-- A reading comes to its value in each memory it may be made in. -/
theorem DSeq.reads (q : DSeq E fr all sq D V) (_sp : DrawSpec E all) (h0 : (sq 0).hs = [(sq 0).h]) (hag : agains E (sq all.size).hs.reverse (sq all.size).ag = true) {j k : Nat} {o : Oper} (hj : all[j]? = some o) (hd : D j = true) (hcl : clsOf E o.op = .lod)
    (hk : k ≤ all.size) (hlo : (zl all).countP (fun x => effX E x && bit all j x.1) ≤ pk E all k) (hhi : pk E all k ≤ (zl all).countP (fun x => effX E x && boolNot (bit all x.1 j)))
    (hjlo : (zl all).countP (fun x => effX E x && bit all j x.1) ≤ pk E all j) (hjhi : pk E all j ≤ (zl all).countP (fun x => effX E x && boolNot (bit all x.1 j))) :
    ∃ hh pa pa' h', (hh.bs = (sq k).h.bs ∨ (pk E all k = pk E all j ∧ hh.bs = (sq j).h.bs)) ∧ (hh.ro = (sq 0).h.ro ∧ (sq 0).h.nx ≤ hh.nx) ∧ evO E (rho (sq j).tm) o hh pa = .val (V j) h' pa' true ∧ pa'.as = true := by
  have hjl : j < all.size := (Array.getElem?_eq_some_iff.1 hj).1
  obtain ⟨oi, hc, _, e1, e2, ft⟩ := q.fact j o hj
  obtain ⟨pa, pa', h', h1, h2, _, _, _, h3⟩ := ft.lod hd (hc.trans hcl)
  by_cases hlt : oi.lo < oi.hi
  · have hb : Nat.blt oi.lo oi.hi = true := Nat.ble_eq_true_of_le hlt
    rw [hb] at h3
    simp only at h3
    have hmem : (⟨o, (sq j).tm, V j, oi.lo, oi.hi⟩ : Again) ∈ (sq all.size).ag := (q.later (k := j + 1) (by omega) (Nat.le_refl _)).2 _ (by rw [h3]; exact List.mem_cons_self ..)
    have hst := agains_mem hag _ hmem
    simp only at hst
    obtain ⟨hd', tl, g1, g2, g3, g4⟩ := q.phases h0 k hk
    obtain ⟨⟨pre, g5⟩, _⟩ := q.later hk (Nat.le_refl _)
    have hidx : (sq all.size).hs.reverse[pk E all k]? = some hd' := by
      rw [g5, g1, ← g4]; simp
    have hin : hd' ∈ ((sq all.size).hs.reverse.drop oi.lo).take (oi.hi + 1 - oi.lo) := by
      apply List.mem_of_getElem? (i := pk E all k - oi.lo)
      rw [List.getElem?_take, if_pos (by omega), List.getElem?_drop, show oi.lo + (pk E all k - oi.lo) = pk E all k by omega]
      exact hidx
    obtain ⟨v, h'', pa'', r1, r2, r3⟩ := stable_mem hst hd' hin
    simp only at r1 r3
    exact ⟨hd', _, pa'', h'', .inl g2, g3, r3 ▸ r1, r2⟩
  · exact ⟨(sq j).h, pa, pa', h', .inr ⟨by omega, rfl⟩, ⟨q.ro (by omega), q.nx_mono (by omega) (by omega)⟩, h1, h2⟩
end
end Go.Ev
