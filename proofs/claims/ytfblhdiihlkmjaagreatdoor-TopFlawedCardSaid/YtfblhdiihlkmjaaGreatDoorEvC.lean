/- An evaluator of translated Go code over logical memory, and its soundness (EvC). -/
import Derived.Test.YtfblhdiihlkmjaaGreatDoorEvB
import Derived.Deep.DeepAppendWide
import Derived.Laws.IdiomStrings
/- Operations that write, or lay blocks. -/
namespace Go.Ev
open Go

/-- An operation comes to a value, and memory stands for what it should. -/
def Does (P : Program) (s : Sem Next) (ρ : Rn) (h : LH) (w : World) (v : LV) (h' : LH) : Prop :=
  ∃ w', (s.run P w = .ok (.value (v.real ρ)) w' ∨ (s.run P w = .ok .skip w' ∧ v = undefL)) ∧ HEq ρ h' w' ∧ Kept ρ h w w' ∧ FootIn ρ h w ρ h'

theorem Does.same {P : Program} {s : Sem Next} {ρ : Rn} {h : LH} {w : World} {v : LV} (hh : HEq ρ h w) (e : s.run P w = .ok (.value (v.real ρ)) w) : Does P s ρ h w v h :=
  ⟨w, .inl e, hh, Kept.refl _ _ _, FootIn.refl _ _ _⟩

section
variable {E : Env}

theorem oneL_real {v : LV} (h : oneL v = true) (ρ : Rn) : (v.real ρ).oneCell' = true := by
  cases v with
  | agg cs => cases h
  | tup vs => cases h
  | raw v => cases v <;> first | rfl | cases h
  | ptr a => cases a <;> rfl
  | slice a l c => cases a <;> cases c <;> rfl
  | map r => cases r <;> rfl
  | _ => simp [LV.real, Value.oneCell']
theorem allOne_real : ∀ {l : List LV}, allOne l = true → ∀ (ρ : Rn), ∀ x ∈ l.map (LV.real ρ), x.oneCell' = true := by
  intro l
  induction l with
  | nil => intro _ ρ x hx; cases hx
  | cons v l ih =>
    intro h ρ x hx
    simp only [allOne] at h
    split at h
    · rename_i h1
      simp only [List.map_cons, List.mem_cons] at hx
      rcases hx with rfl | hx
      · exact oneL_real h1 ρ
      · exact ih h ρ x hx
    · cases h

/-- Cells laid over: in the model and in logical memory. -/
theorem storeL_sound {β : Type} {bad X : β} {a : LA} {xs : List LV} {h : LH} {k : LH → β} (hx : storeL bad a xs h k = X) (hX : X ≠ bad) :
    ∃ h', k h' = X ∧ h'.ro = h.ro ∧ h'.nx = h.nx ∧ ∀ (ρ : Rn) (w : World) (P : Program), HEq ρ h w →
      ∃ w', (storeCells (a.real ρ) (xs.map (LV.real ρ)) 0).run P w = .ok () w' ∧ HEq ρ h' w' ∧ Kept ρ h w w' ∧ FootIn ρ h w ρ h' := by
  unfold storeL at hx
  split at hx
  · rename_i hg
    obtain ⟨hro, hone⟩ := boolAnd_true.1 hg
    have hro := Nat.le_of_ble_eq_true hro
    split at hx
    · rename_i vs n t gr st hb
      split at hx
      · rename_i vs' hput
        rw [LH.put_eq] at hx
        refine ⟨_, hx, rfl, rfl, fun ρ w P hh => ?_⟩
        obtain ⟨hn, C, fz, hrow, ⟨rest, hC⟩, hst, hfz, hg⟩ := hh.row hb
        have hCs : C.size = vs.length + rest.length := by rw [← Array.length_toList, hC]; simp
        have hval : (overlay (xs.map (LV.real ρ)) a.off C).toList = vs'.map (LV.real ρ) ++ rest ∧ vs'.length = vs.length ∧ (xs = [] ∨ a.off + xs.length ≤ vs.length) := by
          by_cases hnil : xs = []
          · subst hnil
            have := putL_nil hput
            subst this
            exact ⟨by simpa [overlay] using hC, rfl, .inl rfl⟩
          · obtain ⟨e1, e2⟩ := putL_some hput hnil
            refine ⟨?_, by rw [e1]; simp; omega, .inr e2⟩
            rw [overlay_toList _ _ _ (by rw [hCs]; simp; omega), hC, e1]
            simp only [List.map_append, List.map_take, List.map_drop, List.length_map]
            rw [List.take_append_of_le_length (by simp; omega), List.drop_append_of_le_length (by simp; omega)]
            simp
        obtain ⟨hov, hlen, hle⟩ := hval
        refine ⟨w.row (ρ.s a.b) (.cells (overlay (xs.map (LV.real ρ)) a.off C) t fz), ?_, ?_, ?_, ?_⟩
        · rcases hle with rfl | hle
          · simp [storeCells, overlay, row_self hrow]
          · rw [show a.real ρ = ⟨ρ.s a.b, a.off, none⟩ from rfl, run_storeCells_row _ _ _ _ C hrow (by rw [hCs]; simp; omega) hfz (allOne_real hone ρ)]
            rfl
        · refine hh.set hb rfl rfl ⟨by rw [hn, hlen], _, fz, rfl, ⟨rest, hov⟩, hst, by rw [overlay_size]; exact hfz, by rw [overlay_size]; exact hg⟩
        · exact Kept.set hb rfl hro rfl rfl rfl rfl
        · exact FootIn.set hb rfl
      · exact absurd hx.symm hX
    · exact absurd hx.symm hX
  · exact absurd hx.symm hX

theorem oStore_sound {t : TypeId} {a x v : LV} {h h' : LH} {pa pa' : Path} {c : Bool} (hx : oStore E t a x.cells h pa = .val v h' pa' c) :
    h'.ro = h.ro ∧ h'.nx = h.nx ∧ pa' = pa ∧ ∀ (ρ : Rn) (w : World), HEq ρ h w → Does E.P (do Instr.storeAt t (a.real ρ) (x.real ρ); pure .skip) ρ h w v h' := by
  unfold oStore at hx
  split at hx
  · rename_i a
    split at hx
    · rename_i n hs
      split at hx
      · rename_i hlen
        have hlen := lenT_eq _ _ hlen
        obtain ⟨h2, h1, hro, hnx, hrun⟩ := storeL_sound hx (by intro e; cases e)
        cases h1
        refine ⟨hro, hnx, rfl, fun ρ w hh => ?_⟩
        obtain ⟨w', hr, hh', hk, hf⟩ := hrun ρ w E.P hh
        refine ⟨w', .inr ⟨?_, rfl⟩, hh', hk, hf⟩
        have hvc : (x.real ρ).cells.size = n := by rw [← Array.length_toList, cells_real]; simpa using hlen
        have hcl : (x.real ρ).cells.toList = x.cells.map (LV.real ρ) := cells_real ρ x
        simp only [Instr.storeAt, LV.real, Instr.sureAddr, storeVar, Sem.run_bind, Sem.run_pure, Result.andThen_ok, run_sizeL hs, hvc, ne_eq, not_true_eq_false, if_false, hcl, hr]
      · cases hx
    · cases hx
  · cases hx

/-! ### blocks laid -/
/-- A block is laid: what it holds stands at the next number. -/
theorem add_sound {ρ : Rn} {h : LH} {w w' : World} {o : LO} {O : Obj} (hh : HEq ρ h w) (e : w'.heap = w.heap.push O) (e1 : w'.tape = w.tape) (e2 : w'.os = w.os) (e3 : w'.output = w.output)
    (hn : ρ.s h.nx = w.heap.size) (ho : OEq ρ h.nx o (some O)) : HEq ρ (h.add o) w' ∧ Kept ρ h w w' ∧ FootIn ρ h w ρ (h.add o) :=
  ⟨hh.add e hn ho, Kept.add e e1 e2 e3, FootIn.add hn⟩

theorem cells_OEq (ρ : Rn) (id : Nat) (vs : List LV) (n : Nat) (t : TypeId) (C : Array Value) (hn : n = vs.length) (hC : C.toList = vs.map (LV.real ρ)) : OEq ρ id (.cells vs n t none false) (some (.cells C t (0, 0))) :=
  ⟨hn, C, (0, 0), rfl, ⟨[], by simp [hC]⟩, fun _ => rfl, fun o _ => by simp, fun g h => by cases h⟩

theorem oPtr_val {cs : List LV} {t : TypeId} {v : LV} {h h' : LH} {pa pa' : Path} {c : Bool} (hx : oPtr cs t h pa = .val v h' pa' c) : v = .ptr (some ⟨h.nx, 0, 0, 0⟩) ∧ h' = h.add (.cells cs cs.length t none false) ∧ pa' = pa := by
  unfold oPtr at hx
  rw [LH.push_eq] at hx
  cases hx
  exact ⟨rfl, rfl, rfl⟩

/-- A new row of cells, and a pointer to it. -/
theorem newRow_does {P : Program} {ρ : Rn} {h : LH} {w : World} {cs : List LV} {t : TypeId} {C : Array Value} (hh : HEq ρ h w) (hn : ρ.s h.nx = w.heap.size) (hC : C.toList = cs.map (LV.real ρ)) {s : Sem Next}
    (hs : s.run P w = .ok (.value (.pointer (some ⟨w.heap.size, 0, none⟩))) { w with heap := w.heap.push (.cells C t) }) :
    Does P s ρ h w (.ptr (some ⟨h.nx, 0, 0, 0⟩)) (h.add (.cells cs cs.length t none false)) := by
  obtain ⟨h1, h2, h3⟩ := add_sound (w' := { w with heap := w.heap.push (.cells C t) }) hh rfl rfl rfl rfl hn (cells_OEq ρ h.nx cs cs.length t C rfl hC)
  refine ⟨_, .inl ?_, h1, h2, h3⟩
  rw [hs]
  simp [LV.real, LA.real, LA.off, hn]

theorem oAlloc_sound {t : TypeId} {v : LV} {h h' : LH} {pa pa' : Path} {c : Bool} (hx : oAlloc E t h pa = .val v h' pa' c) :
    (∃ z, h' = h.add (.cells z z.length t none false)) ∧ pa' = pa ∧ ∀ (ρ : Rn) (w : World), HEq ρ h w → ρ.s h.nx = w.heap.size →
      Does E.P (do pure (.value (← Instr.alloc t true (.tuple #[])))) ρ h w v h' := by
  unfold oAlloc at hx
  split at hx
  · rename_i z hz
    obtain ⟨rfl, rfl, rfl⟩ := oPtr_val hx
    refine ⟨⟨z, rfl⟩, rfl, fun ρ w hh hn => ?_⟩
    obtain ⟨zv, hzv, hzc⟩ := run_zeroL hz w
    exact newRow_does hh hn (hzc ρ) (by simp [Instr.alloc, hzv, newVar, newRow])
  · cases hx

theorem oBox_sound {t : TypeId} {x v : LV} {h h' : LH} {pa pa' : Path} {c : Bool} (hx : oPtr x.cells t h pa = .val v h' pa' c) :
    (∃ z, h' = h.add (.cells z z.length t none false)) ∧ pa' = pa ∧ ∀ (ρ : Rn) (w : World), HEq ρ h w → ρ.s h.nx = w.heap.size →
      Does E.P (do pure (.value (← Instr.box t (x.real ρ)))) ρ h w v h' := by
  obtain ⟨rfl, rfl, rfl⟩ := oPtr_val hx
  refine ⟨⟨_, rfl⟩, rfl, fun ρ w hh hn => ?_⟩
  exact newRow_does hh hn (cells_real ρ x) (by simp [Instr.box, newVar, newRow])

theorem map_range_mod (z : List Value) (hz : z ≠ []) (zA : Array Value) (hA : zA.toList = z) : ∀ n : Nat, ((List.range (n * z.length)).map fun i => zA[i % zA.size]!) = (List.replicate n z).flatten := by
  have hsz : zA.size = z.length := by rw [← hA]; simp
  have hpos : 0 < z.length := List.length_pos_iff.2 hz
  intro n
  induction n with
  | zero => simp
  | succ n ih =>
    rw [List.replicate_succ', List.flatten_append, ← ih, Nat.succ_mul, List.range_add, List.map_append]
    congr 1
    simp only [List.flatten_cons, List.flatten_nil, List.append_nil, List.map_map]
    apply List.ext_getElem
    · simp
    · intro i h1 h2
      simp only [List.getElem_map, List.getElem_range, Function.comp]
      have hi : i < z.length := h2
      have : (n * z.length + i) % zA.size = i := by rw [hsz, Nat.mul_comm, Nat.mul_add_mod, Nat.mod_eq_of_lt hi]
      rw [this]
      have hiA : i < zA.size := by omega
      rw [getElem!_pos zA i hiA]
      simp [← hA]

theorem repL_map (z : List LV) (n : Nat) (ρ : Rn) : (repL z n).map (LV.real ρ) = (List.replicate n (z.map (LV.real ρ))).flatten := by
  rw [repL_eq, List.map_flatten]; simp

theorem oSliceOf_val {cs : List LV} {e : TypeId} {sz len : Nat} {ok : Bool} {v : LV} {h h' : LH} {pa pa' : Path} {c : Bool} (hx : oSliceOf cs e sz len h pa ok = .val v h' pa' c) :
    v = .slice (some ⟨h.nx, 0, sz, 0⟩) len (.kn len) ∧ h' = h.add (.cells cs (Nat.mul len sz) e none false) ∧ pa' = pa := by
  unfold oSliceOf at hx
  rw [LH.push_eq] at hx
  cases hx
  exact ⟨rfl, rfl, rfl⟩

theorem fill_zero {e : TypeId} {sz len : Nat} {z : List LV} (hz : zeroL E e = some z) (hl : z.length = sz) (w : World) : ∃ zero : Array Value,
    (if len * sz = 0 then pure #[] else do pure (← zeroValue e).cells : Sem (Array Value)).run E.P w = .ok zero w ∧ ∀ ρ : Rn, ((Array.range (len * sz)).map (zero[· % zero.size]!)).toList = (repL z len).map (LV.real ρ) := by
  obtain ⟨zv, hzv, hzc⟩ := run_zeroL hz w
  by_cases h0 : len * sz = 0
  · refine ⟨#[], by simp [h0], fun ρ => ?_⟩
    have : (repL z len).length = 0 := by rw [repL_length, hl, h0]
    rw [List.eq_nil_of_length_eq_zero this, h0]; simp [Array.range_zero']
  · refine ⟨zv.cells, by simp [h0, hzv], fun ρ => ?_⟩
    have hne : z.map (LV.real ρ) ≠ [] := by
      intro e
      have : z = [] := by simpa using e
      subst this
      simp at hl; subst hl; simp at h0
    have := map_range_mod (z.map (LV.real ρ)) hne zv.cells (hzc ρ) len
    rw [repL_map, ← this]
    simp [hl]

theorem fill_size {place : Nat → Option (Nat × Nat)} : ∀ {l : List (Nat × Value)} {C C' : Array Value}, Instr.fill place C l = some C' → C'.size = C.size := by
  intro l
  induction l with
  | nil => intro C C' h; simp [Instr.fill] at h; rw [h]
  | cons p l ih =>
    intro C C' h
    obtain ⟨i, pv⟩ := p
    simp only [Instr.fill] at h
    split at h
    · cases h
    · rename_i off size _
      split at h
      · cases h
      · rw [ih h, ← Array.foldl_toList, Array.toList_zipIdx]
        have := zipFold off pv.cells.toList 0 C
        simp only [Nat.add_zero] at this
        exact (congrArg Array.size this).trans (overlay_size _ _ _)

theorem oBuildSlice_sound {t : TypeId} {len : Nat} {parts : List (Nat × LV)} {v : LV} {h h' : LH} {pa pa' : Path} {c : Bool} (hx : oBuildSlice E t len parts h pa = .val v h' pa' c) :
    (∃ o, h' = h.add o) ∧ pa' = pa ∧ ∀ (ρ : Rn) (w : World) (ps : Array (Nat × Value)), ps.toList = parts.map (fun p => (p.1, p.2.real ρ)) → HEq ρ h w → ρ.s h.nx = w.heap.size →
      Does E.P (do pure (.value (← Instr.buildSlice t len ps))) ρ h w v h' := by
  unfold oBuildSlice at hx
  split at hx
  · rename_i e hu
    split at hx
    · cases hx
    rename_i sz hs
    split at hx
    · rename_i z hz hle
      split at hx
      · rename_i cs hlen hf
        obtain ⟨rfl, rfl, rfl⟩ := oSliceOf_val hx
        refine ⟨⟨_, rfl⟩, rfl, fun ρ w ps hps hh hn => ?_⟩
        have hl := lenT_eq _ _ hlen
        have hle : len * sz ≤ 16777216 := Nat.le_of_ble_eq_true hle
        obtain ⟨zero, hzr, hzc⟩ := fill_zero (len := len) hz hl w
        obtain ⟨C', h1, h2⟩ := fillL_sound (place' := fun i => some (i * sz, sz)) (fun i x hi => hi) ρ parts (repL z len) cs _ (hzc ρ) hf
        rw [← hps] at h1
        have hcs : cs.length = len * sz := by
          have e1 : C'.size = cs.length := by rw [← Array.length_toList, h2]; simp
          have e3 := fill_size h1
          simp at e3
          omega
        have hrun : (Instr.buildSlice t len ps).run E.P w = .ok (.slice (some ⟨w.heap.size, 0, none⟩) len len) { w with heap := w.heap.push (.cells C' e) } := by
          simp only [Instr.buildSlice, Sem.run_bind, run_underlyingE hu, Result.andThen_ok, run_sizeL hs]
          rw [if_neg (by omega)]
          by_cases h0 : len * sz = 0
          · rw [if_pos h0] at hzr ⊢
            simp only [Sem.run_pure, Result.ok.injEq, and_true] at hzr
            subst hzr
            simp only [Sem.run_bind, Sem.run_pure, Result.andThen_ok, h1, newRow, run_newObj]
          · rw [if_neg h0] at hzr ⊢
            obtain ⟨zv, hzv, _⟩ := run_zeroL hz w
            simp only [Sem.run_bind, hzv, Result.andThen_ok, Sem.run_pure, Result.ok.injEq, and_true] at hzr
            subst hzr
            simp only [Sem.run_bind, hzv, Sem.run_pure, Result.andThen_ok, h1, newRow, run_newObj]
        obtain ⟨k1, k2, k3⟩ := add_sound (w' := { w with heap := w.heap.push (.cells C' e) }) hh rfl rfl rfl rfl hn (cells_OEq ρ h.nx cs (Nat.mul len sz) e C' hcs.symm h2)
        refine ⟨_, .inl ?_, k1, k2, k3⟩
        simp [hrun, LV.real, LA.real, LA.off, hn]
      · cases hx
    · cases hx
  · cases hx

end
end Go.Ev

/- Maps made and written, slices made, iterators. -/
namespace Go.Ev
open Go

section
variable {E : Env}

theorem oMakeMap_sound {t : TypeId} {r : Option Operand} {v : LV} {h h' : LH} {pa pa' : Path} {c : Bool} (hx : oMakeMap r h pa = .val v h' pa' c) :
    (∃ o, h' = h.add o) ∧ pa' = pa ∧ r = none ∧ ∀ (ρ : Rn) (w : World), HEq ρ h w → ρ.s h.nx = w.heap.size → Does E.P (do pure (.value (← Instr.makeMap t none))) ρ h w v h' := by
  unfold oMakeMap at hx
  split at hx
  · rw [LH.push_eq] at hx
    cases hx
    refine ⟨⟨_, rfl⟩, rfl, rfl, fun ρ w hh hn => ?_⟩
    obtain ⟨k1, k2, k3⟩ := add_sound (w' := { w with heap := w.heap.push (.map #[] 0) }) (o := .map [] 0) hh rfl rfl rfl rfl hn rfl
    exact ⟨_, .inl (by simp [Instr.makeMap, LV.real, hn]), k1, k2, k3⟩
  · cases hx

theorem oMakeSlice_sound {t : TypeId} {len cap v : LV} {h h' : LH} {pa pa' : Path} {c : Bool} (hx : oMakeSlice E t len cap h pa = .val v h' pa' c) (hc : c = true) :
    (∃ o, h' = h.add o) ∧ pa' = pa ∧ ∀ (ρ : Rn) (w : World), HEq ρ h w → ρ.s h.nx = w.heap.size → Does E.P (do pure (.value (← Instr.makeSlice t (len.real ρ) (cap.real ρ)))) ρ h w v h' := by
  unfold oMakeSlice at hx
  split at hx
  · rename_i e k1 l k2 cp hu
    split at hx
    · rename_i z i hz hi
      split at hx
      · rename_i hlen
        rw [LH.push_eq] at hx
        cases hx
        have hl := lenT_eq _ _ hlen
        obtain ⟨c1, c2⟩ := boolAnd_true.1 hc
        obtain ⟨c2, c3⟩ := boolAnd_true.1 c2
        have c1 := of_decide_eq_true c1
        have c2 := of_decide_eq_true c2
        obtain ⟨c3, c4⟩ := of_decide_eq_true c3
        refine ⟨⟨_, rfl⟩, rfl, fun ρ w hh hn => ?_⟩
        have hwl : IntKind.i64.wrap l = l := by simp [IntKind.wrap, IntKind.bits, IntKind.signed]; omega
        have hwc : IntKind.i64.wrap cp = cp := by simp [IntKind.wrap, IntKind.bits, IntKind.signed]; omega
        obtain ⟨zero, hzr, hzc⟩ := fill_zero (len := cp.toNat) hz hl w
        have hbytes : ¬ (i.bytes * cp > 2 ^ 48) := by
          have : (i.bytes : Int) * cp = cp * i.bytes := Int.mul_comm _ _
          omega
        have hcz : ((Array.range (cp.toNat * i.size)).map (zero[· % zero.size]!)).toList = (repL z cp.toNat).map (LV.real ρ) := hzc ρ
        have hrun : (Instr.makeSlice t (.int k1 l) (.int k2 cp)).run E.P w = .ok (.slice (some ⟨w.heap.size, 0, none⟩) l.toNat cp.toNat) { w with heap := w.heap.push (.cells ((Array.range (cp.toNat * i.size)).map (zero[· % zero.size]!)) e) } := by
          simp only [Instr.makeSlice, Sem.run_bind, run_underlyingE hu, asInt, asIntOf, Sem.run_pure, Result.andThen_ok, run_typeInfoE hi, hwl, hwc]
          rw [if_neg (by
            simp only [Bool.or_eq_true, decide_eq_true_eq]
            rintro (((h | h) | h) | h) <;> omega)]
          rw [Sem.run_bind, run_askRoom, Result.andThen_ok, Sem.run_bind, run_sizeOfE hi, Result.andThen_ok]
          by_cases h0 : cp.toNat * i.size = 0
          · rw [if_pos h0] at hzr ⊢
            simp only [Sem.run_pure, Result.ok.injEq, and_true] at hzr
            subst hzr
            simp only [Sem.run_bind, Sem.run_pure, Result.andThen_ok, newRow, run_newObj]
          · rw [if_neg h0] at hzr ⊢
            obtain ⟨zv, hzv, _⟩ := run_zeroL hz w
            simp only [Sem.run_bind, hzv, Result.andThen_ok, Sem.run_pure, Result.ok.injEq, and_true] at hzr
            subst hzr
            simp only [Sem.run_bind, hzv, Sem.run_pure, Result.andThen_ok, newRow, run_newObj]
        obtain ⟨j1, j2, j3⟩ := add_sound (w' := { w with heap := w.heap.push (.cells ((Array.range (cp.toNat * i.size)).map (zero[· % zero.size]!)) e) }) hh rfl rfl rfl rfl hn
          (cells_OEq ρ h.nx (repL z cp.toNat) (Nat.mul cp.toNat i.size) e _ (by rw [repL_length, hl]; rfl) hcz)
        refine ⟨_, .inl ?_, j1, j2, j3⟩
        simp [hrun, LV.real, LA.real, LA.off, hn]
      · cases hx
    · cases hx
  · cases hx

theorem modL_map (ρ : Rn) (v : LV) : ∀ (i : Nat) (es : List (LV × LV × Nat)), (modL v i es).map (ent ρ) = (es.map (ent ρ)).modify i fun e => { e with val := v.real ρ } := by
  intro i
  induction i with
  | zero => intro es; cases es with
    | nil => rfl
    | cons e es => rfl
  | succ i ih => intro es; cases es with
    | nil => rfl
    | cons e es => simp [modL, ih]
theorem eraseL_map (ρ : Rn) : ∀ (i : Nat) (es : List (LV × LV × Nat)), (eraseL i es).map (ent ρ) = (es.map (ent ρ)).eraseIdx i := by
  intro i
  induction i with
  | zero => intro es; cases es with
    | nil => rfl
    | cons e es => rfl
  | succ i ih => intro es; cases es with
    | nil => rfl
    | cons e es => simp [eraseL, ih]

theorem sameL_bits {x y : LV} (h : sameL x y = some true) (ρ : Rn) : Instr.sameBits 10000 (y.real ρ) (x.real ρ) = true ∧ y.real ρ = x.real ρ := by
  unfold sameL at h
  split at h
  · split at h
    · rename_i hk
      obtain rfl := kEq_eq hk
      simp only [Option.some.injEq] at h
      have := eq_of_beq h
      subst this
      exact ⟨by simp [LV.real, Instr.sameBits], rfl⟩
    · cases h
  · simp only [Option.some.injEq] at h
    have := eq_of_beq h
    subst this
    exact ⟨by simp only [LV.real, Instr.sameBits, beq_toListBytes]; simp, rfl⟩
  · simp only [Option.some.injEq] at h
    have := eq_of_beq h
    subst this
    exact ⟨by simp [LV.real, Instr.sameBits], rfl⟩
  · cases h

theorem oMapSet_sound {t : TypeId} {m x y v : LV} {h h' : LH} {pa pa' : Path} {c : Bool} (hx : oMapSet E t m x y h pa = .val v h' pa' c) (hp : pa'.as = true) :
    h'.ro = h.ro ∧ h'.nx = h.nx ∧ pa.as = true ∧ ∀ (ρ : Rn) (w : World), HEq ρ h w → Does E.P (do Instr.mapUpdate t (m.real ρ) (x.real ρ) (y.real ρ); pure .skip) ρ h w v h' := by
  unfold oMapSet at hx
  split at hx
  · rename_i kt et r hu
    split at hx
    · rename_i es clock hk hb hro
      have hro := Nat.le_of_ble_eq_true hro
      obtain ⟨d, hd, hfit⟩ := keyOk_some hk
      obtain ⟨rr, pa2, h1, h2⟩ := findL_sound hfit (by intro e; cases e) hx
      have hobj : ∀ {ρ : Rn} {w : World}, HEq ρ h w → w.heap[ρ.s r]? = some (.map (es.map (ent ρ)).toArray clock) := fun hh => hh.obj r _ hb
      cases rr with
      | none =>
        simp only [LH.put_eq] at h1
        cases h1
        obtain ⟨h3, h4, _⟩ := h2 hp
        refine ⟨rfl, rfl, h3, fun ρ w hh => ?_⟩
        have ho := hobj hh
        have hf := run_findKeyE (E := E) hd (h4 ρ) w
        have hrun : (Instr.mapUpdate t (.map (some (ρ.s r))) (x.real ρ) (y.real ρ)).run E.P w = .ok () { w with heap := w.heap.setIfInBounds (ρ.s r) (.map ((es ++ [(x, y, clock)]).map (ent ρ)).toArray (clock + 1)) } := by
          simp only [Instr.mapUpdate, Sem.run_bind, run_underlyingE hu, Result.andThen_ok, run_getObjE ho (by intro _ _ _ e; cases e), run_checkKeyE hk, hf, found, run_setObjE ho (by intro _ _ _ e; cases e)]
          simp [ent]
        refine ⟨{ w with heap := w.heap.setIfInBounds (ρ.s r) (.map ((es ++ [(x, y, clock)]).map (ent ρ)).toArray (clock + 1)) }, .inr ⟨?_, rfl⟩, hh.set hb rfl rfl ?_, Kept.set hb rfl hro rfl rfl rfl rfl, FootIn.set hb rfl⟩
        · simp only [LV.real, Sem.run_bind, hrun, Result.andThen_ok, Sem.run_pure]
        · rfl
      | some jv =>
        obtain ⟨j, vv⟩ := jv
        simp only [LH.put_eq] at h1
        cases h1
        obtain ⟨h3, h4, e, _, he, hsame⟩ := h2 hp
        refine ⟨rfl, rfl, h3, fun ρ w hh => ?_⟩
        have ho := hobj hh
        have hf := run_findKeyE (E := E) hd (h4 ρ) w
        obtain ⟨hb1, hb2⟩ := sameL_bits hsame ρ
        have hj : (es.map (ent ρ)).toArray[j]? = some (ent ρ e) := by simp at he; simp [he]
        have hkey : ((((es.map (ent ρ)).toArray[j]?).map (·.key)).getD (x.real ρ)) = x.real ρ := by rw [hj]; simp [ent, hb2]
        have hrun : (Instr.mapUpdate t (.map (some (ρ.s r))) (x.real ρ) (y.real ρ)).run E.P w = .ok () { w with heap := w.heap.setIfInBounds (ρ.s r) (.map ((modL y j es).map (ent ρ)).toArray clock) } := by
          simp only [Instr.mapUpdate, Sem.run_bind, run_underlyingE hu, Result.andThen_ok, run_getObjE ho (by intro _ _ _ e; cases e), run_checkKeyE hk, hf, found, hkey]
          have hst : (Instr.keyThatStays (x.real ρ) (x.real ρ)).run E.P w = .ok (x.real ρ) w := by
            rw [hb2] at hb1
            simp [Instr.keyThatStays, hb1]
          simp only [hst, Result.andThen_ok, run_setObjE ho (by intro _ _ _ e; cases e)]
          have : ((es.map (ent ρ)).toArray.modify j fun e => { e with key := x.real ρ, val := y.real ρ }) = ((modL y j es).map (ent ρ)).toArray := by
            apply Array.ext'
            rw [modL_map]
            simp only [Array.toList_modify]
            apply List.ext_getElem?
            intro i
            simp only [List.getElem?_modify]
            by_cases hi : j = i
            · subst hi
              have he' : es[j]? = some e := by simpa using he
              simp [he', ent, hb2]
            · simp [hi]
          rw [this]
        refine ⟨{ w with heap := w.heap.setIfInBounds (ρ.s r) (.map ((modL y j es).map (ent ρ)).toArray clock) }, .inr ⟨?_, rfl⟩, hh.set hb rfl rfl ?_, Kept.set hb rfl hro rfl rfl rfl rfl, FootIn.set hb rfl⟩
        · simp only [LV.real, Sem.run_bind, hrun, Result.andThen_ok, Sem.run_pure]
        · rfl
    · cases hx
  · cases hx

theorem oRange_sound {t : TypeId} {x v : LV} {h h' : LH} {pa pa' : Path} {c : Bool} (hx : oRange E t x h pa = .val v h' pa' c) :
    (∃ o, h' = h.add o) ∧ pa' = pa ∧ ∀ (ρ : Rn) (w : World), HEq ρ h w → ρ.s h.nx = w.heap.size → Does E.P (do pure (.value (← Instr.range t (x.real ρ)))) ρ h w v h' := by
  unfold oRange at hx
  split at hx
  · rename_i s hu
    rw [LH.push_eq] at hx
    cases hx
    refine ⟨⟨_, rfl⟩, rfl, fun ρ w hh hn => ?_⟩
    obtain ⟨k1, k2, k3⟩ := add_sound (w' := { w with heap := w.heap.push (.stringIter ⟨s.toArray⟩ 0) }) (o := .iter s 0) hh rfl rfl rfl rfl hn rfl
    exact ⟨_, .inl (by simp [Instr.range, LV.real, hn, run_underlyingE hu, LA.real, LA.off]), k1, k2, k3⟩
  · cases hx

theorem oNext_sound {it v : LV} {isS : Bool} {ty : TypeId} {h h' : LH} {pa pa' : Path} {c : Bool} (hx : oNext it isS h pa = .val v h' pa' c) (hp : pa'.as = true) :
    h'.ro = h.ro ∧ h'.nx = h.nx ∧ pa.as = true ∧ ∀ (ρ : Rn) (w : World), HEq ρ h w → Does E.P (do pure (.value (← Instr.next (it.real ρ) isS ty))) ρ h w v h' := by
  unfold oNext at hx
  split at hx
  · rename_i a
    split at hx
    · rename_i s pos hoff hb hro
      have hoff := Nat.eq_of_beq_eq_true hoff
      have hro := Nat.le_of_ble_eq_true hro
      obtain ⟨dd, pa2, hx, hd⟩ := brX hx
      have hsz : (⟨s.toArray⟩ : ByteArray).size = s.length := by simp [ByteArray.size]
      cases dd
      · cases hx
        obtain ⟨h1, h2⟩ := hd hp
        have hge : ¬ pos < s.length := by
          intro hlt
          have : Nat.blt pos s.length = true := Nat.ble_eq_true_of_le hlt
          rw [this] at h2; cases h2
        refine ⟨rfl, rfl, h1, fun ρ w hh => ?_⟩
        have ho : w.heap[ρ.s a.b]? = some (.stringIter ⟨s.toArray⟩ pos) := hh.obj a.b _ hb
        refine Does.same hh ?_
        simp only [LV.real, LA.real, hoff, Instr.next, Sem.run_bind, run_getObjE ho (by intro _ _ _ e; cases e), Result.andThen_ok, hsz, if_neg hge, Sem.run_pure, LVs.real]
      · simp only at hx
        generalize hdec : Utf8.decode ⟨s.toArray⟩ pos = dc at hx
        obtain ⟨cc, width⟩ := dc
        simp only at hx
        rw [LH.put_eq] at hx
        cases hx
        obtain ⟨h1, h2⟩ := hd hp
        have hlt : pos < s.length := Nat.le_of_ble_eq_true h2.symm
        refine ⟨rfl, rfl, h1, fun ρ w hh => ?_⟩
        have ho : w.heap[ρ.s a.b]? = some (.stringIter ⟨s.toArray⟩ pos) := hh.obj a.b _ hb
        refine ⟨{ w with heap := w.heap.setIfInBounds (ρ.s a.b) (.stringIter ⟨s.toArray⟩ (pos + width)) }, .inl ?_, hh.set hb rfl rfl rfl, Kept.set hb rfl hro rfl rfl rfl rfl, FootIn.set hb rfl⟩
        simp only [LV.real, LA.real, hoff, Instr.next, Sem.run_bind, run_getObjE ho (by intro _ _ _ e; cases e), Result.andThen_ok, hsz, if_pos hlt, hdec, run_setObjE ho (by intro _ _ _ e; cases e), Sem.run_pure, LVs.real, goInt]
    · cases hx
  · cases hx
end
end Go.Ev

/- Built-in functions; texts into bytes. -/
namespace Go.Ev
open Go

/-- A reckoning comes to a value, and memory stands for what it should. -/
def DoesR (P : Program) (s : Sem Value) (ρ : Rn) (h : LH) (w : World) (v : LV) (h' : LH) : Prop :=
  ∃ w', s.run P w = .ok (v.real ρ) w' ∧ HEq ρ h' w' ∧ Kept ρ h w w' ∧ FootIn ρ h w ρ h'

theorem DoesR.does {P : Program} {s : Sem Value} {ρ : Rn} {h : LH} {w : World} {v : LV} {h' : LH} (d : DoesR P s ρ h w v h') : Does P (do pure (.value (← s))) ρ h w v h' := by
  obtain ⟨w', e, r⟩ := d
  exact ⟨w', .inl (by simp [e]), r⟩
theorem DoesR.same {P : Program} {s : Sem Value} {ρ : Rn} {h : LH} {w : World} {v : LV} (hh : HEq ρ h w) (e : s.run P w = .ok (v.real ρ) w) : DoesR P s ρ h w v h :=
  ⟨w, e, hh, Kept.refl _ _ _, FootIn.refl _ _ _⟩

section
variable {E : Env}

theorem lenL_sound {x : LV} {n : Nat} (h : lenL x = some n) (ρ : Rn) (w : World) (P : Program) : (Builtin.lenOf (x.real ρ)).run P w = .ok n w := by
  unfold lenL at h
  split at h
  · rename_i a l c
    simp only [Option.some.injEq] at h
    subst h
    obtain ⟨a', c', e, _⟩ := slice_real ρ a l c
    rw [e]; rfl
  · rename_i s
    simp only [Option.some.injEq] at h
    subst h
    simp [LV.real, Builtin.lenOf, ByteArray.size]
  · cases h

/-- What a law on a built-in function says. -/
def BSound (E : Env) (b : Builtin) (ts : Array TypeId) (args : List LV) (v : LV) (h h' : LH) (pa _pa' : Path) : Prop :=
  pa.as = true ∧ h'.ro = h.ro ∧ h'.nx = h.nx ∧ ∀ (ρ : Rn) (w : World) (ty : TypeId) (cs : Array Bool), HEq ρ h w → Does E.P (builtin b ts ty cs (args.map (LV.real ρ)).toArray) ρ h w v h'

theorem bLen_sound {ts : Array TypeId} {t : TypeId} (ht : ts.toList = [t]) {x v : LV} {h h' : LH} {pa pa' : Path} {c : Bool} (hx : builtinL E .len ts [x] h pa = .val v h' pa' c) (hp : pa'.as = true) :
    BSound E .len ts [x] v h h' pa pa' := by
  obtain ⟨ts⟩ := ts
  simp only at ht
  subst ht
  unfold builtinL at hx
  simp only at hx
  unfold BSound
  simp only [builtin, List.map_cons, List.map_nil]
  split at hx
  · rename_i s hu
    cases hx
    exact ⟨hp, rfl, rfl, fun ρ w ty cs hh => (DoesR.same hh (by simp only [LV.real]; simp [Builtin.len_, run_underlyingE hu, goInt]; rfl)).does⟩
  · rename_i n e _ hu
    cases hx
    exact ⟨hp, rfl, rfl, fun ρ w ty cs hh => (DoesR.same hh (by simp [Builtin.len_, run_underlyingE hu, LV.real, goInt])).does⟩
  · rename_i e a n c' hu
    cases hx
    refine ⟨hp, rfl, rfl, fun ρ w ty cs hh => (DoesR.same hh ?_).does⟩
    obtain ⟨a', c'', e', _⟩ := slice_real ρ a n c'
    rw [e']
    simp [Builtin.len_, run_underlyingE hu, LV.real, goInt]
  · rename_i k e hu
    cases hx
    exact ⟨hp, rfl, rfl, fun ρ w ty cs hh => (DoesR.same hh (by simp [Builtin.len_, run_underlyingE hu, LV.real, goInt])).does⟩
  · rename_i k e r hu
    split at hx
    · rename_i es clock hb
      cases hx
      refine ⟨hp, rfl, rfl, fun ρ w ty cs hh => (DoesR.same hh ?_).does⟩
      have ho : w.heap[ρ.s r]? = some (.map (es.map (ent ρ)).toArray clock) := hh.obj r _ hb
      simp [Builtin.len_, run_underlyingE hu, LV.real, goInt, run_getObjE ho]
    · cases hx
  · cases hx

theorem bCap_sound {ts : Array TypeId} {t : TypeId} (ht : ts.toList = [t]) {x v : LV} {h h' : LH} {pa pa' : Path} {c : Bool} (hx : builtinL E .cap ts [x] h pa = .val v h' pa' c) (hp : pa'.as = true) :
    BSound E .cap ts [x] v h h' pa pa' := by
  obtain ⟨ts⟩ := ts
  simp only at ht
  subst ht
  unfold builtinL at hx
  simp only at hx
  unfold BSound
  simp only [builtin, List.map_cons, List.map_nil]
  split at hx
  · rename_i e a len n hu
    cases hx
    refine ⟨hp, rfl, rfl, fun ρ w ty cs hh => (DoesR.same hh ?_).does⟩
    cases a <;> simp [Builtin.cap_, run_underlyingE hu, LV.real, goInt]
  · cases hx

theorem minL_sound {lt : Bool} {x y v : LV} (h : minL lt x y = some v) (ρ : Rn) (w : World) (P : Program) :
    (match lt with
      | true => Builtin.min2 (x.real ρ) (y.real ρ)
      | false => Builtin.max2 (x.real ρ) (y.real ρ)).run P w = .ok (v.real ρ) w := by
  unfold minL at h
  split at h
  · split at h
    · rename_i hk
      obtain rfl := kEq_eq hk
      simp only [Option.some.injEq] at h
      subst h
      cases lt <;> simp [Builtin.min2, Builtin.max2, LV.real]
    · cases h
  · cases h

theorem bMin_sound {ts : Array TypeId} {x y v : LV} {h h' : LH} {pa pa' : Path} {c : Bool} (hx : builtinL E .min ts [x, y] h pa = .val v h' pa' c) (hp : pa'.as = true) :
    BSound E .min ts [x, y] v h h' pa pa' := by
  unfold builtinL at hx
  simp only at hx
  obtain ⟨h1, h2, h3, _⟩ := okv_val hx
  subst h2 h3
  exact ⟨hp, rfl, rfl, fun ρ w ty cs hh => by
    simp only [builtin]
    refine (DoesR.same hh ?_).does
    have := minL_sound h1 ρ w E.P
    simp only at this
    simp [Builtin.min_, this]⟩
theorem bMax_sound {ts : Array TypeId} {x y v : LV} {h h' : LH} {pa pa' : Path} {c : Bool} (hx : builtinL E .max ts [x, y] h pa = .val v h' pa' c) (hp : pa'.as = true) :
    BSound E .max ts [x, y] v h h' pa pa' := by
  unfold builtinL at hx
  simp only at hx
  obtain ⟨h1, h2, h3, _⟩ := okv_val hx
  subst h2 h3
  exact ⟨hp, rfl, rfl, fun ρ w ty cs hh => by
    simp only [builtin]
    refine (DoesR.same hh ?_).does
    have := minL_sound h1 ρ w E.P
    simp only at this
    simp [Builtin.max_, this]⟩

theorem bCopy_sound {ts : Array TypeId} {dT : TypeId} {tr : List TypeId} (ht : ts.toList = dT :: tr) {d s v : LV} {h h' : LH} {pa pa' : Path} {c : Bool} (hx : builtinL E .copy ts [d, s] h pa = .val v h' pa' c) (hp : pa'.as = true) :
    BSound E .copy ts [d, s] v h h' pa pa' := by
  obtain ⟨ts⟩ := ts
  simp only at ht
  subst ht
  unfold builtinL at hx
  simp only at hx
  unfold BSound
  simp only [builtin, List.map_cons, List.map_nil]
  split at hx
  · rename_i e base dLen cp hu
    split at hx
    · rename_i sz sLen hs hl
      split at hx
      · cases hx
      rename_i cs hf
      cases base with
      | none =>
        cases hx
        refine ⟨hp, rfl, rfl, fun ρ w ty cs2 hh => (DoesR.same hh ?_).does⟩
        obtain ⟨a', c'', e', hn⟩ := slice_real ρ none dLen cp
        have : a' = none := by simpa using hn
        subst this
        rw [e']
        simp [Builtin.copy_, run_underlyingE hu, lenL_sound hl, run_sizeL hs, firstL_sound hf hh, LV.real, goInt]
      | some a =>
        simp only at hx
        split at hx
        · rename_i hcap
          obtain ⟨h2, h1, hro, hnx, hrun⟩ := storeL_sound hx (by intro e; cases e)
          cases h1
          refine ⟨hp, hro, hnx, fun ρ w ty cs2 hh => ?_⟩
          obtain ⟨w', hr, hh', hk, hfi⟩ := hrun ρ w E.P hh
          refine DoesR.does ⟨w', ?_, hh', hk, hfi⟩
          have hfs := firstL_sound hf hh E.P
          obtain ⟨cap, hcr⟩ := capOk_real hcap ρ a dLen
          rw [hcr]
          simp [Builtin.copy_, run_underlyingE hu, lenL_sound hl, run_sizeL hs, hfs, hr, LV.real, goInt]
        · cases hx
    · cases hx
  · cases hx

theorem bClear_sound {ts : Array TypeId} {t : TypeId} (ht : ts.toList = [t]) {x v : LV} {h h' : LH} {pa pa' : Path} {c : Bool} (hx : builtinL E .clear ts [x] h pa = .val v h' pa' c) (hp : pa'.as = true) :
    BSound E .clear ts [x] v h h' pa pa' := by
  obtain ⟨ts⟩ := ts
  simp only at ht
  subst ht
  unfold builtinL at hx
  simp only at hx
  unfold BSound
  simp only [builtin, List.map_cons, List.map_nil]
  split at hx
  · rename_i k e hu
    cases hx
    exact ⟨hp, rfl, rfl, fun ρ w ty cs hh => (DoesR.same hh (by simp [Builtin.clear_, run_underlyingE hu, LV.real, LVs.real, undefL])).does⟩
  · rename_i k e r hu
    split at hx
    · rename_i es clock hb hro
      have hro := Nat.le_of_ble_eq_true hro
      rw [LH.put_eq] at hx
      cases hx
      refine ⟨hp, rfl, rfl, fun ρ w ty cs hh => ?_⟩
      have ho : w.heap[ρ.s r]? = some (.map (es.map (ent ρ)).toArray clock) := hh.obj r _ hb
      refine DoesR.does ⟨{ w with heap := w.heap.setIfInBounds (ρ.s r) (.map #[] clock) }, ?_, hh.set hb rfl rfl rfl, Kept.set hb rfl hro rfl rfl rfl rfl, FootIn.set hb rfl⟩
      simp [Builtin.clear_, run_underlyingE hu, LV.real, LVs.real, undefL, run_getObjE ho, run_setObjE ho]
    · cases hx
  · rename_i e len cp hu
    cases hx
    refine ⟨hp, rfl, rfl, fun ρ w ty cs hh => (DoesR.same hh ?_).does⟩
    cases cp <;> simp [Builtin.clear_, run_underlyingE hu, LV.real, LVs.real, undefL]
  · rename_i e a n cp hu
    split at hx
    · rename_i z hz hcap
      obtain ⟨h2, h1, hro, hnx, hrun⟩ := storeL_sound hx (by intro e; cases e)
      cases h1
      refine ⟨hp, hro, hnx, fun ρ w ty cs2 hh => ?_⟩
      obtain ⟨w', hr, hh', hk, hfi⟩ := hrun ρ w E.P hh
      refine DoesR.does ⟨w', ?_, hh', hk, hfi⟩
      obtain ⟨cap, hcr⟩ := capOk_real hcap ρ a (n + 1)
      obtain ⟨zv, hzv, hzc⟩ := run_zeroL hz w
      have hzz : (Builtin.zeroCells zv.cells (n + 1)).toList = (repL z (n + 1)).map (LV.real ρ) := by
        have hzs : zv.cells.size = z.length := by rw [← Array.length_toList, hzc ρ]; simp
        by_cases hne : z = []
        · subst hne
          have : (repL ([] : List LV) (n + 1)).length = 0 := by rw [repL_length]; simp
          rw [List.eq_nil_of_length_eq_zero this]
          simp at hzs
          simp [Builtin.zeroCells, hzs]
        · rw [repL_map, ← map_range_mod (z.map (LV.real ρ)) (by simpa using hne) zv.cells (hzc ρ) (n + 1)]
          simp [Builtin.zeroCells, hzs]
      rw [hcr]
      simp [Builtin.clear_, run_underlyingE hu, hzv, hzz, hr, LV.real, LVs.real, undefL]
    · cases hx
  · rename_i a cp _ hu
    cases hx
    refine ⟨hp, rfl, rfl, fun ρ w ty cs hh => (DoesR.same hh ?_).does⟩
    obtain ⟨a', c'', e', _⟩ := slice_real ρ a 0 cp
    rw [e']
    cases a' <;> simp [Builtin.clear_, run_underlyingE hu, LV.real, LVs.real, undefL]
  · cases hx

theorem bDelete_sound {ts : Array TypeId} {t : TypeId} {tr : List TypeId} (ht : ts.toList = t :: tr) {m x v : LV} {h h' : LH} {pa pa' : Path} {c : Bool} (hx : builtinL E .delete ts [m, x] h pa = .val v h' pa' c) (hp : pa'.as = true) :
    BSound E .delete ts [m, x] v h h' pa pa' := by
  obtain ⟨ts⟩ := ts
  simp only at ht
  subst ht
  unfold builtinL at hx
  simp only at hx
  unfold BSound
  simp only [builtin, List.map_cons, List.map_nil]
  split at hx
  · rename_i kt et r hu
    split at hx
    · rename_i es clock hk hb hro
      have hro := Nat.le_of_ble_eq_true hro
      obtain ⟨d, hd, hfit⟩ := keyOk_some hk
      obtain ⟨rr, pa2, h1, h2⟩ := findL_sound hfit (by intro e; cases e) hx
      have hobj : ∀ {ρ : Rn} {w : World}, HEq ρ h w → w.heap[ρ.s r]? = some (.map (es.map (ent ρ)).toArray clock) := fun hh => hh.obj r _ hb
      cases rr with
      | none =>
        simp only at h1
        cases h1
        obtain ⟨h3, h4, _⟩ := h2 hp
        refine ⟨h3, rfl, rfl, fun ρ w ty cs hh => ?_⟩
        have ho := hobj hh
        have hf := run_findKeyE (E := E) hd (h4 ρ) w
        have hself : w.heap.setIfInBounds (ρ.s r) (.map (es.map (ent ρ)).toArray clock) = w.heap := by
          apply Array.ext_getElem?
          intro i
          rw [Array.getElem?_setIfInBounds]
          split
          · rename_i e; subst e
            obtain ⟨hb, he⟩ := Array.getElem?_eq_some_iff.1 ho
            rw [if_pos hb]; exact ho.symm
          · rfl
        refine (DoesR.same hh ?_).does
        simp [Builtin.delete_, run_underlyingE hu, LV.real, LVs.real, undefL, run_getObjE ho, run_setObjE ho, run_checkKeyE hk, hf, found, hself]
      | some jv =>
        obtain ⟨j, vv⟩ := jv
        simp only [LH.put_eq] at h1
        cases h1
        obtain ⟨h3, h4, e, _, he, hsame⟩ := h2 hp
        refine ⟨h3, rfl, rfl, fun ρ w ty cs hh => ?_⟩
        have ho := hobj hh
        have hf := run_findKeyE (E := E) hd (h4 ρ) w
        refine DoesR.does ⟨{ w with heap := w.heap.setIfInBounds (ρ.s r) (.map ((eraseL j es).map (ent ρ)).toArray clock) }, ?_, hh.set hb rfl rfl rfl, Kept.set hb rfl hro rfl rfl rfl rfl, FootIn.set hb rfl⟩
        simp [Builtin.delete_, run_underlyingE hu, LV.real, LVs.real, undefL, run_getObjE ho, run_setObjE ho, run_checkKeyE hk, hf, found, eraseL_map]
    · cases hx
  · cases hx
end
end Go.Ev

/- Elements put behind a slice's last one; texts into bytes. -/
namespace Go.Ev
open Go

section
variable {E : Env}

theorem roomL_ok {n bytes : Nat} (h : roomL n bytes = true) : n ≤ 1099511627776 ∧ n * bytes ≤ 1099511627776 := by
  obtain ⟨h1, h2⟩ := boolAnd_true.1 h
  exact ⟨Nat.le_of_ble_eq_true h1, Nat.le_of_ble_eq_true h2⟩

theorem slicecap_fits {need old bytes : Nat} (ho : old < need) (h : roomL need bytes = true) : Builtin.nextslicecap need old * bytes ≤ 281474976710656 := by
  obtain ⟨h1, h2⟩ := roomL_ok h
  refine growslice_fits_wide ho ?_
  rw [Nat.add_mul, Nat.add_mul]
  have h3 : need / 4 * bytes ≤ need * bytes := Nat.mul_le_mul_right _ (by omega)
  have h4 : bytes ≤ need * bytes := Nat.le_mul_of_pos_left _ (by omega)
  omega

/-- What a growing append does in the model. -/
theorem run_append_grown {sT xT ty e : TypeId} {i : TypeInfo} {z : Value} {P : Program} {w : World} (hu : P.underlying sT = some (.slice e)) (hx : ∀ d, P.underlying xT = some d → ∀ k, d ≠ .int k) (hxu : ∃ d, P.underlying xT = some d)
    (hi : P.info? e = some i) (hz : i.zero = some z) {base : Option Addr} {sLen sCap n : Nat} {x : Value} {olds news : Array Value}
    (hl : (Builtin.lenOf x).run P w = .ok n w) (hn : ∀ w', w'.heap = w.heap → (Builtin.firstCells i.size n x).run P w' = .ok news w') (ho : ∀ w', w'.heap = w.heap → (Builtin.firstCells i.size sLen (.slice base sLen sCap)).run P w' = .ok olds w')
    (hg : sCap < sLen + n) (hr : roomL (sLen + n) i.bytes = true) :
    (Builtin.append_ #[sT, xT] ty #[.slice base sLen sCap, x]).run P w =
      .ok (.slice (some ⟨w.heap.size, 0, none⟩) (sLen + n) (grownCap w (sLen + n) sCap e))
        { w.drew with heap := w.heap.push (.cells (olds ++ news ++ Builtin.zeroCells z.cells (grownCap w (sLen + n) sCap e - (sLen + n))) e) } := by
  obtain ⟨d, hxu⟩ := hxu
  have hxi := hx d hxu
  obtain ⟨r1, r2⟩ := roomL_ok hr
  have hfit := slicecap_fits hg hr
  have hnn : ¬ (sLen + n ≤ sCap) := by omega
  have h63' : ¬ (((sLen + n : Nat) : Int) > IntKind.i64.max) := by simp [IntKind.max, IntKind.bits, IntKind.signed]; omega
  have h48' : ¬ (Builtin.nextslicecap (sLen + n) sCap * i.bytes > 2 ^ 48) := by omega
  have ho' := ho w.drew rfl
  have hn' := hn w.drew rfl
  have e1 : (#[sT, xT] : Array TypeId)[0]? = some sT := rfl
  have e2 : (#[sT, xT] : Array TypeId)[1]? = some xT := rfl
  have e3 : (#[Value.slice base sLen sCap, x] : Array Value)[0]? = some (.slice base sLen sCap) := rfl
  have e4 : (#[Value.slice base sLen sCap, x] : Array Value)[1]? = some x := rfl
  have hzv : (zeroValue e).run P w.drew = .ok z w.drew := run_zeroValueE hi hz
  have hfirst : ¬ (((sLen + n : Nat) : Int) > IntKind.i64.max ∧ i.bytes = 0) := fun h => h63' h.1
  have hch : (choose (.appendCap (sLen + n) sCap e)).run P w = .ok (grownCap w (sLen + n) sCap e) w.drew := by
    rw [run_choose]; rfl
  have key : ∀ b : Bool, b = false → ((if b = true then (if n * i.size = 0 then pure #[] else do pure (Builtin.zeroCells (← zeroValue e).cells n)) else Builtin.firstCells i.size n x : Sem (Array Value))).run P w.drew = .ok news w.drew := by
    rintro _ rfl; exact hn'
  cases d with
  | int k => exact absurd rfl (hxi k)
  | _ =>
    simp only [Builtin.append_, e1, e2, e3, e4, Sem.run_bind, run_underlyingE hu, run_underlyingE hxu, Result.andThen_ok, run_sizeOfE hi, Sem.run_pure, hl, if_neg hnn, Bool.false_eq_true, if_false, false_or, run_typeInfoE hi,
      if_neg hfirst, if_neg h48', hch, run_askRoom, ho', hn', hzv, Bool.not_false, if_true, newRow, run_newObj]
    rfl

theorem growL_val {old new : List LV} {need sz bytes : Nat} {e : TypeId} {v : LV} {h h' : LH} {pa pa' : Path} {c : Bool} (hx : growL old new need sz bytes e h pa = .val v h' pa' c) :
    v = .slice (some ⟨h.nx, 0, sz, 0⟩) need (.un 0 0) ∧ h' = h.add (.cells (old ++ new) (Nat.mul need sz) e (some sz) false) ∧ pa' = pa ∧ c = roomL need bytes := by
  unfold growL at hx
  rw [LH.push_eq] at hx
  cases hx
  exact ⟨rfl, by rw [appL_eq], rfl, rfl⟩

theorem zeroCells_size (z : Array Value) (n : Nat) : (Builtin.zeroCells z n).size = n * z.size := by simp [Builtin.zeroCells]

/-- A grown row stands at the next number. -/
theorem grown_row {ρ : Rn} {h : LH} {w : World} (hh : HEq ρ h w) {old new : List LV} {olds news z : Array Value} {need sz cap : Nat} {e : TypeId} (ho : olds.toList = old.map (LV.real ρ)) (hn : news.toList = new.map (LV.real ρ))
    (hl : (old ++ new).length = need * sz) (hz : z.size = sz) (hc : need ≤ cap) (hs : ρ.s h.nx = w.heap.size) (hg : ρ.g h.nx = cap) {w' : World}
    (e0 : w'.heap = w.heap.push (.cells (olds ++ news ++ Builtin.zeroCells z (cap - need)) e)) (e1 : w'.tape = w.tape) (e2 : w'.os = w.os) (e3 : w'.output = w.output) :
    HEq ρ (h.add (.cells (old ++ new) (Nat.mul need sz) e (some sz) false)) w' ∧ Kept ρ h w w' ∧ FootIn ρ h w ρ (h.add (.cells (old ++ new) (Nat.mul need sz) e (some sz) false)) := by
  refine add_sound hh e0 e1 e2 e3 hs ⟨hl.symm, _, (0, 0), rfl, ⟨(Builtin.zeroCells z (cap - need)).toList, by simp [ho, hn]⟩, fun _ => rfl, fun o _ => by simp, fun g hg' => ?_⟩
  cases hg'
  have h1 : olds.size = old.length := by rw [← Array.length_toList, ho]; simp
  have h2 : news.size = new.length := by rw [← Array.length_toList, hn]; simp
  simp only [List.length_append] at hl
  simp only [Array.size_append, zeroCells_size, h1, h2, hz, hg]
  rw [hl, ← Nat.add_mul]
  congr 1; omega

theorem placeL_sound {a : LA} {sz len n : Nat} {c : Cp} {new : List LV} {h h' : LH} {pa pa' : Path} {v : LV} {k : Bool} (hx : placeL a sz len n c new h pa = .val v h' pa' k) :
    v = .slice (some a) (len + n) c ∧ h'.ro = h.ro ∧ h'.nx = h.nx ∧ pa' = pa ∧ ∀ (ρ : Rn) (w : World) (P : Program), HEq ρ h w →
      ∃ w', (storeCells ((a.real ρ).add (len * sz)) (new.map (LV.real ρ)) 0).run P w = .ok () w' ∧ HEq ρ h' w' ∧ Kept ρ h w w' ∧ FootIn ρ h w ρ h' := by
  obtain ⟨h2, h1, hro, hnx, hrun⟩ := storeL_sound hx (by intro e; cases e)
  cases h1
  refine ⟨rfl, hro, hnx, rfl, fun ρ w P hh => ?_⟩
  rw [← at_real]
  exact hrun ρ w P hh

/-- What an append in place does in the model. -/
theorem run_append_place {sT xT ty e : TypeId} {i : TypeInfo} {P : Program} {w w' : World} (hu : P.underlying sT = some (.slice e)) (hx : ∀ d, P.underlying xT = some d → ∀ k, d ≠ .int k) (hxu : ∃ d, P.underlying xT = some d)
    (hi : P.info? e = some i) {base : Option Addr} {sLen sCap n : Nat} {x : Value} {news : Array Value}
    (hl : (Builtin.lenOf x).run P w = .ok n w) (hn : (Builtin.firstCells i.size n x).run P w = .ok news w)
    (hg : sLen + n ≤ sCap) (hs : match base with
      | some a => (storeCells (a.add (sLen * i.size)) news.toList 0).run P w = .ok () w'
      | none => w' = w) :
    (Builtin.append_ #[sT, xT] ty #[.slice base sLen sCap, x]).run P w = .ok (.slice base (sLen + n) sCap) w' := by
  obtain ⟨d, hxu⟩ := hxu
  have hxi := hx d hxu
  have e1 : (#[sT, xT] : Array TypeId)[0]? = some sT := rfl
  have e2 : (#[sT, xT] : Array TypeId)[1]? = some xT := rfl
  have e3 : (#[Value.slice base sLen sCap, x] : Array Value)[0]? = some (.slice base sLen sCap) := rfl
  have e4 : (#[Value.slice base sLen sCap, x] : Array Value)[1]? = some x := rfl
  cases d with
  | int k => exact absurd rfl (hxi k)
  | _ =>
    cases base with
    | none =>
      simp only at hs
      subst hs
      simp only [Builtin.append_, e1, e2, e3, e4, Sem.run_bind, run_underlyingE hu, run_underlyingE hxu, Result.andThen_ok, run_sizeOfE hi, Sem.run_pure, hl, if_pos hg, Bool.false_eq_true, if_false, hn, Bool.not_false, if_true]
    | some a =>
      simp only at hs
      simp only [Builtin.append_, e1, e2, e3, e4, Sem.run_bind, run_underlyingE hu, run_underlyingE hxu, Result.andThen_ok, run_sizeOfE hi, Sem.run_pure, hl, if_pos hg, Bool.false_eq_true, if_false, hn, Bool.not_false, if_true, hs]

/-- What a law on an append says: where the new row lies, and how much room it has, hangs on the world and the slice alone. -/
def ASound (E : Env) (sT xT : TypeId) (s x v : LV) (h h' : LH) (pa : Path) : Prop :=
  pa.as = true ∧ h'.ro = h.ro ∧ (h'.nx = h.nx ∨ h'.nx = h.nx + 1) ∧ ∀ (w : World) (S : Value), ∃ b0 g0, ∀ (ρ : Rn) (ty : TypeId), HEq ρ h w → s.real ρ = S → (h'.nx = h.nx + 1 → ρ.s h.nx = b0 ∧ ρ.g h.nx = g0) →
    DoesR E.P (Builtin.append_ #[sT, xT] ty #[s.real ρ, x.real ρ]) ρ h w v h'

section
variable {sT xT e : TypeId} {i : TypeInfo} {z new : List LV} {x v : LV} {h h' : LH} {pa pa' : Path} {c : Bool} {n : Nat}

theorem appNil_sound (hu : E.P.underlying sT = some (.slice e)) (hxi : ∀ d, E.P.underlying xT = some d → ∀ k, d ≠ .int k) (hxu : ∃ d, E.P.underlying xT = some d) (hi : E.P.info? e = some i) (hz : zeroL E e = some z) (hzl : z.length = i.size)
    (hl : lenL x = some n) (hf : firstL i.size n x h = some new) (hx : appNil i.size i.bytes n e new h pa = .val v h' pa' c) (hc : c = true) (hp : pa'.as = true) : ASound E sT xT (.slice none 0 (.kn 0)) x v h h' pa := by
  unfold appNil at hx
  obtain ⟨d, pa2, hx, hd⟩ := brX hx
  have hnl := firstL_len hf
  cases d
  · obtain ⟨rfl, rfl, rfl, rfl⟩ := growL_val hx
    obtain ⟨h1, h2⟩ := hd hp
    have hn0 : n ≠ 0 := by intro e0; subst e0; cases h2
    refine ⟨h1, rfl, .inr rfl, fun w S => ⟨w.heap.size, grownCap w n 0 e, fun ρ ty hh _ hnew => ?_⟩⟩
    obtain ⟨hs, hg⟩ := hnew rfl
    obtain ⟨i', zv, hi', hzv, hzc⟩ := zeroL_some hz
    obtain rfl : i' = i := by rw [hi] at hi'; cases hi'; rfl
    have hr := run_append_grown (ty := ty) (P := E.P) (w := w) (base := none) (sLen := 0) (sCap := 0) (n := n) (x := x.real ρ) (olds := #[]) (news := (new.map (LV.real ρ)).toArray) hu hxi hxu hi hzv (lenL_sound hl ρ w E.P)
      (fun w' hw' => firstL_sound hf (hh.heap hw') E.P) (fun w' _ => by simp [Builtin.firstCells]) (by omega) (by simpa using hc)
    simp only [Nat.zero_add] at hr
    obtain ⟨k1, k2, k3⟩ := grown_row (w' := { w.drew with heap := w.heap.push (.cells (#[] ++ (new.map (LV.real ρ)).toArray ++ Builtin.zeroCells zv.cells (grownCap w n 0 e - n)) e) }) hh (old := []) (new := new) (olds := #[]) (need := n) (sz := i'.size) (by simp) (by simp) (by simpa using hnl)
      (by rw [← hzl, ← Array.length_toList, hzc ρ]; simp) (grownCap_ge w n 0 e) hs hg rfl rfl rfl rfl
    refine ⟨_, ?_, k1, k2, k3⟩
    simp only [LV.real] at hr ⊢
    rw [hr]
    simp [LA.off, hs, hg]
  · cases hx
    obtain ⟨h1, h2⟩ := hd hp
    have hn0 : n = 0 := Nat.eq_of_beq_eq_true h2.symm
    subst hn0
    refine ⟨h1, rfl, .inl rfl, fun w S => ⟨0, 0, fun ρ ty hh _ _ => ?_⟩⟩
    have hr := run_append_place (ty := ty) (P := E.P) (w := w) (w' := w) (base := none) (sLen := 0) (sCap := 0) (n := 0) (x := x.real ρ) (news := (new.map (LV.real ρ)).toArray) hu hxi hxu hi (lenL_sound hl ρ w E.P) (firstL_sound hf hh E.P) (by omega) rfl
    exact DoesR.same hh (by simpa [LV.real] using hr)

theorem appKn_sound (hu : E.P.underlying sT = some (.slice e)) (hxi : ∀ d, E.P.underlying xT = some d → ∀ k, d ≠ .int k) (hxu : ∃ d, E.P.underlying xT = some d) (hi : E.P.info? e = some i) (hz : zeroL E e = some z) (hzl : z.length = i.size)
    (hl : lenL x = some n) (hf : firstL i.size n x h = some new) {a : LA} {len cap : Nat} (hx : appKn a i.size i.bytes len cap n e new h pa = .val v h' pa' c) (hc : c = true) (hp : pa'.as = true) : ASound E sT xT (.slice (some a) len (.kn cap)) x v h h' pa := by
  unfold appKn at hx
  obtain ⟨d, pa2, hx, hd⟩ := brX hx
  have hnl := firstL_len hf
  cases d
  · simp only at hx
    split at hx
    · cases hx
    rename_i old hold
    obtain ⟨rfl, rfl, rfl, rfl⟩ := growL_val hx
    obtain ⟨h1, h2⟩ := hd hp
    have hlt : cap < len + n := by
      apply Nat.lt_of_not_le
      intro hle
      have : Nat.ble (Nat.add len n) cap = true := Nat.ble_eq_true_of_le hle
      rw [this] at h2; cases h2
    have hol := firstL_len hold
    refine ⟨h1, rfl, .inr rfl, fun w S => ⟨w.heap.size, grownCap w (len + n) cap e, fun ρ ty hh _ hnew => ?_⟩⟩
    obtain ⟨hs, hg⟩ := hnew rfl
    obtain ⟨i', zv, hi', hzv, hzc⟩ := zeroL_some hz
    obtain rfl : i' = i := by rw [hi] at hi'; cases hi'; rfl
    have hr := run_append_grown (ty := ty) (P := E.P) (w := w) (base := some (a.real ρ)) (sLen := len) (sCap := cap) (n := n) (x := x.real ρ) (olds := (old.map (LV.real ρ)).toArray) (news := (new.map (LV.real ρ)).toArray) hu hxi hxu hi hzv (lenL_sound hl ρ w E.P)
      (fun w' hw' => firstL_sound hf (hh.heap hw') E.P) (fun w' hw' => firstL_sound hold (hh.heap hw') E.P) hlt hc
    obtain ⟨k1, k2, k3⟩ := grown_row (w' := { w.drew with heap := w.heap.push (.cells ((old.map (LV.real ρ)).toArray ++ (new.map (LV.real ρ)).toArray ++ Builtin.zeroCells zv.cells (grownCap w (len + n) cap e - (len + n))) e) }) hh (old := old) (new := new) (need := len + n) (sz := i'.size) (by simp) (by simp)
      (by rw [List.length_append, hol, hnl, Nat.add_mul]) (by rw [← hzl, ← Array.length_toList, hzc ρ]; simp) (grownCap_ge w (len + n) cap e) hs hg rfl rfl rfl rfl
    refine ⟨_, ?_, k1, k2, k3⟩
    simp only [LV.real] at hr ⊢
    rw [hr]
    simp [LA.off, hs, hg]
  · obtain ⟨rfl, hro, hnx, rfl, hrun⟩ := placeL_sound hx
    obtain ⟨h1, h2⟩ := hd hp
    have hle : len + n ≤ cap := Nat.le_of_ble_eq_true h2.symm
    refine ⟨h1, hro, .inl hnx, fun w S => ⟨0, 0, fun ρ ty hh _ _ => ?_⟩⟩
    obtain ⟨w', hr, hh', hk, hfi⟩ := hrun ρ w E.P hh
    refine ⟨w', ?_, hh', hk, hfi⟩
    exact run_append_place (ty := ty) (P := E.P) (w := w) (w' := w') (base := some (a.real ρ)) (sLen := len) (sCap := cap) (n := n) (x := x.real ρ) (news := (new.map (LV.real ρ)).toArray) hu hxi hxu hi (lenL_sound hl ρ w E.P) (firstL_sound hf hh E.P) hle (by simpa using hr)
end
end
end Go.Ev

/- Elements put behind a grown slice's last one; texts into bytes. -/
namespace Go.Ev
open Go

section
variable {E : Env}

theorem kill_eq {ρ : Rn} {h : LH} {w : World} (hh : HEq ρ h w) (id : Nat) : HEq ρ (h.set id .dead) w ∧ FootIn ρ h w ρ (h.set id .dead) := by
  have look : ∀ k y, (h.set id .dead).bs.get k = some y → y.live = true → h.bs.get k = some y := by
    intro k y hy ly
    simp only [LH.set, Tr.get_set] at hy
    split at hy
    · simp at hy; subst hy; cases ly
    · exact hy
  refine ⟨⟨fun k y hy => ?_, fun i j y y' hy hy' ly ly' => hh.inj i j y y' (look i y hy ly) (look j y' hy' ly') ly ly', hh.glob⟩, ?_⟩
  · cases hl : y.live with
    | true => exact hh.obj k y (look k y hy hl)
    | false => cases y <;> first | trivial | cases hl
  · rintro b ⟨i, x, hx, lx, hr, rfl⟩
    exact .inl ⟨i, x, look i x hx lx, lx, hr, rfl⟩

/-- A row is another one from now on, its cells turned. -/
theorem HEq.turn {ρ : Rn} {h : LH} {w w' : World} {id : Nat} {o o' : LO} {O' : Obj} (hh : HEq ρ h w) (hid : h.bs.get id = some o) (hl : o.live = true) (hs : ρ.s h.nx = ρ.s id)
    (e : w'.heap = w.heap.setIfInBounds (ρ.s id) O') (ho : OEq ρ h.nx o' (some O')) : HEq ρ ((h.set id .dead).add o') w' := by
  have hlt := hh.lt hid hl
  have look : ∀ k y, ((h.set id .dead).add o').bs.get k = some y → y.live = true → k ≠ h.nx → h.bs.get k = some y ∧ k ≠ id := by
    intro k y hy ly hk
    simp only [LH.add, LH.set, Tr.get_set, if_neg hk] at hy
    split at hy
    · simp at hy; subst hy; cases ly
    · rename_i hne; exact ⟨hy, hne⟩
  refine ⟨fun k y hy => ?_, fun i j y y' hy hy' ly ly' he => ?_, hh.glob⟩
  · by_cases hk : k = h.nx
    · subst hk
      simp only [LH.add, LH.set, Tr.get_set, if_true] at hy
      cases hy
      rw [e, hs]
      simpa [hlt] using ho
    · cases hy' : y.live with
      | false => cases y <;> first | trivial | cases hy'
      | true =>
        obtain ⟨h1, h2⟩ := look k y hy hy' hk
        have : ρ.s id ≠ ρ.s k := fun e' => h2 (hh.inj k id y o h1 hid hy' hl e'.symm)
        rw [e, Array.getElem?_setIfInBounds_ne this]
        exact hh.obj k y h1
  · by_cases hi : i = h.nx <;> by_cases hj : j = h.nx
    · rw [hi, hj]
    · obtain ⟨h1, h2⟩ := look j y' hy' ly' hj
      subst hi
      rw [hs] at he
      exact absurd (hh.inj id j o y' hid h1 hl ly' he).symm h2
    · obtain ⟨h1, h2⟩ := look i y hy ly hi
      subst hj
      rw [hs] at he
      exact absurd (hh.inj i id y o h1 hid ly hl he) h2
    · exact hh.inj i j y y' (look i y hy ly hi).1 (look j y' hy' ly' hj).1 ly ly' he

theorem FootIn.turn {ρ : Rn} {h : LH} {w : World} {id : Nat} {o o' : LO} (hid : h.bs.get id = some o) (hl : o.live = true) (hr : h.ro ≤ id) (hs : ρ.s h.nx = ρ.s id) : FootIn ρ h w ρ ((h.set id .dead).add o') := by
  rintro b ⟨k, x, hx, lx, hro, rfl⟩
  by_cases hk : k = h.nx
  · subst hk; rw [hs]; exact .inl ⟨id, o, hid, hl, hr, rfl⟩
  · simp only [LH.add, LH.set, Tr.get_set, if_neg hk] at hx
    split at hx
    · simp at hx; subst hx; cases lx
    · exact .inl ⟨k, x, hx, lx, hro, rfl⟩

section
variable {sT xT e : TypeId} {i : TypeInfo} {z new : List LV} {x v : LV} {h h' : LH} {pa pa' : Path} {c : Bool} {n : Nat}

theorem appUn_sound (hu : E.P.underlying sT = some (.slice e)) (hxi : ∀ d, E.P.underlying xT = some d → ∀ k, d ≠ .int k) (hxu : ∃ d, E.P.underlying xT = some d) (hi : E.P.info? e = some i) (hz : zeroL E e = some z) (hzl : z.length = i.size)
    (hl : lenL x = some n) (hf : firstL i.size n x h = some new) {a : LA} {len sh : Nat} (hx : appUn a i.size i.bytes len sh n e new h pa = .val v h' pa' c) (hc : c = true) (hp : pa'.as = true) : ASound E sT xT (.slice (some a) len (.un sh 0)) x v h h' pa := by
  unfold appUn at hx
  have hnl := firstL_len hf
  have hsr : ∀ ρ : Rn, (LV.slice (some a) len (.un sh 0)).real ρ = .slice (some (a.real ρ)) len (ρ.g a.b - sh) := by intro ρ; simp [LV.real, LA.real]
  split at hx
  · rename_i vs vn t g hb
    split at hx
    · cases hx
    rename_i hall
    obtain ⟨h1, hall⟩ := boolAnd_true.1 hall
    obtain ⟨h2, hall⟩ := boolAnd_true.1 hall
    obtain ⟨h3, h4⟩ := boolAnd_true.1 hall
    have hsz : g + 1 = i.size := Nat.eq_of_beq_eq_true h1
    obtain rfl : t = e := Nat.eq_of_beq_eq_true h2
    have hro := Nat.le_of_ble_eq_true h3
    have hoff : a.off = sh * (g + 1) := Nat.eq_of_beq_eq_true h4
    obtain ⟨d, pa2, hx, hd⟩ := brX hx
    cases d
    · simp only at hx
      split at hx
      · cases hx
      rename_i hsh
      split at hx
      · rename_i old hold hone
        rw [LH.put_eq] at hx
        obtain ⟨rfl, rfl, rfl, rfl⟩ := growL_val hx
        obtain ⟨h5, _⟩ := hd hp
        refine ⟨h5, rfl, .inr rfl, fun w S => ?_⟩
        cases S with
        | slice A l cap =>
          cases A with
          | some A =>
            refine ⟨if len + n ≤ cap then A.block else w.heap.size, if len + n ≤ cap then cap else grownCap w (len + n) cap t, fun ρ ty hh hS hnew => ?_⟩
            obtain ⟨hs, hg⟩ := hnew rfl
            rw [hsr] at hS ⊢
            simp only [Value.slice.injEq, Option.some.injEq] at hS
            obtain ⟨rfl, rfl, rfl⟩ := hS
            obtain ⟨hvn, C, fz, hrow, ⟨rest, hC⟩, hst, hfz, hgr⟩ := hh.row hb
            have hCs := hgr (g + 1) rfl
            obtain ⟨hle, rfl⟩ := prefL_some hvn hold
            have hlen : (vs.take (Nat.mul len (g + 1))).length = len * (g + 1) := by rw [List.length_take]; exact Nat.min_eq_left hle
            obtain ⟨i', zv, hi', hzv, hzc⟩ := zeroL_some hz
            obtain rfl : i' = i := by rw [hi] at hi'; cases hi'; rfl
            have hoff0 : a.off = 0 := by rw [hoff]; simp
            have hCsz : C.size = vs.length + rest.length := by rw [← Array.length_toList, hC]; simp
            have hnew' : (vs.take (Nat.mul len (g + 1)) ++ new).length = (len + n) * i'.size := by rw [List.length_append, hlen, hnl, hsz, Nat.add_mul]
            by_cases hroom : len + n ≤ ρ.g a.b - 0
            · simp only [if_pos hroom] at hs hg
              have hs : ρ.s h.nx = ρ.s a.b := hs
              have hle2 : (len + n) * i'.size ≤ C.size := by rw [hCs, hsz]; exact Nat.mul_le_mul_right _ (by omega)
              have hov := overlay_toList (new.map (LV.real ρ)) (a.off + len * i'.size) C (by simp only [List.length_map, hnl, hoff0]; rw [Nat.add_mul] at hle2; omega)
              have htake : C.toList.take (a.off + len * i'.size) = (vs.take (Nat.mul len (g + 1))).map (LV.real ρ) := by
                have e9 : Nat.mul len (g + 1) = len * i'.size := by rw [← hsz]; rfl
                rw [hoff0, Nat.zero_add, hC, e9, List.take_append_of_le_length (by simp only [List.length_map]; rw [← e9]; exact hle), List.map_take]
              refine ⟨w.row (ρ.s a.b) (.cells (overlay (new.map (LV.real ρ)) (a.off + len * i'.size) C) t fz), ?_, ?_, ?_, ?_⟩
              · have hst' : (storeCells ((a.real ρ).add (len * i'.size)) (new.map (LV.real ρ)) 0).run E.P w = .ok () (w.row (ρ.s a.b) (.cells (overlay (new.map (LV.real ρ)) (a.off + len * i'.size) C) t fz)) := by
                  rw [show a.real ρ = ⟨ρ.s a.b, a.off, none⟩ from rfl, add_none, run_storeCells_row _ _ 0 _ C hrow (by simp only [List.length_map, hnl, hoff0]; rw [Nat.add_mul] at hle2; omega) hfz (allOne_real hone ρ)]
                  rfl
                have := run_append_place (xT := xT) (ty := ty) (P := E.P) (w := w) (w' := w.row (ρ.s a.b) (.cells (overlay (new.map (LV.real ρ)) (a.off + len * i'.size) C) t fz)) (base := some (a.real ρ)) (sLen := len) (sCap := ρ.g a.b - 0) (n := n) (x := x.real ρ) (news := (new.map (LV.real ρ)).toArray) hu hxi hxu hi (lenL_sound hl ρ w E.P) (firstL_sound hf hh E.P) hroom (by simpa using hst')
                have hs' : ρ.s (h.set a.b .dead).nx = ρ.s a.b := hs
                have hg' : ρ.g (h.set a.b .dead).nx = ρ.g a.b - 0 := hg
                rw [this, show a.real ρ = ⟨ρ.s a.b, 0, none⟩ by simp only [LA.real, hoff0]]
                simp [LV.real, hs', hg', LA.off]
              · refine hh.turn hb rfl hs rfl ⟨hnew'.symm, _, fz, rfl, ⟨C.toList.drop (a.off + len * i'.size + (new.map (LV.real ρ)).length), ?_⟩, fun _ => hst rfl, by rw [overlay_size]; exact hfz, fun g' hg' => ?_⟩
                · rw [hov, htake]; simp
                · cases hg'
                  rw [overlay_size, hg, hCs, hsz]
                  rfl
              · exact Kept.set hb rfl hro rfl rfl rfl rfl
              · exact FootIn.turn hb rfl hro hs
            · simp only [if_neg hroom] at hs hg
              have holds : ∀ w', w'.heap = w.heap → (Builtin.firstCells i'.size len (.slice (some (a.real ρ)) len (ρ.g a.b - 0))).run E.P w' = .ok ((vs.take (Nat.mul len (g + 1))).map (LV.real ρ)).toArray w' := by
                intro w' hw'
                have hrow' : RowAt w' (ρ.s a.b) C t fz := by unfold RowAt; rw [hw']; exact hrow
                have e9 : Nat.mul len (g + 1) = len * i'.size := by rw [← hsz]; rfl
                simp only [Builtin.firstCells]
                rw [show a.real ρ = ⟨ρ.s a.b, a.off, none⟩ from rfl, run_loadCells_row hrow' (by rw [hoff0, Nat.zero_add, hCsz, ← e9]; omega)]
                congr 1
                apply Array.ext'
                rw [Array.toList_extract, hC, hoff0, Nat.zero_add, e9, List.extract_eq_take_drop, List.drop_zero, Nat.sub_zero, List.take_append_of_le_length (by simp only [List.length_map]; rw [← e9]; exact hle), List.map_take]
              have hr := run_append_grown (xT := xT) (ty := ty) (P := E.P) (w := w) (base := some (a.real ρ)) (sLen := len) (sCap := ρ.g a.b - 0) (n := n) (x := x.real ρ) (olds := ((vs.take (Nat.mul len (g + 1))).map (LV.real ρ)).toArray) (news := (new.map (LV.real ρ)).toArray) hu hxi hxu hi hzv (lenL_sound hl ρ w E.P)
                (fun w' hw' => firstL_sound hf (hh.heap hw') E.P) holds (by omega) hc
              obtain ⟨hk1, hk2⟩ := kill_eq hh a.b
              obtain ⟨k1, k2, k3⟩ := grown_row (w' := { w.drew with heap := w.heap.push (.cells (((vs.take (Nat.mul len (g + 1))).map (LV.real ρ)).toArray ++ (new.map (LV.real ρ)).toArray ++ Builtin.zeroCells zv.cells (grownCap w (len + n) (ρ.g a.b - 0) t - (len + n))) t) }) hk1 (old := vs.take (Nat.mul len (g + 1))) (new := new) (need := len + n) (sz := i'.size) (by simp) (by simp)
                hnew' (by rw [← hzl, ← Array.length_toList, hzc ρ]; simp) (grownCap_ge w (len + n) (ρ.g a.b - 0) t) hs hg rfl rfl rfl rfl
              refine ⟨_, ?_, k1, (Kept.refl ρ h w).trans hk2 k2, hk2.trans (Nat.le_refl _) k3⟩
              rw [hr]
              have hs' : ρ.s (h.set a.b .dead).nx = w.heap.size := hs
              have hg' : ρ.g (h.set a.b .dead).nx = grownCap w (len + n) (ρ.g a.b - 0) t := hg
              simp [LV.real, LA.off, hs', hg']
          | none => exact ⟨0, 0, fun ρ ty hh hS _ => by rw [hsr] at hS; cases hS⟩
        | _ => exact ⟨0, 0, fun ρ ty hh hS _ => by rw [hsr] at hS; cases hS⟩
      · cases hx
    · obtain ⟨rfl, hro', hnx, rfl, hrun⟩ := placeL_sound hx
      obtain ⟨h5, h6⟩ := hd hp
      have hle : (sh + (len + n)) * (g + 1) ≤ vn := Nat.le_of_ble_eq_true h6.symm
      refine ⟨h5, hro', .inl hnx, fun w S => ⟨0, 0, fun ρ ty hh _ _ => ?_⟩⟩
      obtain ⟨w', hr, hh', hk, hfi⟩ := hrun ρ w E.P hh
      refine ⟨w', ?_, hh', hk, hfi⟩
      obtain ⟨hvn, C, fz, hrow, ⟨rest, hC⟩, hst, hfz, hgr⟩ := hh.row hb
      have hCs := hgr (g + 1) rfl
      have hroom : sh + (len + n) ≤ ρ.g a.b := by
        have : C.size = vs.length + rest.length := by rw [← Array.length_toList, hC]; simp
        exact Nat.le_of_mul_le_mul_right (by omega : (sh + (len + n)) * (g + 1) ≤ ρ.g a.b * (g + 1)) (by omega)
      rw [hsr]
      have := run_append_place (xT := xT) (ty := ty) (P := E.P) (w := w) (w' := w') (base := some (a.real ρ)) (sLen := len) (sCap := ρ.g a.b - sh) (n := n) (x := x.real ρ) (news := (new.map (LV.real ρ)).toArray) hu hxi hxu hi (lenL_sound hl ρ w E.P) (firstL_sound hf hh E.P) (by omega) (by simpa using hr)
      rw [this]
      simp [LV.real, LA.real]
  · cases hx

theorem appendL_sound (hxi : ∀ d, E.P.underlying xT = some d → ∀ k, d ≠ .int k) (hxu : ∃ d, E.P.underlying xT = some d) {s : LV} (hx : appendL E sT s x h pa = .val v h' pa' c) (hc : c = true) (hp : pa'.as = true) : ASound E sT xT s x v h h' pa := by
  unfold appendL at hx
  split at hx
  · rename_i e hu
    split at hx
    · rename_i i z hi hz
      split at hx
      · cases hx
      rename_i hzl
      have hzl := lenT_eq _ _ hzl
      split at hx
      · cases hx
      rename_i n hl
      split at hx
      · cases hx
      rename_i new hf
      split at hx
      · exact appNil_sound hu hxi hxu hi hz hzl hl hf hx hc hp
      · exact appKn_sound hu hxi hxu hi hz hzl hl hf hx hc hp
      · exact appUn_sound hu hxi hxu hi hz hzl hl hf hx hc hp
      · cases hx
    · cases hx
  · cases hx
end

theorem oBytes_sound {src dst e : TypeId} (hd : E.P.underlying dst = some (.slice e)) (hs : E.P.underlying src = some .string) {s : List UInt8} {v : LV} {h h' : LH} {pa pa' : Path} {c : Bool} (hx : oBytes E e s h pa = .val v h' pa' c) :
    h'.ro = h.ro ∧ h'.nx = h.nx + 1 ∧ pa' = pa ∧ ∀ (w : World), ∃ b0 g0, ∀ (ρ : Rn), HEq ρ h w → ρ.s h.nx = b0 → ρ.g h.nx = g0 → DoesR E.P (convert src dst ((LV.str s).real ρ)) ρ h w v h' := by
  unfold oBytes at hx
  split at hx
  · rename_i he
    rw [LH.push_eq] at hx
    cases hx
    refine ⟨rfl, rfl, rfl, fun w => ⟨w.heap.size, grownCap w s.length 0 e, fun ρ hh hn hg => ?_⟩⟩
    have hr := run_bytes_of_string w src dst e ⟨s.toArray⟩ hs hd he
    have hsz : (⟨s.toArray⟩ : ByteArray).size = s.length := by simp [ByteArray.size]
    rw [hsz] at hr
    have hC : (bytesRow ⟨s.toArray⟩ (grownCap w s.length 0 e)).size = grownCap w s.length 0 e := by
      have := grownCap_ge w s.length 0 e
      simp [bytesRow, hsz]; omega
    have hCl : (bytesRow ⟨s.toArray⟩ (grownCap w s.length 0 e)).toList = (s.map fun b => LV.int .u8 b.toNat).map (LV.real ρ) ++ List.replicate (grownCap w s.length 0 e - s.length) (Value.int .u8 0) := by
      simp [bytesRow, hsz, LV.real, Function.comp_def]
    obtain ⟨k1, k2, k3⟩ := add_sound (o := .cells (s.map fun b => .int .u8 b.toNat) s.length e (some 1) true) (w' := w.drew.alloc (.cells (bytesRow ⟨s.toArray⟩ (grownCap w s.length 0 e)) e ((bytesRow ⟨s.toArray⟩ (grownCap w s.length 0 e)).size, (bytesRow ⟨s.toArray⟩ (grownCap w s.length 0 e)).size + 1)))
      hh rfl rfl rfl rfl hn (by
        refine ⟨by simp, _, _, rfl, ⟨_, hCl⟩, ?_, ?_, ?_⟩
        · intro h; cases h
        · intro o ho; simp; omega
        · intro g hg'; cases hg'; rw [hC, hg]; simp)
    refine ⟨_, ?_, k1, k2, k3⟩
    simp only [LV.real]
    rw [hr]
    simp [LA.off, hn, hg]
  · cases hx
end
end Go.Ev

/- What an operation comes to: all kinds. -/
namespace Go.Ev
open Go

section
variable {E : Env}

def ExtOk (E : Env) : Prop := ∀ g e, E.ext g = some e → ∀ args v, e args = some v → ∀ (ρ : Rn) (w : World), (callFunc g (args.map (LV.real ρ)).toArray).run E.P w = .ok (.value (v.real ρ)) w

/-- What is shown of an operation that comes to a value at once. -/
def OSound (E : Env) (r : Operand → LV) (o : Oper) (h : LH) (pa : Path) (v : LV) (h' : LH) : Prop :=
  pa.as = true ∧ h'.ro = h.ro ∧ (h'.nx = h.nx ∨ h'.nx = h.nx + 1) ∧ ∀ (w : World) (a : Act), ∃ b0 g0, ∀ (ρ : Rn), HEq ρ h w → (∀ x, (r x).real ρ = a.eval x) → (h'.nx = h.nx + 1 → ρ.s h.nx = b0 ∧ ρ.g h.nx = g0) →
    Does E.P (execOp a.eval o) ρ h w v h'

variable {n : Nat} {tm : Tr LV} {r : Operand → LV} {o : Oper} {h h' : LH} {pa pa' : Path} {v : LV}

theorem rho_real {ρ : Rn} {w : World} {a : Act} (hh : HEq ρ h w) (ht : TmEq ρ tm n a.tmps) (x : Operand) : (rho tm x).real ρ = a.eval x := by
  cases x with
  | tmp t => exact (ht.2 t).symm
  | const v => exact ofV_real ρ v
  | global g =>
    simp only [rho, Act.eval]
    split
    · rename_i hg
      have hg : g < 64 := Nat.le_of_ble_eq_true hg
      simp [LV.real, LA.real, LA.off, hh.glob g hg]
    · rfl
  | func f => simp [rho, Act.eval, LV.real, LVs.real, fnR]

theorem OSound.pure (hp : pa.as = true) (e : h' = h) (d : ∀ (ρ : Rn) (w : World) (a : Act), HEq ρ h w → (∀ x, a.eval x = (r x).real ρ) → Does E.P (execOp a.eval o) ρ h w v h') : OSound E r o h pa v h' := by
  subst e
  exact ⟨hp, rfl, .inl rfl, fun w a => ⟨0, 0, fun ρ hh ht _ => d ρ w a hh fun x => (ht x).symm⟩⟩
theorem OSound.keep (hp : pa.as = true) (hr : h'.ro = h.ro) (hn : h'.nx = h.nx) (d : ∀ (ρ : Rn) (w : World) (a : Act), HEq ρ h w → (∀ x, a.eval x = (r x).real ρ) → Does E.P (execOp a.eval o) ρ h w v h') : OSound E r o h pa v h' :=
  ⟨hp, hr, .inl hn, fun w a => ⟨0, 0, fun ρ hh ht _ => d ρ w a hh fun x => (ht x).symm⟩⟩
theorem OSound.new (hp : pa.as = true) (e : ∃ ob, h' = h.add ob) (d : ∀ (ρ : Rn) (w : World) (a : Act), HEq ρ h w → (∀ x, a.eval x = (r x).real ρ) → ρ.s h.nx = w.heap.size → Does E.P (execOp a.eval o) ρ h w v h') : OSound E r o h pa v h' := by
  obtain ⟨ob, rfl⟩ := e
  exact ⟨hp, rfl, .inr rfl, fun w a => ⟨w.heap.size, 0, fun ρ hh ht hn => d ρ w a hh (fun x => (ht x).symm) (hn rfl).1⟩⟩

theorem optMap_real {ρ : Rn} {a : Act} (he : ∀ x, a.eval x = (r x).real ρ) (x : Option Operand) : (optMap r x).map (LV.real ρ) = x.map a.eval := by
  cases x with
  | none => rfl
  | some x => simp [optMap, he]

theorem args_real {ρ : Rn} {a : Act} (he : ∀ x, a.eval x = (r x).real ρ) (args : Array Operand) : ((args.toList.map r).map (LV.real ρ)).toArray = args.map a.eval := by
  apply Array.ext'
  simp [he]

/-- What stands in a function value, and what it is called with. -/
theorem resolve_fn {ρ : Rn} {a : Act} {w : World} (he : ∀ x, a.eval x = (r x).real ρ) {c : Call} {ty : TypeId} {f : Operand} {fn : Fn} {first caps : List LV} (hc : c.callee = .value f) (hf : r f = .fn fn first caps) :
    (resolve a.eval c ty).run E.P w = .ok { target := .fn (fnR ρ fn) (caps.map (LV.real ρ)).toArray, args := ((first ++ c.args.toList.map r).map (LV.real ρ)).toArray } w := by
  simp only [resolve, hc, he f, hf, LV.real, Deferred.ofValue, LVs.real_map]
  simp only [Sem.run_pure, Result.ok.injEq, and_true]
  congr 1
  apply Array.ext'
  simp [he]

theorem builtin_sound {b : Builtin} {ts : Array TypeId} {args : List LV} {c : Bool} (hx : builtinL E b ts args h pa = .val v h' pa' c) (hc : c = true) (hp : pa'.as = true) :
    pa.as = true ∧ h'.ro = h.ro ∧ (h'.nx = h.nx ∨ h'.nx = h.nx + 1) ∧ ∀ (w : World) (argsR : Array Value), ∃ b0 g0, ∀ (ρ : Rn) (ty : TypeId) (cs : Array Bool), HEq ρ h w → argsR = (args.map (LV.real ρ)).toArray → (h'.nx = h.nx + 1 → ρ.s h.nx = b0 ∧ ρ.g h.nx = g0) →
      Does E.P (builtin b ts ty cs argsR) ρ h w v h' := by
  have lift : BSound E b ts args v h h' pa pa' → (pa.as = true ∧ h'.ro = h.ro ∧ (h'.nx = h.nx ∨ h'.nx = h.nx + 1) ∧ ∀ (w : World) (argsR : Array Value), ∃ b0 g0, ∀ (ρ : Rn) (ty : TypeId) (cs : Array Bool), HEq ρ h w → argsR = (args.map (LV.real ρ)).toArray → (h'.nx = h.nx + 1 → ρ.s h.nx = b0 ∧ ρ.g h.nx = g0) →
      Does E.P (builtin b ts ty cs argsR) ρ h w v h') := fun hb => by
    obtain ⟨h1, h2, h3, h4⟩ := hb
    exact ⟨h1, h2, .inl h3, fun w argsR => ⟨0, 0, fun ρ ty cs hh e _ => e ▸ h4 ρ w ty cs hh⟩⟩
  have hx0 := hx
  unfold builtinL at hx
  split at hx
  · rename_i t x hts; exact lift (bLen_sound hts hx0 hp)
  · rename_i t x hts; exact lift (bCap_sound hts hx0 hp)
  · exact lift (bMin_sound hx0 hp)
  · exact lift (bMax_sound hx0 hp)
  · rename_i sT xT s x hts
    obtain ⟨ts⟩ := ts
    simp only at hts
    subst hts
    split at hx
    · cases hx
    · rename_i d hni hd
      obtain ⟨h1, h2, h3, h4⟩ := appendL_sound (xT := xT) (fun d' hd' k => by rw [hd] at hd'; cases hd'; exact fun e => hni k e) ⟨_, hd⟩ hx hc hp
      refine ⟨h1, h2, h3, fun w argsR => ?_⟩
      obtain ⟨b0, g0, h5⟩ := h4 w (argsR.getD 0 undef)
      refine ⟨b0, g0, fun ρ ty cs hh e hn => ?_⟩
      subst e
      exact (h5 ρ ty hh (by simp) hn).does
    · cases hx
  · rename_i dT tr d s hts; exact lift (bCopy_sound hts hx0 hp)
  · rename_i t x hts; exact lift (bClear_sound hts hx0 hp)
  · rename_i t tr m x hts; exact lift (bDelete_sound hts hx0 hp)
  · cases hx

theorem evO_sound (hE : EnvBase E) (hX : ExtOk E) {c : Bool} (hx : evO E r o h pa = .val v h' pa' c) (hc : c = true) (hp : pa'.as = true) : OSound E r o h pa v h' := by
  unfold evO at hx
  split at hx <;> rename_i ho
  · cases hx
    exact OSound.pure hp rfl fun ρ w a hh he => by simp only [execOp, ho, he]; exact Does.same hh rfl
  · cases hx
    exact OSound.pure hp rfl fun ρ w a hh he => by simp only [execOp, ho, he]; exact Does.same hh rfl
  · obtain ⟨e, h1, h2⟩ := oPick_sound hx hp
    subst e
    exact OSound.pure h1 rfl fun ρ w a hh he => by simp only [execOp, ho, he]; exact Does.same hh (h2 ρ w E.P)
  · obtain ⟨⟨z, e⟩, rfl, h2⟩ := oAlloc_sound hx
    exact OSound.new hp ⟨_, e⟩ fun ρ w a hh he hn => by simp only [execOp, ho]; exact h2 ρ w hh hn
  · obtain ⟨⟨z, e⟩, rfl, h2⟩ := oBox_sound (E := E) hx
    exact OSound.new hp ⟨_, e⟩ fun ρ w a hh he hn => by simp only [execOp, ho, he]; exact h2 ρ w hh hn
  · rename_i t parts
    obtain ⟨e, rfl, h2⟩ := oBuild_sound hx
    subst e
    exact OSound.pure hp rfl fun ρ w a hh he => by
      simp only [execOp, ho]
      refine (DoesR.same hh (h2 ρ w _ ?_)).does
      simp [he]
  · rename_i t len parts
    obtain ⟨e, rfl, h2⟩ := oBuildSlice_sound hx
    exact OSound.new hp e fun ρ w a hh he hn => by
      simp only [execOp, ho]
      exact h2 ρ w _ (by simp [he]) hh hn
  · obtain ⟨e, rfl, h2⟩ := oLoad_sound hx
    subst e
    exact OSound.pure hp rfl fun ρ w a hh he => by simp only [execOp, ho, he]; exact (DoesR.same hh (h2 ρ w hh)).does
  · obtain ⟨h1, h2, rfl, h3⟩ := oStore_sound hx
    exact OSound.keep hp h1 h2 fun ρ w a hh he => by simp only [execOp, ho, he]; exact h3 ρ w hh
  · rename_i x
    obtain ⟨ad, h1, rfl, h2, rfl⟩ := oNilCheck_val hx
    exact OSound.pure hp h2 fun ρ w a hh he => by
      subst h2
      simp only [execOp, ho, he, h1]
      exact Does.same hh (by simp [LV.real])
  · rename_i op t x y k
    obtain ⟨e, rfl, h2⟩ := oBin_sound hE hx hc
    subst e
    exact OSound.pure hp rfl fun ρ w a hh he => by simp only [execOp, ho, he]; exact (DoesR.same hh (h2 ρ w x y hh)).does
  · obtain ⟨h1, e, rfl, _⟩ := okv_val hx
    subst e
    exact OSound.pure hp rfl fun ρ w a hh he => by simp only [execOp, ho, he]; exact (DoesR.same hh (unL_sound h1 ρ w E.P)).does
  · rename_i src dst x
    by_cases hd : ∃ e, E.P.underlying dst = some (.slice e)
    · obtain ⟨e, hd⟩ := hd
      unfold oConvert at hx
      rw [hd] at hx
      simp only at hx
      split at hx
      · rename_i s hs hxs
        obtain ⟨h1, h2, rfl, h3⟩ := oBytes_sound hd hs hx
        refine ⟨hp, h1, .inr h2, fun w a => ?_⟩
        obtain ⟨b0, g0, h4⟩ := h3 w
        refine ⟨b0, g0, fun ρ hh ht hn => ?_⟩
        obtain ⟨h5, h6⟩ := hn h2
        have he := ht x
        simp only [execOp, ho, ← he, hxs]
        exact (h4 ρ hh h5 h6).does
      · cases hx
    · obtain ⟨e, rfl, h2⟩ := oConvert_read hx (fun e he => hd ⟨e, he⟩)
      subst e
      exact OSound.pure hp rfl fun ρ w a hh he => by simp only [execOp, ho, he]; exact (DoesR.same hh (h2 ρ w hh)).does
  · obtain ⟨e, rfl, h2⟩ := oIface_sound hx
    subst e
    exact OSound.pure hp rfl fun ρ w a hh he => by simp only [execOp, ho, he]; exact (DoesR.same hh (h2 ρ w)).does
  · rename_i fn first caps
    have h1 : (∀ ρ, fnR ρ fn = fn) ∧ v = .fn fn (first.toList.map r) (caps.toList.map r) ∧ h' = h ∧ pa' = pa := by
      unfold oFunc at hx
      split at hx
      · cases hx
      · rename_i hy
        cases hx
        refine ⟨fun ρ => ?_, rfl, rfl, rfl⟩
        cases fn <;> first | rfl | exact absurd rfl (hy _)
    obtain ⟨h1, rfl, e, rfl⟩ := h1
    subst e
    exact OSound.pure hp rfl fun ρ w a hh he => by
      simp only [execOp, ho]
      refine (DoesR.same hh ?_).does
      simp [Instr.makeFunc, LV.real, LVs.real_map, h1, Function.comp_def]
      constructor <;> (apply Array.ext'; simp [he])
  · rename_i t r
    obtain ⟨e, rfl, rfl, h2⟩ := oMakeMap_sound (E := E) (t := t) hx
    exact OSound.new hp e fun ρ w a hh he hn => by simp only [execOp, ho]; exact h2 ρ w hh hn
  · obtain ⟨e, rfl, h2⟩ := oMakeSlice_sound hx hc
    exact OSound.new hp e fun ρ w a hh he hn => by simp only [execOp, ho, he]; exact h2 ρ w hh hn
  · rename_i t x lo hi mx
    obtain ⟨e, rfl, rfl, h2⟩ := oSlice_sound hx hc
    subst e
    exact OSound.pure hp rfl fun ρ w a hh he => by
      simp only [execOp, ho, ← optMap_real he, he x]
      exact (DoesR.same hh (h2 ρ w hh)).does
  · obtain ⟨e, rfl, h2⟩ := oFieldAddr_sound hx
    subst e
    exact OSound.pure hp rfl fun ρ w a hh he => by simp only [execOp, ho, he]; exact (DoesR.same hh (h2 ρ w)).does
  · obtain ⟨e, rfl, h2⟩ := oField_sound hx
    subst e
    exact OSound.pure hp rfl fun ρ w a hh he => by simp only [execOp, ho, he]; exact (DoesR.same hh (h2 ρ w)).does
  · obtain ⟨e, rfl, h2⟩ := oIndexAddr_sound hx hc
    subst e
    exact OSound.pure hp rfl fun ρ w a hh he => by simp only [execOp, ho, he]; exact (DoesR.same hh (h2 ρ w)).does
  · obtain ⟨e, rfl, h2⟩ := oIndex_sound hx hc
    subst e
    exact OSound.pure hp rfl fun ρ w a hh he => by simp only [execOp, ho, he]; exact (DoesR.same hh (h2 ρ w)).does
  · obtain ⟨e, h1, h2⟩ := oLookup_sound hx hp
    subst e
    exact OSound.pure h1 rfl fun ρ w a hh he => by simp only [execOp, ho, he]; exact (DoesR.same hh (h2 ρ w hh)).does
  · obtain ⟨h1, h2, h3, h4⟩ := oMapSet_sound hx hp
    exact OSound.keep h3 h1 h2 fun ρ w a hh he => by simp only [execOp, ho, he]; exact h4 ρ w hh
  · obtain ⟨h1, h2, h3, h4⟩ := oMapSet_sound hx hp
    exact OSound.keep h3 h1 h2 fun ρ w a hh he => by simp only [execOp, ho, he]; exact h4 ρ w hh
  · obtain ⟨e, rfl, h2⟩ := oRange_sound hx
    exact OSound.new hp e fun ρ w a hh he hn => by simp only [execOp, ho, he]; exact h2 ρ w hh hn
  · obtain ⟨h1, h2, h3, h4⟩ := oNext_sound (ty := o.type) hx hp
    exact OSound.keep h3 h1 h2 fun ρ w a hh he => by simp only [execOp, ho, he]; exact h4 ρ w hh
  · rename_i x xt asserted ok
    obtain ⟨e, rfl, h2⟩ := oAssert_sound (xt := xt) hx
    subst e
    exact OSound.pure hp rfl fun ρ w a hh he => by simp only [execOp, ho, he]; exact (DoesR.same hh (h2 ρ w)).does
  · obtain ⟨e, rfl, h2⟩ := oExtract_sound hx
    subst e
    exact OSound.pure hp rfl fun ρ w a hh he => by simp only [execOp, ho, he]; exact (DoesR.same hh (h2 ρ w E.P)).does
  · rename_i c
    unfold oCall at hx
    split at hx <;> rename_i hcal
    · rename_i b
      obtain ⟨h1, h2, h3, h4⟩ := builtin_sound hx hc hp
      refine ⟨h1, h2, h3, fun w a => ?_⟩
      obtain ⟨b0, g0, h5⟩ := h4 w (c.args.map a.eval)
      refine ⟨b0, g0, fun ρ hh ht hn => ?_⟩
      have := h5 ρ o.type (c.args.map fun | .const _ => true | _ => false) hh (args_real (fun x => (ht x).symm) c.args).symm hn
      simp only [execOp, ho, resolve, hcal, invoke]
      exact this
    · rename_i f
      unfold oCallV at hx
      split at hx
      · rename_i g first caps hf
        split at hx
        · cases hx
        rename_i e hext
        obtain ⟨h1, h2, rfl, _⟩ := okv_val hx
        subst h2
        refine OSound.pure hp rfl fun ρ w a hh he => Does.same hh ?_
        have := hX g e hext _ _ h1 ρ w
        simp only [execOp, ho, Sem.run_bind, resolve_fn (E := E) (w := w) (ty := o.type) he hcal hf, Result.andThen_ok, fnR, invoke]
        rw [← this]
        simp
      · cases hx
      · cases hx
    · cases hx
  · cases hx
end
end Go.Ev
