/- From an evaluation to a law's call, in whatever world the table stands. -/
import Derived.Test.YtfblhdiihlkmjaaGreatDoorKnown
import Derived.LaidHandle
import Derived.LaidSub
import Derived.Lib.LaidTab
namespace Go.Proofs.YtfblhdiihlkmjaaGreatDoor
open Go Go.Ev

/-- The table's numbers. -/
def tabZ : List Int := [0, 1, 56, 2, 57, 49, 28, 3, 61, 58, 42, 50, 38, 29, 17, 4, 62, 47, 59, 36, 45, 43, 51, 22, 53, 39, 33, 30, 24, 18, 12, 5, 63, 55, 48, 27, 60, 41, 37, 16, 46, 35, 44, 21, 52, 32, 23, 11, 54, 26, 40, 15, 34, 20, 31, 10, 25, 14, 19, 9, 13, 8, 7, 6]
theorem tab_real (ρ : Rn) : tab.map (LV.real ρ) = tabZ.map fun z => Value.int .u8 z := by
  simp only [tab, tabZ, List.map_cons, List.map_nil, LV.real]
  rfl
theorem laid_is {H : Type} : (Rows.laid_math_bits_deBruijn64tab : DataW H) = Lib.tabData .u8 tabZ := rfl
theorem g0_named : Tryz.prog.globalNamed "math/bits.deBruijn64tab" = some 0 := by kernel_rfl
theorem g0_type : (Tryz.prog.globals[0]?).map (·.type) = some 367 := by kernel_rfl
theorem g0_under : Tryz.prog.underlying 367 = some (.array 64 5) := by kernel_rfl
theorem g0_elem : Tryz.prog.underlying 5 = some (.int .u8) := by kernel_rfl
theorem g0_cell : Tryz.prog.cellsOf 5 = 1 := by kernel_rfl
theorem g0_cells : Tryz.prog.cellsOf 367 = 64 := by kernel_rfl

/-- The table's row, in whatever world meets the condition. -/
theorem tab_row {W : World} (h : laidMetH Tryz.prog [("math/bits.deBruijn64tab", Rows.laid_math_bits_deBruijn64tab)] W) : ∃ t, W.heap[0]? = some (.cells (tabZ.map fun z => Value.int .u8 z).toArray t (0, 0)) := by
  have h' : laidMet Tryz.prog [("math/bits.deBruijn64tab", Lib.tabData .u8 tabZ)] W := (laidMetH_iff.1 h).1
  have ht := Lib.tabIs_of_head g0_named g0_type g0_under g0_elem g0_cell g0_cells h'
  unfold Lib.TabIs at ht
  obtain ⟨ps, ⟨g, t, cs, fuel, p, q, hg, hty, hv, hd, hr, rfl⟩, hnd, hrow⟩ := h'
  obtain rfl := Option.some.inj (g0_named.symm.trans hg)
  have hcs := Option.some.inj (hv.symm.trans ht)
  have hm : MemPlace.cell 0 0 ∈ MemPlace.row ⟨0, 0, none⟩ cs.size ++ p ++ q := by
    rw [hcs]
    exact List.mem_append_left _ (List.mem_append_left _ (by simp [MemPlace.row, tabZ]))
  obtain ⟨⟨c, t', hc⟩, _⟩ := hrow 0 0 hm
  refine ⟨t', ?_⟩
  unfold World.var? at ht
  rw [g0_named] at ht
  simp only [Option.bind_some, hc, Option.some.injEq] at ht
  rw [hc, ht]

/-- The first memory, in such a world. -/
theorem mem_hT {W : World} {t : TypeId} (hrow : W.heap[0]? = some (.cells (tabZ.map fun z => Value.int .u8 z).toArray t (0, 0))) : Mem (fun id => id < 64) ⟨fun i => i, fun _ => 0⟩ (hT t) W := by
  intro ρ' ag
  have look : ∀ id o, (hT t).bs.get id = some o → id = 0 ∧ o = .cells tab tab.length t none false := by
    intro id o ho
    simp only [hT, Tr.get_set] at ho
    split at ho
    · rename_i e; cases ho; exact ⟨e, rfl⟩
    · rw [Tr.get_leaf] at ho; cases ho
  refine ⟨fun id o ho => ?_, fun i j x y hx hy _ _ _ => ?_, fun g hg => (ag g hg).1⟩
  · obtain ⟨rfl, rfl⟩ := look id o ho
    rw [(ag 0 (by omega)).1]
    refine ⟨rfl, _, (0, 0), hrow, ⟨[], ?_⟩, fun _ => rfl, fun o _ => by simp, fun g hg => by cases hg⟩
    rw [tab_real]; simp
  · rw [(look i x hx).1, (look j y hy).1]

/-- What a law's call leaves: true; all that was is as it was. -/
def Leaves (W : World) (e : Ending) (W' : World) : Prop :=
  e = .returned (.bool true) ∧ W.heap.size ≤ W'.heap.size ∧ (∀ b, b < W.heap.size → W'.heap[b]? = W.heap[b]?) ∧ W'.os = W.os ∧ W'.output = W.output

theorem call_true {l : List (FuncId × List Memo)} {hs : List Hint} {n : Nat} {f : FuncId} {args : List LV} (hE : EnvOk (En l)) (hev : ∀ t, tells (evF (En l) true n f args (hT t) ⟨hs, true⟩) = true) {W : World} {A : Array Value}
    (hL : laidMetH Tryz.prog [("math/bits.deBruijn64tab", Rows.laid_math_bits_deBruijn64tab)] W) (hA : ∀ ρ, A = (args.map (LV.real ρ)).toArray) : Calls Tryz.prog f A W (Leaves W) := by
  obtain ⟨t, hrow⟩ := tab_row hL
  have hev := hev t
  unfold tells at hev
  split at hev
  · rename_i h' a hx
    obtain ⟨_, hst, hc⟩ := evF_sound hE true n _ _ _ _ _ _ _ hx hev
    have hnx : (hT t).nx = 64 := rfl
    have hro : (hT t).ro = 64 := rfl
    obtain ⟨_, h2⟩ := hc (fun id => id < 64) ⟨fun i => i, fun _ => 0⟩ W A ⟨fun id hi => .inl hi, by rw [hnx, hro]; exact Nat.le_refl _⟩ (mem_hT hrow) (fun ρ' _ => hA ρ')
    refine (h2.mono ?_).calls fun _ => room_wide _
    rintro e w1 ⟨ρ1, V, rfl, m1, v1, e1⟩
    have hv := v1.self
    simp only [LV.real] at hv
    subst hv
    refine ⟨rfl, e1.kept.size, fun b hb => e1.kept.same b hb ?_, e1.kept.os, e1.kept.output⟩
    rintro ⟨id, o, ho, _, hr, _⟩
    simp only [hT, Tr.get_set] at ho
    split at ho
    · rename_i e; subst e; simp [hT] at hr
    · rw [Tr.get_leaf] at ho; cases ho
  · cases hev

theorem kept_all {W W' : World} {e : Ending} (h : Leaves W e W') {may : MemPlace → Prop} : W.keptBut W' may := by
  obtain ⟨_, _, h1, h2, h3⟩ := h
  refine ⟨h2, h3, fun i hi => ?_⟩
  rw [h1 i hi]
  split
  · rename_i e1 e2
    rw [e1] at e2
    cases e2
    exact ⟨rfl, rfl, rfl, fun _ _ => rfl⟩
  · rename_i e1 e2
    rw [e1] at e2
    cases e2
    exact .inr ⟨rfl, rfl⟩
  · rfl
end Go.Proofs.YtfblhdiihlkmjaaGreatDoor
