/- All known calls. -/
import Derived.Test.YtfblhdiihlkmjaaGreatDoorV0
import Derived.Test.YtfblhdiihlkmjaaGreatDoorV1
import Derived.Test.YtfblhdiihlkmjaaGreatDoorV2
import Derived.Test.YtfblhdiihlkmjaaGreatDoorV3
import Derived.Test.YtfblhdiihlkmjaaGreatDoorV4
import Derived.Test.YtfblhdiihlkmjaaGreatDoorV5
import Derived.Test.YtfblhdiihlkmjaaGreatDoorV6
import Derived.Test.YtfblhdiihlkmjaaGreatDoorV7
import Derived.Test.YtfblhdiihlkmjaaGreatDoorV8
import Derived.Test.YtfblhdiihlkmjaaGreatDoorV9
import Derived.Test.YtfblhdiihlkmjaaGreatDoorIm
import Derived.Test.YtfblhdiihlkmjaaGreatDoorLives
namespace Go.Proofs.YtfblhdiihlkmjaaGreatDoor
open Go Go.Ev
theorem good_cons {f : FuncId} {m : Memo} {ms : List Memo} (h : Good f m) (hs : ∀ x ∈ ms, Good f x) : ∀ x ∈ m :: ms, Good f x := fun x hx => by
  rcases List.mem_cons.1 hx with rfl | hx
  · exact h
  · exact hs x hx
theorem good_nil {f : FuncId} : ∀ x ∈ ([] : List Memo), Good f x := fun _ h => by cases h

noncomputable def osI : List Memo := [vmI 32 prI0 0 0, vmI 32 prI1 0 0, vmI 25 prI2 0 0, vmI 25 prI3 0 0, vmI 32 prI4 0 0, vmI 28 prI5 0 0, vmI 31 prI6 0 0, vmI 22 prI7 0 0]
theorem osI_good : ∀ m ∈ osI, Good 14 m := good_cons ⟨_, vI0_ok⟩ (good_cons ⟨_, vI1_ok⟩ (good_cons ⟨_, vI2_ok⟩ (good_cons ⟨_, vI3_ok⟩ (good_cons ⟨_, vI4_ok⟩ (good_cons ⟨_, vI5_ok⟩ (good_cons ⟨_, vI6_ok⟩ (good_cons ⟨_, vI7_ok⟩ (good_nil))))))))
noncomputable def osS : List Memo := [vmS 3 prS0 0 0, vmS 3 prS1 0 0, vmS 32 prS2 0 0, vmS 19 prS3 0 0, vmS 31 prS4 0 0, vmS 25 prS5 0 0, vmS 33 prS6 0 0, vmS 22 prS7 0 0]
theorem osS_good : ∀ m ∈ osS, Good 14 m := good_cons ⟨_, vS0_ok⟩ (good_cons ⟨_, vS1_ok⟩ (good_cons ⟨_, vS2_ok⟩ (good_cons ⟨_, vS3_ok⟩ (good_cons ⟨_, vS4_ok⟩ (good_cons ⟨_, vS5_ok⟩ (good_cons ⟨_, vS6_ok⟩ (good_cons ⟨_, vS7_ok⟩ (good_nil))))))))
/-- All known calls, with one of the verifier's more. -/
noncomputable def known (a b : Memo) : List (FuncId × List Memo) := [(14, osI ++ osS ++ [a, b]), (6, [imI]), (8, [imS]), (73, [ckI, ckS]), (13, [mLives])]
theorem known_ok {a b : Memo} (ha : Good 14 a) (hb : Good 14 b) : EnvOk (En (known a b)) := by
  refine env_ok prog_ok en0 fun f ms hm => ?_
  simp only [known, List.mem_cons, Prod.mk.injEq, List.not_mem_nil, or_false] at hm
  rcases hm with ⟨rfl, rfl⟩ | ⟨rfl, rfl⟩ | ⟨rfl, rfl⟩ | ⟨rfl, rfl⟩ | ⟨rfl, rfl⟩
  · intro m h
    rcases List.mem_append.1 h with h | h
    · rcases List.mem_append.1 h with h | h
      · exact osI_good m h
      · exact osS_good m h
    · exact good_cons ha (good_cons hb good_nil) m h
  · exact good_cons ⟨_, imI_ok⟩ good_nil
  · exact good_cons ⟨_, imS_ok⟩ good_nil
  · exact good_cons ⟨_, ckI_ok⟩ (good_cons ⟨_, ckS_ok⟩ good_nil)
  · exact good_cons ⟨_, lives_ok⟩ good_nil
/-- The world a law is called in. -/
noncomputable def hT (t : TypeId) : LH := ⟨Tr.set (.cells tab tab.length t none false) .leaf 0, 64, 64⟩
/-- Does a call come to true? Under what. -/
noncomputable def tells : CR → Bool
  | .ret (.bool true) _ ⟨[], a⟩ => a
  | _ => false

end Go.Proofs.YtfblhdiihlkmjaaGreatDoor
