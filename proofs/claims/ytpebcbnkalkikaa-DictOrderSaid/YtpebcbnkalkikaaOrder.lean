/- norialaw7.DictOrder answers true of every list of strings, and the list reads behind the call as it read before. Conditions: none. -/
import Derived.Test.YtpebcbnkalkikaaRows
import Derived.Test.YtpebcbnkalkikaaDa
import Derived.Test.YtpebcbnkalkikaaTb
import Derived.Test.YtpebcbnkalkikaaFe
import Derived.WalkKit
import Derived.ProofKit
import Derived.OpenShut
import Derived.ShutString
import Derived.ChangeOld
import Derived.Below
import Derived.SizedLaws
import Derived.SliceStrings
import Derived.Carry
namespace Go.Proofs.Ytpebcbnkalkikaa.dictOrder
open Go.ChangeShapes Go.WideShapes Go.ChangeAt Go.RowKit
open Go.ChangeMaps (open_string shut_string)
set_option linter.unusedVariables false
theorem own : ownKnob Try.prog.godebug = none := by kernel_rfl
theorem laidOut : laidOutB Try.prog = true := by kernel_rfl
set_option maxRecDepth 100000 in
theorem lifted (os : Os) (started : os.Started) (H : Type) (enc : TypeId × Value → H) :
    ReturnsInHanded {} Try.checked os 3 .any (Rows.dictOrderSpec.pre6 enc Try.prog Try.f3 Rows.dictOrderRow.domain false) (Rows.dictOrderSpec.post enc Try.prog Try.f3 false true false false) := by
  refine returnsInHanded_of_change_sized (C := Try.checked) own started (by kernel_rfl) Try.func3
    (ChangeSpec.witness6 (enc := enc) (C := Try.checked) false ⟨#[], #[.slice none 0 0], []⟩ 8 (by kernel_rfl) (by kernel_rfl) (by kernel_rfl) (by kernel_rfl)) ?_
  intro W base args ds gs before hval0 hW hcnd hsz0 _
  have hval : ∀ (j : Nat) t v, Try.f3.params[j]? = some t → args[j]? = some v → Value.okWide Try.prog W .any base t v := hval0
  have hW' := hW
  obtain ⟨p, q, hA0, hV, rfl, hfz, hnd⟩ := hW
  have hA : DataW.TrodAll enc Try.prog W 0 (fun _ => true) true Try.f3.params.toList args.toList ds p := hA0
  rw [Try.params3] at hA hval
  obtain ⟨v0, vs0, d0, ds0, p0, q0, hargs, rfl, rfl, h0, r0⟩ := trodAll_cons hA
  obtain ⟨rfl, rfl, rfl⟩ := trodAll_nil r0
  obtain rfl : args = #[v0] := by cases args; simp_all
  obtain ⟨rfl, rfl⟩ := trodVars_none hV
  obtain ⟨a0, len0, cap0, rfl, hspot⟩ := Go.VS.okWide_slice_spot Try.underlying22 (hval 0 22 v0 rfl rfl)
  have k0 := h0
  have lt0 : ∀ x ∈ p0, x.block < W.heap.size := by obtain ⟨m, hm⟩ := k0; exact DataW.trod_lt m _ _ _ hm
  obtain ⟨ss, hss, hread⟩ : ∃ ss : List (List UInt8), ss.length = len0 ∧ ((a0 = none ∧ len0 = 0 ∧ cap0 = 0) ∨ ∃ x, a0 = some x ∧ x.spot = none ∧ len0 ≤ cap0 ∧ ∀ i s, ss[i]? = some s → W.cell? (x.add i) = some (.string ⟨s.toArray⟩)) := by
    obtain ⟨fuel, hf⟩ := h0
    rcases open_strings Try.underlying22 Try.underlying9 (by kernel_rfl) hf with ⟨hcs, _⟩ | ⟨x, l, c, zs, hcs, _, hl, hm, hz, _, hcell, hwz⟩
    · simp [Value.cells] at hcs
      obtain ⟨rfl, rfl, rfl⟩ := hcs
      exact ⟨[], rfl, .inl ⟨rfl, rfl, rfl⟩⟩
    · simp [Value.cells] at hcs
      obtain ⟨rfl, rfl, rfl⟩ := hcs
      simp only [if_true] at hz
      refine ⟨(zs.take len0).map (·.data.toList), by simp; omega, .inr ⟨x, rfl, hspot x rfl, hl, fun i s hs => ?_⟩⟩
      rw [List.getElem?_map, Option.map_eq_some_iff] at hs
      obtain ⟨b, hb, rfl⟩ := hs
      have hi : i < len0 ∧ i < zs.length := by have := (List.getElem?_eq_some_iff.1 hb).1; simp at this; omega
      have hb' : zs[i]? = some b := by rw [List.getElem?_take] at hb; simpa [hi.1] using hb
      have := hcell i hi.2
      rw [List.getD_eq_getElem?_getD, hb'] at this
      simpa using this
  clear hA0 hval0 hsz0
  have hcall := Go.VS.law_calls (AP := Go.VS.AP) (RP := Go.VS.RPn) Go.VS.tabT Go.VS.tabP (Go.VS.order_run ss) (w := W) (args := [.slice a0 len0 cap0]) (Go.VS.args1 (.inl rfl) (Go.VS.start_strs hss hread))
  refine hcall.mono fun e W' ⟨he, bel⟩ => ?_
  subst he
  exact ⟨_, rfl, _, _, _, [], _, [], hW', trodAll_mk1 (shut_bool Try.underlying4 _), (trodAll_cons_mk (Below.trod laidOut (by kernel_rfl) (of_decide_eq_true (by kernel_rfl)) k0 bel lt0) trodAll_mk0), rfl, bel.frame _, fun h => by cases h⟩
theorem over : Rows.dictOrderRow.holds Try.pinned (OpenSpec.ofChange Rows.dictOrderSpec) :=
  OpenClaim.holds_of_wide 3 Try.f3 rfl rfl rfl rfl rfl rfl rfl ⟨rfl, rfl, rfl, rfl, rfl⟩ rfl rfl rfl rfl rfl (by kernel_rfl) Try.func3 (by kernel_rfl)
    (of_decide_eq_true (by kernel_rfl)) (by unfold Func.isWrapper; first | (rw [if_pos (by decide +kernel)]; kernel_rfl) | (rw [if_neg (by decide +kernel)]; exact ⟨rfl, rfl⟩))
    (fun os started H enc _ => lifted os started H enc)
theorem proved : Rows.DictOrderSaid := over
#print axioms proved
end Go.Proofs.Ytpebcbnkalkikaa.dictOrder
