/- GrammarBuses, for every input: the law returns true, and each argument reads behind the call as it read before. No condition. -/
import Derived.Test.YtbdgnghllalbgaaMH
import Derived.Test.YtbdgnghllalbgaaRA
namespace Go.Proofs.Ytbdgnghllalbgaa
open Go Go.Sx Go.ChangeShapes Go.WideShapes Go.RowKit
set_option maxRecDepth 100000
theorem lifted5 (os : Os) (started : os.Started) (H : Type) (enc : TypeId × Value → H) :
    ReturnsInHanded {} Try.checked os 5 .any (Rows.grammarBusesSpec.pre6 enc Try.prog Try.f5 Rows.grammarBusesRow.domain false) (Rows.grammarBusesSpec.post enc Try.prog Try.f5 false true false false) := by
  refine returnsInHanded_of_change_sized (C := Try.checked) own_none started (by kernel_rfl) Try.func5
    (ChangeSpec.witness6 (enc := enc) (C := Try.checked) false ⟨#[], #[.slice none 0 0, .int .i64 0], []⟩ 8 (by kernel_rfl) (by kernel_rfl) (by kernel_rfl) (by kernel_rfl)) ?_
  intro W base args ds gs before hval0 hW _ hsz _
  have hval : ∀ (j : Nat) t v, Try.f5.params[j]? = some t → args[j]? = some v → Value.okWide Try.prog W .any base t v := hval0
  have hW' := hW
  obtain ⟨p, q, hA0, hV, rfl, _, _⟩ := hW
  have hA : DataW.TrodAll enc Try.prog W 0 (fun _ => true) true Try.f5.params.toList args.toList ds p := hA0
  rw [Try.params5] at hA hval
  obtain ⟨v0, v1, d0, d1, p0, p1, rfl, rfl, rfl, h0, h1⟩ := trodAll_two hA
  obtain ⟨rfl, rfl⟩ := trodVars_none hV
  simp only [List.append_nil] at hW'
  have hlt : ∀ x ∈ p0 ++ p1, x.block < W.heap.size := fun x hx => by simpa using hW'.lt x hx
  obtain ⟨a0, l0, k0, rfl⟩ := okWide_slice Try.underlying23 (hval 0 23 v0 rfl rfl)
  obtain ⟨f0, t0⟩ := id h0
  obtain ⟨x0, r0, b0⟩ := list0 t0
  obtain ⟨n1, rfl, rfl, rfl, _⟩ := open_int Try.underlying3 (hval 1 3 v1 rfl rfl) h1
  have hc := ok_calls (C := cfg) (w := W) ok5 (ess := [[.ro 0 x0], [.i .i64 n1]]) (ar_consR r0 (ar_consI .i64 n1 .nil)) (fun b hb => by cases hb) rfl rfl rfl rfl
  refine hc.mono fun e W' ⟨he, hB⟩ => ?_
  subst he
  have c0 := Below.trod laid_out (t := 23) (by kernel_rfl) (of_decide_eq_true (by kernel_rfl)) h0 hB (fun x hx => hlt x (by simp [hx]))
  have c1 := Below.trod laid_out (t := 3) (by kernel_rfl) (of_decide_eq_true (by kernel_rfl)) h1 hB (fun x hx => by cases hx)
  exact ⟨_, rfl, ⟨_, _, _, [], _, [], hW', trodAll_mk1 (shut_true true), trodAll_mk2 c0 c1, rfl, hB.frame _, fun h => by cases h⟩⟩
theorem buses_holds : Rows.GrammarBusesSaid :=
  OpenClaim.holds_of_wide 5 Try.f5 rfl rfl rfl rfl rfl rfl rfl ⟨rfl, rfl, rfl, rfl, rfl⟩ rfl rfl rfl rfl rfl (by kernel_rfl) Try.func5 (by kernel_rfl)
    (of_decide_eq_true (by kernel_rfl)) (by unfold Func.isWrapper; rw [if_neg (by decide +kernel)]; exact ⟨rfl, rfl⟩)
    (fun os started H enc _ => lifted5 os started H enc)
end Go.Proofs.Ytbdgnghllalbgaa
