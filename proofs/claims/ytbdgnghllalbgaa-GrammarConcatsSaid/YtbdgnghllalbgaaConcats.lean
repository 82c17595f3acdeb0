/- GrammarConcats, for every input: the law returns true, and each argument reads behind the call as it read before. No condition. -/
import Derived.Test.YtbdgnghllalbgaaMG
import Derived.Test.YtbdgnghllalbgaaRA
namespace Go.Proofs.Ytbdgnghllalbgaa
open Go Go.Sx Go.ChangeShapes Go.WideShapes Go.RowKit
set_option maxRecDepth 100000
theorem lifted4 (os : Os) (started : os.Started) (H : Type) (enc : TypeId × Value → H) :
    ReturnsInHanded {} Try.checked os 4 .any (Rows.grammarConcatsSpec.pre6 enc Try.prog Try.f4 Rows.grammarConcatsRow.domain false) (Rows.grammarConcatsSpec.post enc Try.prog Try.f4 false true false false) := by
  refine returnsInHanded_of_change_sized (C := Try.checked) own_none started (by kernel_rfl) Try.func4
    (ChangeSpec.witness6 (enc := enc) (C := Try.checked) false ⟨#[], #[.slice none 0 0, .slice none 0 0, .int .i64 0], []⟩ 8 (by kernel_rfl) (by kernel_rfl) (by kernel_rfl) (by kernel_rfl)) ?_
  intro W base args ds gs before hval0 hW _ hsz _
  have hval : ∀ (j : Nat) t v, Try.f4.params[j]? = some t → args[j]? = some v → Value.okWide Try.prog W .any base t v := hval0
  have hW' := hW
  obtain ⟨p, q, hA0, hV, rfl, _, _⟩ := hW
  have hA : DataW.TrodAll enc Try.prog W 0 (fun _ => true) true Try.f4.params.toList args.toList ds p := hA0
  rw [Try.params4] at hA hval
  obtain ⟨v0, v1, v2, d0, d1, d2, p0, p1, p2, rfl, rfl, rfl, h0, h1, h2⟩ := trodAll_three hA
  obtain ⟨rfl, rfl⟩ := trodVars_none hV
  simp only [List.append_nil] at hW'
  have hlt : ∀ x ∈ p0 ++ p1 ++ p2, x.block < W.heap.size := fun x hx => by simpa using hW'.lt x hx
  obtain ⟨a0, l0, k0, rfl⟩ := okWide_slice Try.underlying23 (hval 0 23 v0 rfl rfl)
  obtain ⟨f0, t0⟩ := id h0
  obtain ⟨x0, r0, b0⟩ := list0 t0
  obtain ⟨a1, l1, k1, rfl⟩ := okWide_slice Try.underlying23 (hval 1 23 v1 rfl rfl)
  obtain ⟨f1, t1⟩ := id h1
  obtain ⟨x1, r1, b1⟩ := list0 t1
  obtain ⟨n2, rfl, rfl, rfl, _⟩ := open_int Try.underlying3 (hval 2 3 v2 rfl rfl) h2
  have hc := ok_calls (C := cfg) (w := W) ok4 (ess := [[.ro 0 x0], [.ro 0 x1], [.i .i64 n2]]) (ar_consR r0 (ar_consR r1 (ar_consI .i64 n2 .nil))) (fun b hb => by cases hb) rfl rfl rfl rfl
  refine hc.mono fun e W' ⟨he, hB⟩ => ?_
  subst he
  have c0 := Below.trod laid_out (t := 23) (by kernel_rfl) (of_decide_eq_true (by kernel_rfl)) h0 hB (fun x hx => hlt x (by simp [hx]))
  have c1 := Below.trod laid_out (t := 23) (by kernel_rfl) (of_decide_eq_true (by kernel_rfl)) h1 hB (fun x hx => hlt x (by simp [hx]))
  have c2 := Below.trod laid_out (t := 3) (by kernel_rfl) (of_decide_eq_true (by kernel_rfl)) h2 hB (fun x hx => by cases hx)
  exact ⟨_, rfl, ⟨_, _, _, [], _, [], hW', trodAll_mk1 (shut_true true), trodAll_mk3 c0 c1 c2, rfl, hB.frame _, fun h => by cases h⟩⟩
theorem concats_holds : Rows.GrammarConcatsSaid :=
  OpenClaim.holds_of_wide 4 Try.f4 rfl rfl rfl rfl rfl rfl rfl ⟨rfl, rfl, rfl, rfl, rfl⟩ rfl rfl rfl rfl rfl (by kernel_rfl) Try.func4 (by kernel_rfl)
    (of_decide_eq_true (by kernel_rfl)) (by unfold Func.isWrapper; rw [if_neg (by decide +kernel)]; exact ⟨rfl, rfl⟩)
    (fun os started H enc _ => lifted4 os started H enc)
end Go.Proofs.Ytbdgnghllalbgaa
