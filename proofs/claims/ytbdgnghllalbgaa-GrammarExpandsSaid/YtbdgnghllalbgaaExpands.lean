/- GrammarExpands, for every input: the law returns true, and each argument reads behind the call as it read before. No condition. -/
import Derived.Test.YtbdgnghllalbgaaRows
import GoSem.Claim
import GoSem.ClaimJoined
import GoSem.ClaimMapViews
import Derived.JoinedTies
import Derived.ChangeSame
import Derived.JoinedOf
import Derived.JoinedAt
import Derived.RowKit
import Derived.ProofKit
import Derived.Carry
import Derived.SizedLaws
import Derived.Test.YtbdgnghllalbgaaMF
import Derived.Test.YtbdgnghllalbgaaME
namespace Go.Proofs.Ytbdgnghllalbgaa
open Go Go.Sx Go.ChangeShapes Go.WideShapes Go.RowKit
set_option maxRecDepth 100000
theorem own_none : ownKnob Try.prog.godebug = none := by kernel_rfl
theorem laid_out : laidOutB Try.prog = true := by kernel_rfl
theorem list1 {H : Type} {enc : TypeId × Value → H} {W : World} {base : Nat} {spare : Nat → Bool} {held : Bool} {fuel : Nat} {v : Value} {x : DataW H × List MemPlace} (h : DataW.trod enc Try.prog W base spare held fuel 22 [v] = some x) :
    ∃ xs : List Itm, Rel cfg W (fun b => False ∨ b ∈ ([] : List Nat)) (.ro 1 xs) v ∧ ((v = .slice none 0 0 ∧ xs = []) ∨ ∃ D S, x.1 = .slice D S ∧ D.length = xs.length) :=
  list_arg (C := cfg) (t := 1) (n := 4) cfg_ok Try.underlying22 (by kernel_rfl) (by kernel_rfl) (by rfl) (by decide) (fun b hb => by simp at hb) h
theorem list0 {H : Type} {enc : TypeId × Value → H} {W : World} {base : Nat} {spare : Nat → Bool} {held : Bool} {fuel : Nat} {v : Value} {x : DataW H × List MemPlace} (h : DataW.trod enc Try.prog W base spare held fuel 23 [v] = some x) :
    ∃ xs : List Int, Rel cfg W (fun b => False ∨ b ∈ ([] : List Nat)) (.ro 0 xs) v ∧ ((v = .slice none 0 0 ∧ xs = []) ∨ ∃ D S, x.1 = .slice D S ∧ D.length = xs.length) :=
  list_arg (C := cfg) (t := 0) (n := 4) cfg_ok Try.underlying23 (by kernel_rfl) (by kernel_rfl) (by rfl) (by decide) (fun b hb => by simp at hb) h
theorem shut_true {H : Type} {enc : TypeId × Value → H} {W : World} {base : Nat} {sp : Nat → Bool} {held : Bool} (b : Bool) : DataW.Trod enc Try.prog W base sp held 4 (.bool b) (.lit (.bool b)) [] := ⟨1, by simp [DataW.trod, Value.cells, Try.underlying4]⟩

theorem expands_lifted (os : Os) (started : os.Started) (H : Type) (enc : TypeId × Value → H) :
    ReturnsInHanded {} Try.checked os 3 .any (Rows.grammarExpandsSpec.pre6 enc Try.prog Try.f3 Rows.grammarExpandsRow.domain false) (Rows.grammarExpandsSpec.post enc Try.prog Try.f3 false true false false) := by
  refine returnsInHanded_of_change_sized (C := Try.checked) own_none started (by kernel_rfl) Try.func3
    (ChangeSpec.witness6 (enc := enc) (C := Try.checked) false ⟨#[], #[.int .i64 0, .slice none 0 0, .slice none 0 0], []⟩ 8 (by kernel_rfl) (by kernel_rfl) (by kernel_rfl) (by kernel_rfl)) ?_
  intro W base args ds gs before hval0 hW _ hsz _
  have hval : ∀ (j : Nat) t v, Try.f3.params[j]? = some t → args[j]? = some v → Value.okWide Try.prog W .any base t v := hval0
  have hW' := hW
  obtain ⟨p, q, hA0, hV, rfl, _, _⟩ := hW
  have hA : DataW.TrodAll enc Try.prog W 0 (fun _ => true) true Try.f3.params.toList args.toList ds p := hA0
  rw [Try.params3] at hA hval
  obtain ⟨v0, v1, v2, d0, d1, d2, p0, p1, p2, rfl, rfl, rfl, h0, h1, h2⟩ := trodAll_three hA
  obtain ⟨rfl, rfl⟩ := trodVars_none hV
  simp only [List.append_nil] at hW'
  have hlt : ∀ x ∈ p0 ++ p1 ++ p2, x.block < W.heap.size := fun x hx => by simpa using hW'.lt x hx
  obtain ⟨n, rfl, rfl, rfl, _⟩ := open_int Try.underlying3 (hval 0 3 v0 rfl rfl) h0
  obtain ⟨a1, l1, k1, rfl⟩ := okWide_slice Try.underlying22 (hval 1 22 v1 rfl rfl)
  obtain ⟨a2, l2, k2, rfl⟩ := okWide_slice Try.underlying23 (hval 2 23 v2 rfl rfl)
  have h1' := h1
  have h2' := h2
  obtain ⟨f1, t1⟩ := h1'
  obtain ⟨f2, t2⟩ := h2'
  obtain ⟨xs, rx, bx⟩ := list1 t1
  obtain ⟨ys, ry, _⟩ := list0 t2
  have hlen : xs.length ≤ topLen := by
    rcases bx with ⟨_, rfl⟩ | ⟨D, S, hd, hl⟩
    · simp
    · have hz := sized_slice (elems := D) (spare := S) (e := 44) hsz (j := 1) (by rfl) (by simpa using hd) Try.underlying22
      have hb : Try.checked.prog.bytesOf 44 = 56 := by kernel_rfl
      rw [hb] at hz
      unfold reachBytes at hz
      unfold topLen
      omega
  have hc := ok_calls (C := cfg) ok3 (ess := [[.i .i64 n], [.ro 1 xs], [.ro 0 ys]]) (ar_consI .i64 n (ar_consR rx (ar_consR ry .nil))) (by
    intro b hb
    have e : S3.pre [[.i .i64 n], [.ro 1 xs], [.ro 0 ys]] = [decide (xs.length ≤ topLen)] := rfl
    rw [e, List.mem_singleton] at hb
    rw [hb]; exact decide_eq_true hlen) rfl rfl rfl rfl
  refine hc.mono fun e W' ⟨he, hB⟩ => ?_
  subst he
  have b1 := Below.trod laid_out (t := 22) (by kernel_rfl) (of_decide_eq_true (by kernel_rfl)) h1 hB (fun x hx => hlt x (by simp [hx]))
  have b2 := Below.trod laid_out (t := 23) (by kernel_rfl) (of_decide_eq_true (by kernel_rfl)) h2 hB (fun x hx => hlt x (by simp [hx]))
  have b0 := Below.trod laid_out (t := 3) (by kernel_rfl) (of_decide_eq_true (by kernel_rfl)) h0 hB (fun x hx => by cases hx)
  exact ⟨_, rfl, ⟨_, _, _, [], _, [], hW', trodAll_mk1 (shut_true true), trodAll_mk3 b0 b1 b2, rfl, hB.frame _, fun h => by cases h⟩⟩

theorem expands_holds : Rows.GrammarExpandsSaid :=
  OpenClaim.holds_of_wide 3 Try.f3 rfl rfl rfl rfl rfl rfl rfl ⟨rfl, rfl, rfl, rfl, rfl⟩ rfl rfl rfl rfl rfl (by kernel_rfl) Try.func3 (by kernel_rfl)
    (of_decide_eq_true (by kernel_rfl)) (by unfold Func.isWrapper; rw [if_neg (by decide +kernel)]; exact ⟨rfl, rfl⟩)
    (fun os started H enc _ => expands_lifted os started H enc)
end Go.Proofs.Ytbdgnghllalbgaa
