/- What the rows share. -/
import Derived.Test.YtbdgnghllalbgaaRows
import GoSem.Claim
import GoSem.ClaimJoined
import GoSem.ClaimMapViews
import Derived.JoinedTies
import Derived.ChangeSame
import Derived.JoinedOf
import Derived.JoinedAt
import Derived.RowKit
import Derived.ProofKit
import Derived.Carry
import Derived.SizedLaws
import Derived.Test.YtbdgnghllalbgaaMD
import Derived.Test.YtbdgnghllalbgaaME
namespace Go.Proofs.Ytbdgnghllalbgaa
open Go Go.Sx Go.ChangeShapes Go.WideShapes Go.RowKit
set_option maxRecDepth 100000
theorem own_none : ownKnob Try.prog.godebug = none := by kernel_rfl
theorem laid_out : laidOutB Try.prog = true := by kernel_rfl
theorem list1 {H : Type} {enc : TypeId × Value → H} {W : World} {base : Nat} {spare : Nat → Bool} {held : Bool} {fuel : Nat} {v : Value} {x : DataW H × List MemPlace} (h : DataW.trod enc Try.prog W base spare held fuel 22 [v] = some x) :
    ∃ xs : List Itm, Rel cfg W (fun b => False ∨ b ∈ ([] : List Nat)) (.ro 1 xs) v ∧ ((v = .slice none 0 0 ∧ xs = []) ∨ ∃ D S, x.1 = .slice D S ∧ D.length = xs.length) :=
  list_arg (C := cfg) (t := 1) (n := 4) cfg_ok Try.underlying22 (by kernel_rfl) (by kernel_rfl) (by rfl) (by decide) (fun b hb => by simp at hb) h
theorem list0 {H : Type} {enc : TypeId × Value → H} {W : World} {base : Nat} {spare : Nat → Bool} {held : Bool} {fuel : Nat} {v : Value} {x : DataW H × List MemPlace} (h : DataW.trod enc Try.prog W base spare held fuel 23 [v] = some x) :
    ∃ xs : List Int, Rel cfg W (fun b => False ∨ b ∈ ([] : List Nat)) (.ro 0 xs) v ∧ ((v = .slice none 0 0 ∧ xs = []) ∨ ∃ D S, x.1 = .slice D S ∧ D.length = xs.length) :=
  list_arg (C := cfg) (t := 0) (n := 4) cfg_ok Try.underlying23 (by kernel_rfl) (by kernel_rfl) (by rfl) (by decide) (fun b hb => by simp at hb) h
theorem shut_true {H : Type} {enc : TypeId × Value → H} {W : World} {base : Nat} {sp : Nat → Bool} {held : Bool} (b : Bool) : DataW.Trod enc Try.prog W base sp held 4 (.bool b) (.lit (.bool b)) [] := ⟨1, by simp [DataW.trod, Value.cells, Try.underlying4]⟩

end Go.Proofs.Ytbdgnghllalbgaa
