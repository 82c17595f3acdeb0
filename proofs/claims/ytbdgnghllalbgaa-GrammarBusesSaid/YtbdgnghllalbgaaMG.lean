/- Contracts: GrammarConcats, GrammarLimits. -/
import Derived.Test.YtbdgnghllalbgaaMF
namespace Go.Proofs.Ytbdgnghllalbgaa
open Go Go.Sx
set_option maxRecDepth 100000
set_option maxHeartbeats 4000000
theorem en13' : Sx.Enters cfg.P 13 := Sx.enters_of (fn := Try.f13) (by kernel_rfl) (by kernel_rfl) (by kernel_rfl)
noncomputable def G4 : Nat → Option (FSum cfg) := gamL [(8, S8), (9, S9), (10, S10), (11, S11), (13, S13)]
theorem g4 : GamOK cfg G4 := gamL_cons en8 ok8 (gamL_cons en9' ok9 (gamL_cons en10 ok10 (gamL_cons en11 ok11 (gamL_cons en13' ok13 gamL_nil))))
noncomputable def tree_4 (n m : List Int) (c : Int) : RT cfg :=
  let x0 := (madeF m).length
  let x1 := (madeF n).length
  let x2 := (madeF n).length
  let x3 : Int := ↑m.length
  let x4 : Int := ↑n.length
  let x5 := IntKind.i64.wrap (1 + placeF c 2)
  let x6 := expandP x5 (madeF m)
  let x7 := expandP x5 (madeF n)
  let x8 := x2 + (madeF m).length
  let x9 := x7.length
  let x10 := x6.length
  let x11 := x7.length
  let x12 := madeF n ++ madeF m
  let x13 := x12.length
  let x14 := expandP x5 x12
  let x15 := x14.length
  let x16 := x11 + x6.length
  let x17 := bif decide (x4 > 150) then true else decide (x3 > 150)
  (RT.ret [bif x17 then true else dec (okPlace 2), bif x17 then true else decide (x2 ≤ mostLen), bif x17 then true else decide (x8 ≤ mostLen), bif x17 then true else decide (x13 ≤ topLen), bif x17 then true else decide (x15 ≤ mostLen), bif x17 then true else decide (x1 ≤ topLen), bif x17 then true else decide (x9 ≤ mostLen), bif x17 then true else decide (x11 ≤ mostLen), bif x17 then true else decide (x0 ≤ topLen), bif x17 then true else decide (x10 ≤ mostLen), bif x17 then true else decide (x16 ≤ mostLen), bif x17 then true else decide (x15 ≤ topLen)] [[Ent.b (bif x17 then true else bif samePinsF x14 (x7 ++ x6) then true else false)]])

theorem expandP_app (c : Int) (a b : List Itm) : expandP c (a ++ b) = expandP c a ++ expandP c b := by unfold expandP; rw [List.flatMap_append]
theorem ret4 {n m : List Int} {c : Int} : (tree_4 n m c).ok [[.b true]] := by
  have hm := (madeF_small m).1
  have hn := (madeF_small n).1
  have e1 : ∀ c, (expandP c (madeF n)).length ≤ 770000 := fun c => by have := expandP_len c (madeF n); omega
  have e2 : ∀ c, (expandP c (madeF m)).length ≤ 770000 := fun c => by have := expandP_len c (madeF m); omega
  have sm : ∀ l : List Pns, samePinsF l l = true := fun l => decide_eq_true rfl
  unfold tree_4
  simp only [expandP_app, sm, List.length_append]
  have b1 : ∀ c, decide ((expandP c (madeF n)).length ≤ mostLen) = true := fun c => decide_eq_true (by have := e1 c; unfold mostLen; omega)
  have b2 : ∀ c, decide ((expandP c (madeF m)).length ≤ mostLen) = true := fun c => decide_eq_true (by have := e2 c; unfold mostLen; omega)
  have b3 : ∀ c, decide ((expandP c (madeF n)).length + (expandP c (madeF m)).length ≤ mostLen) = true := fun c => decide_eq_true (by have := e1 c; have := e2 c; unfold mostLen; omega)
  have b4 : ∀ c, decide ((expandP c (madeF n)).length + (expandP c (madeF m)).length ≤ topLen) = true := fun c => decide_eq_true (by have := e1 c; have := e2 c; unfold topLen; omega)
  have b5 : decide ((madeF n).length ≤ mostLen) = true := decide_eq_true (by unfold mostLen; omega)
  have b6 : decide ((madeF n).length + (madeF m).length ≤ mostLen) = true := decide_eq_true (by unfold mostLen; omega)
  have b7 : decide ((madeF n).length + (madeF m).length ≤ topLen) = true := decide_eq_true (by unfold topLen; omega)
  have b8 : decide ((madeF n).length ≤ topLen) = true := decide_eq_true (by unfold topLen; omega)
  have b9 : decide ((madeF m).length ≤ topLen) = true := decide_eq_true (by unfold topLen; omega)
  have b0 : dec (okPlace 2) = true := dec_iff.mpr ⟨by decide, by decide⟩
  refine ⟨by simp, fun b hb => ?_⟩
  simp only [b1, b2, b3, b4, b5, b6, b7, b8, b9, b0, Bool.cond_self] at hb
  simpa using hb
noncomputable def S4 : FSum cfg := FSum.of [.v false [.ro 0], .v false [.ro 0], .v false [kI]] [.v false [kB]] (fun _ => []) (fun _ => ((true, ()), ()))
theorem ok4 : FnOK cfg 4 S4 :=
  fn_loops (l := []) (tree := fun x => tree_4 x.1.1 x.2.1.1 x.2.2.1.1) cfg_ok g4 (fn := Try.f4) (by kernel_rfl) rfl (by kernel_rfl) (fun p hp => by cases hp) (fun x => by kernel_rfl) (fun x h => ret4)

noncomputable def G6 : Nat → Option (FSum cfg) := gamL [(8, S8), (11, S11), (13, S13)]
theorem g6 : GamOK cfg G6 := gamL_cons en8 ok8 (gamL_cons en11 ok11 (gamL_cons en13' ok13 gamL_nil))
def ixL (k n : Int) : Itm := { kind := IntKind.i64.wrap (2 + placeF k 3), ck := 0, at' := 0, data := 0, states := 0, waits := 0, n := n, inte := false, sod := false }
def iyL (n : Int) : Itm := { kind := 1, ck := 2, at' := 0, data := 0, states := 3, waits := n, n := 3, inte := false, sod := false }
noncomputable def tree_6 (n k c : Int) : RT cfg :=
  let x0 := dec (okPlace 3)
  let x1 := IntKind.i64.wrap (65535 + placeF n 3)
  let x2 := IntKind.i64.wrap (1 + placeF c 2)
  let x3 := mnI x1 65536
  let x7 := (expandP x2 [iyL x1]).length
  let x9 := (expandP x2 [ixL k x1]).length
  let x10 := (x9 : Int) == x3
  let x11 := x10 && true
  .ret [x0, x0, dec (okPlace 2), decide ([ixL k x1].length ≤ topLen), decide (x9 ≤ mostLen), bif x11 then decide ([iyL x1].length ≤ topLen) else true, bif x11 then decide (x7 ≤ mostLen) else true] [[.b (bif bif x10 then (x7 : Int) == IntKind.i64.wrap (x3 + 3) else false then true else false)]]
theorem expandP_one (c : Int) (x : Itm) : (expandP c [x]).length = (ysP x).length := by
  unfold expandP expandPI
  simp
theorem cyc3_len (w : Nat) : (cycTo w 3).length = 3 + w := by
  simp only [cycTo, List.length_append, List.length_cons, List.length_nil]
  simp
  omega
theorem ret6 {n k c : Int} : (tree_6 n k c).ok [[.b true]] := by
  obtain ⟨r1, r2⟩ := placeF_range n (n := 3) (by decide) (by decide)
  obtain ⟨q1, q2⟩ := placeF_range k (n := 3) (by decide) (by decide)
  have e1 : IntKind.i64.wrap (65535 + placeF n 3) = 65535 + placeF n 3 := wrap_i64 (by omega) (by omega)
  have e2 : IntKind.i64.wrap (2 + placeF k 3) = 2 + placeF k 3 := wrap_i64 (by omega) (by omega)
  generalize hw : 65535 + placeF n 3 = w at e1
  have h3 : mnI w 65536 ≤ 65536 ∧ 65535 ≤ mnI w 65536 := by unfold mnI; split <;> omega
  have hx : (ysP (ixL k w)).length = (mnI w 65536).toNat := by
    have hk : (ixL k w).kind = 2 + placeF k 3 := e2
    have hn : (ixL k w).n = w := rfl
    unfold ysP
    rw [show ((ixL k w).kind == 1) = false by rw [hk]; simp; omega, cond, List.length_replicate, hk, hn]
    have hl : limF w 0 65536 = mnI w 65536 := by unfold limF mxI; rw [if_pos (by omega)]
    have h4 : placeF k 3 = 0 ∨ placeF k 3 = 1 ∨ placeF k 3 = 2 := by omega
    unfold repT
    rw [hl]
    rcases h4 with h | h | h <;> rw [h] <;> rfl
  have hy : (ysP (iyL w)).length = 3 + (mnI w 65536).toNat := by
    have h4 : nC (iyL w) = 3 := by show limF 3 1 (limF 3 3 6) = 3; rfl
    unfold ysP
    rw [show ((iyL w).kind == 1) = true from rfl, cond, h4]
    exact cyc3_len _
  unfold tree_6
  simp only [hw, e1, expandP_one, hx, hy]
  have p3 : dec (okPlace 3) = true := dec_iff.mpr ⟨by decide, by decide⟩
  have p2 : dec (okPlace 2) = true := dec_iff.mpr ⟨by decide, by decide⟩
  have t1 : ((((mnI w 65536).toNat : Nat) : Int) == mnI w 65536) = true := by simp; omega
  have t2 : (((3 + (mnI w 65536).toNat : Nat) : Int) == IntKind.i64.wrap (mnI w 65536 + 3)) = true := by
    rw [wrap_i64 (by omega) (by omega)]; simp; omega
  have t3 : decide ((mnI w 65536).toNat ≤ mostLen) = true := decide_eq_true (by unfold mostLen; omega)
  have t4 : decide (3 + (mnI w 65536).toNat ≤ mostLen) = true := decide_eq_true (by unfold mostLen; omega)
  have t5 : ∀ x : Itm, decide ([x].length ≤ topLen) = true := fun x => decide_eq_true (by simp [topLen])
  simp only [t1, t2, t3, t4, t5, p3, p2, cond, Bool.and_true]
  exact ⟨rfl, fun b hb => by simpa using hb⟩
noncomputable def S6 : FSum cfg := FSum.of [.v false [kI], .v false [kI], .v false [kI]] [.v false [kB]] (fun _ => []) (fun _ => ((true, ()), ()))
theorem ok6 : FnOK cfg 6 S6 :=
  fn_loops (l := []) (tree := fun x => tree_6 x.1.1 x.2.1.1 x.2.2.1.1) cfg_ok g6 (fn := Try.f6) (by kernel_rfl) rfl (by kernel_rfl) (fun p hp => by cases hp) (fun x => by kernel_rfl) (fun x h => ret6)
end Go.Proofs.Ytbdgnghllalbgaa
