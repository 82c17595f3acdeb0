/- 6 texts in one: the symbolic executor and the contracts of functions. -/
import Derived.RangeFuncNested
import Derived.RangeFuncBound
import Derived.RangeFuncCalls
import Derived.RangeFuncLeaves
import Derived.Shelf.Abstract
import Derived.Shelf.RegionOpen
import Derived.WalkKit
import Derived.OwnWalkIn
import Derived.TacticsInMore
import Derived.LoopNIn
import Derived.LoopIn
import Derived.Stop.RegionWithIn
import Derived.Test.YtbdgnghllalbgaaMD
import Derived.Test.YtbdgnghllalbgaaME
/- Contracts: package grammar: the iterator over an item's states. -/
namespace Go.Proofs.Ytbdgnghllalbgaa
open Go Go.Sx Go.RowKit Go.Shelf
attribute [local go_sem] Oper.semAt_some
set_option maxRecDepth 100000
set_option maxHeartbeats 2000000
theorem c30 (F : Fence) (hF : ∀ f, F.fn f) (hro : F.round = none) (n : Nat) (a b c : Int) (w : World) : CallsIn F n Try.prog 30 #[.int .i64 a, .int .i64 b, .int .i64 c] w fun e w' => e = .returned (.int .i64 (limF a b c)) ∧ w' = w := by
  refine callsIn_of_wp Try.func30 rfl (hF _) ?_ hro
  simp only [Try.ntmps30, List.size_toArray, List.length_cons, List.length_nil, Nat.reduceAdd, Nat.reduceSub, Array.replicate_succ, Array.replicate_zero, List.push_toArray, List.append_toArray, List.nil_append, List.cons_append]
  gi_wp2
  all_goals (
    go_ret
    refine ⟨?_, rfl⟩
    show Ending.returned (.int .i64 _) = Ending.returned (.int .i64 _)
    refine congrArg _ (congrArg _ ?_)
    unfold limF mxI mnI
    repeat' split
    all_goals first | rfl | omega)
def itmV (x : Itm) : Array Value := #[.int .i64 x.kind, .int .i64 x.ck, .int .u16 x.at', .int .u8 x.data, .int .i64 x.states, .int .i64 x.waits, .int .i64 x.n, .bool x.inte, .bool x.sod]
theorem c28 (F : Fence) (hF : ∀ f, F.fn f) (hro : F.round = none) (n : Nat) (hn : 1 ≤ n) (x : Itm) (w : World) : CallsIn F n Try.prog 28 #[.agg (itmV x)] w fun e w' => e = .returned (.tuple #[.int .i64 (repS x.kind), .int .i64 (repT x.kind x.n)]) ∧ w.grownBy w' none := by
  refine callsIn_of_wp Try.func28 rfl (hF _) ?_ hro
  simp only [itmV, Try.ntmps28, List.size_toArray, List.length_cons, List.length_nil, Nat.reduceAdd, Nat.reduceSub, Array.replicate_succ, Array.replicate_zero, List.push_toArray, List.append_toArray, List.nil_append, List.cons_append]
  have u44 := run_underlying Try.underlying44
  have u42 := run_underlying Try.underlying42
  gi_wp2_with (first | (gi_at_call 30; refine (c30 F hF hro (n - 1) _ _ _ _).mono ?_; rintro e w' ⟨rfl, rfl⟩))
  all_goals (
    refine bodyPost_ret (results_tmp2 rfl _ _ _) rfl ?_
    refine ⟨?_, World.grownBy_alloc _ _ _⟩
    unfold repS repT
    simp only [*, cond]
    try rfl)
/-- The box of an item. -/
def IB (x : Itm) (b : Nat) (W : World) : Prop := W.heap[b]? = some (.cells (itmV x) 44 (0, 0))
theorem IB.cell {x : Itm} {b : Nat} {W : World} (h : IB x b W) (i : Nat) : W.cell? ⟨b, i, none⟩ = (itmV x)[i]? := by
  unfold IB at h
  simp [World.cell?, h]
theorem IB.cells {x : Itm} {b : Nat} {W : World} (h : IB x b W) : W.cell? ⟨b, 0, none⟩ = some (.int .i64 x.kind) ∧ W.cell? ⟨b, 1, none⟩ = some (.int .i64 x.ck) ∧ W.cell? ⟨b, 2, none⟩ = some (.int .u16 x.at') ∧ W.cell? ⟨b, 3, none⟩ = some (.int .u8 x.data) ∧
    W.cell? ⟨b, 4, none⟩ = some (.int .i64 x.states) ∧ W.cell? ⟨b, 5, none⟩ = some (.int .i64 x.waits) ∧ W.cell? ⟨b, 6, none⟩ = some (.int .i64 x.n) ∧ W.cell? ⟨b, 7, none⟩ = some (.bool x.inte) ∧ W.cell? ⟨b, 8, none⟩ = some (.bool x.sod) :=
  ⟨h.cell 0, h.cell 1, h.cell 2, h.cell 3, h.cell 4, h.cell 5, h.cell 6, h.cell 7, h.cell 8⟩
/-- The states of a machine cycle till state k; w: its wait states. -/
def cycTo (w : Nat) : Nat → List Int
  | 0 => []
  | k + 1 => cycTo w k ++ (((k : Int) + 1) :: if k = 1 then List.replicate w 7 else [])
def nC (x : Itm) : Int := limF x.n 1 (limF x.states 3 6)
def wC (x : Itm) : Nat := (mnI x.waits 65536).toNat
/-- What an item's states are. -/
def ysP (x : Itm) : List Int := bif x.kind == 1 then cycTo (wC x) (nC x).toNat else List.replicate (repT x.kind x.n).toNat (repS x.kind)
theorem grownBy_drew (W : World) : W.grownBy W.drew none := ⟨rfl, rfl, rfl, Nat.le_refl _, fun _ _ _ => rfl⟩
theorem repT_le (k n : Int) : repT k n ≤ 65536 := by
  have h : limF n 0 65536 ≤ 65536 := by unfold limF mxI mnI; split <;> split <;> omega
  unfold repT
  cases (k == 2) <;> cases (k == 3) <;> cases (k == 4) <;> simp only [cond] <;> omega
theorem lim_rng {n lo hi : Int} (h : lo ≤ hi) : lo ≤ limF n lo hi ∧ limF n lo hi ≤ hi := by
  unfold limF mxI mnI; split <;> split <;> omega
theorem cycTo_le (w : Nat) : ∀ {j k : Nat}, j ≤ k → ∃ r, cycTo w k = cycTo w j ++ r := by
  intro j k h
  induction k with
  | zero => obtain rfl : j = 0 := by omega
            exact ⟨[], rfl⟩
  | succ k ih =>
    by_cases hj : j = k + 1
    · subst hj; exact ⟨[], by simp⟩
    · obtain ⟨r, hr⟩ := ih (by omega)
      exact ⟨r ++ _, by rw [cycTo, hr, List.append_assoc]⟩
theorem repl_mid {α : Type} (a : α) {k m : Nat} (h : k < m) : List.replicate m a = List.replicate k a ++ a :: List.replicate (m - (k + 1)) a := by
  rw [← List.replicate_succ, List.replicate_append_replicate]; congr 1; omega
section
variable {F : Fence} (hF : ∀ f, F.fn f) (hro : F.round = none) {l b0 n : Nat} {x : Itm} {J Jx : List Int → World → Prop} {W : World} (hn : 3 ≤ n)
  (hb : IB x b0 W) (hJ : AbidesFrom W.heap.size J) (h0 : J [] W)
  (hY : ∀ pre y rest W1, ysP x = pre ++ y :: rest → J pre W1 → YieldAt F (n - 1) Try.prog l #[.int .i64 y] W1 fun e W' =>
      (e = .returned (.bool true) ∧ J (pre ++ [y]) W' ∧ W'.heap[b0]? = W1.heap[b0]?) ∨ (e = .returned (.bool false) ∧ Jx (pre ++ [y]) W'))
include hF hro hn hb hJ h0 hY in
theorem it_rep (hk1 : x.kind ≠ 1) :
  CallsIn F n Try.prog 29 #[.func (.yield l) #[] #[], .pointer (some ⟨b0, 0, none⟩)] W fun e W' => (∃ v, e = .returned v) ∧ ((∃ xs, xs = ysP x ∧ J xs W') ∨ ∃ pre, (∃ rest, ysP x = pre ++ rest) ∧ Jx pre W') := by
  have h1 : 1 ≤ n := by omega
  have hJ' : ∀ pre w w', J pre w → w.grownBy w' none → J pre w' := fun pre w w' h hg => hJ pre w w' none h hg (fun r e => by cases e)
  have hB' : ∀ w w', IB x b0 w → w.grownBy w' none → IB x b0 w' := fun w w' h hg => (grownBy_keeps_cells hg (fun r e => by cases e) h rfl).trans h
  have hrT := repT_le x.kind x.n
  have u44 := run_underlying Try.underlying44
  have u42 := run_underlying Try.underlying42
  obtain ⟨c0, c1, c2, c3, c4, c5, c6, c7, c8⟩ := hb.cells
  have hkb : (x.kind == 1) = false := by simpa using hk1
  have hkb' : (x.kind != 1) = true := by simpa using hk1
  have hys : ysP x = List.replicate (repT x.kind x.n).toNat (repS x.kind) := by unfold ysP; rw [hkb]; rfl
  refine callsIn_of_wp Try.func29 rfl (hF _) ?_ hro
  simp only [Try.ntmps29, List.size_toArray, List.length_cons, List.length_nil, Nat.reduceAdd, Nat.reduceSub, Array.replicate_succ, Array.replicate_zero, List.push_toArray, List.append_toArray, List.nil_append, List.cons_append]
  have r28 := c28 F hF hro (n - 1) (by omega) x W
  gi_wp2_with (first | (gi_at_call 28; refine r28.mono ?_; rintro e w' ⟨rfl, hg⟩))
  gi_loopw [17] (fun p wr => ∃ k : Nat, p = .int .i64 k ∧ (k : Int) ≤ max 0 (repT x.kind x.n) ∧ IB x b0 wr ∧ J (List.replicate k (repS x.kind)) wr) (fun p _ => ((repT x.kind x.n) - RowKit.intOf p).toNat)
  case atStart => exact ⟨0, rfl, by omega, hB' _ _ hb hg, hJ' _ _ _ h0 hg⟩
  case round => 
    obtain ⟨k, rfl, hk, hbr, hjr⟩ := hrel
    by_cases hlt : (k : Int) < repT x.kind x.n
    · have hm := repl_mid (repS x.kind) (k := k) (m := (repT x.kind x.n).toNat) (by omega)
      rw [← hys] at hm
      obtain ⟨fn, tmps, assign, body, hy, hR⟩ := hY _ _ _ wr hm hjr
      gi_wp2
      refine hR.mono ?_
      rintro e W3 (⟨rfl, hJ3, hk3⟩ | ⟨rfl, hJx3⟩)
      · gi_wp2
        go_roundw
        case rel => exact ⟨k + 1, by simp, by omega, hk3.trans hbr, by rw [List.replicate_succ']; exact hJ3⟩
        case measure => simp [RowKit.intOf]; omega
      · gi_wp2
        refine bodyPost_ret (results_none rfl _ _ _) rfl ?_
        exact ⟨⟨_, rfl⟩, .inr ⟨_, ⟨_, by rw [hm, List.append_assoc]; rfl⟩, hJx3⟩⟩
    · gi_wp2
      refine bodyPost_ret (results_none rfl _ _ _) rfl ?_
      refine ⟨⟨_, rfl⟩, .inl ?_⟩
      rw [show (repT x.kind x.n).toNat = k by omega]; exact hjr
include hF hro hn hb hJ h0 hY in
theorem it_cyc (hk1 : x.kind = 1) :
  CallsIn F n Try.prog 29 #[.func (.yield l) #[] #[], .pointer (some ⟨b0, 0, none⟩)] W fun e W' => (∃ v, e = .returned v) ∧ ((∃ xs, xs = ysP x ∧ J xs W') ∨ ∃ pre, (∃ rest, ysP x = pre ++ rest) ∧ Jx pre W') := by
  have h1 : 1 ≤ n := by omega
  have hJ' : ∀ pre w w', J pre w → w.grownBy w' none → J pre w' := fun pre w w' h hg => hJ pre w w' none h hg (fun r e => by cases e)
  have hB' : ∀ w w', IB x b0 w → w.grownBy w' none → IB x b0 w' := fun w w' h hg => (grownBy_keeps_cells hg (fun r e => by cases e) h rfl).trans h
  have u44 := run_underlying Try.underlying44
  have u42 := run_underlying Try.underlying42
  obtain ⟨c0, c1, c2, c3, c4, c5, c6, c7, c8⟩ := hb.cells
  have hkb : (x.kind == 1) = true := by simpa using hk1
  have hkb' : (x.kind != 1) = false := by simpa using hk1
  have hmix : Try.prog.follows .mixedOrders = true := cfg_ok.mixed
  have hys : ysP x = cycTo (wC x) (nC x).toNat := by unfold ysP; rw [hkb]; rfl
  refine callsIn_of_wp Try.func29 rfl (hF _) ?_ hro
  simp only [Try.ntmps29, List.size_toArray, List.length_cons, List.length_nil, Nat.reduceAdd, Nat.reduceSub, Array.replicate_succ, Array.replicate_zero, List.push_toArray, List.append_toArray, List.nil_append, List.cons_append]
  gi_wp2
  refine wpIn_mono (Q := fun e a w => e = .normal ∧ w = W.drew ∧ ∃ u24 u25 u26 u27 u28 u29 u30, a = { tmps := #[.func (.yield l) #[] #[], .pointer (some ⟨b0, 0, none⟩), undef, undef, undef, .int .i64 (nC x), undef, undef, .pointer (some ⟨b0, 0, none⟩), .int .i64 1, .bool false, undef, undef, undef, undef, undef, undef, undef, undef, undef, undef, undef, undef, undef, u24, u25, u26, u27, u28, u29, u30, undef, undef, undef, undef, undef, undef, undef, undef, undef, undef, undef, undef, undef, undef, undef, undef, undef, undef, undef, undef, undef, undef, undef], defers := [] }) ?_ ?_
  · gi_region_with_o (gi_at_call 30; refine (c30 F hF hro _ _ _ _ _).mono ?_; rintro e w' ⟨rfl, rfl⟩)
    all_goals exact ⟨rfl, rfl, _, _, _, _, _, _, _, rfl⟩
  rintro e a w ⟨rfl, rfl, u24, u25, u26, u27, u28, u29, u30, rfl⟩
  gi_wp2
  have hnC : 1 ≤ nC x ∧ nC x ≤ 6 := by
    have h3 := lim_rng (n := x.states) (lo := 3) (hi := 6) (by omega)
    have h4 := lim_rng (n := x.n) (lo := 1) (hi := limF x.states 3 6) (by omega)
    unfold nC; omega
  gi_loopw [6] (fun p wr => ∃ k : Nat, p = .int .i64 (k + 1) ∧ (k : Int) ≤ nC x ∧ IB x b0 wr ∧ J (cycTo (wC x) k) wr) (fun p _ => (nC x + 1 - RowKit.intOf p).toNat)
  case atStart => exact ⟨0, rfl, by omega, hB' _ _ hb (grownBy_drew _), hJ' _ _ _ h0 (grownBy_drew _)⟩
  case round =>
    obtain ⟨k, rfl, hk, hbr, hjr⟩ := hrel
    by_cases hlt : (k : Int) + 1 ≤ nC x
    · obtain ⟨r0, hr0⟩ := cycTo_le (wC x) (j := k + 1) (k := (nC x).toNat) (by omega)
      have hm : ysP x = cycTo (wC x) k ++ ((k : Int) + 1) :: ((if k = 1 then List.replicate (wC x) 7 else []) ++ r0) := by rw [hys, hr0, cycTo]; simp
      obtain ⟨fn, tmps, assign, body, hy, hR⟩ := hY _ _ _ wr hm hjr
      gi_wp2
      refine hR.mono ?_
      rintro e W3 (⟨rfl, hJ3, hk3⟩ | ⟨rfl, hJx3⟩)
      · clear hy hR
        have hb3 : IB x b0 W3 := hk3.trans hbr
        gi_wp2
        gi_loopw [7] (fun p wr => ∃ j : Nat, p = .int .i64 j ∧ (j ≤ if k = 1 then wC x else 0) ∧ IB x b0 wr ∧ J (cycTo (wC x) k ++ ((k : Int) + 1) :: List.replicate j 7) wr) (fun p _ => (65536 - RowKit.intOf p).toNat)
        case atStart => exact ⟨0, rfl, by omega, hb3, hJ3⟩
        case round =>
          clear hJ3 hk3 hb3 hjr hbr c0 c1 c2 c3 c4 c5 c6 c7 c8
          obtain ⟨j, rfl, hj, hbr, hjr⟩ := hrel
          obtain ⟨c0, c1, c2, c3, c4, c5, c6, c7, c8⟩ := hbr.cells
          by_cases hk1 : k = 1
          · subst hk1
            have hw : wC x ≤ 65536 := by unfold wC mnI; split <;> omega
            by_cases hjw : j < wC x
            · have hm2 : ysP x = (cycTo (wC x) 1 ++ ((1 : Nat) + 1 : Int) :: List.replicate j 7) ++ 7 :: (List.replicate (wC x - (j + 1)) 7 ++ r0) := by rw [hm, if_pos rfl, repl_mid 7 hjw]; simp
              obtain ⟨fn, tmps, assign, body, hy, hR⟩ := hY _ _ _ wr hm2 hjr
              gi_wp2
              all_goals first
              | (exfalso; unfold wC mnI at hjw; split at hjw <;> omega)
              | (refine hR.mono ?_
                 rintro e W3 (⟨rfl, hJ3, hk3⟩ | ⟨rfl, hJx3⟩)
                 · gi_wp2
                   refine ⟨⟨.int .i64 ((j : Int) + 1), _, _, _, _, _, _, _, _, _, _, _, _, _, _, ⟨j + 1, by simp, by omega, hk3.trans hbr, by rw [List.replicate_succ']; simpa using hJ3⟩, rfl⟩, ?_⟩
                   show (65536 - ((j : Int) + 1)).toNat < (65536 - (j : Int)).toNat
                   omega
                 · gi_wp2
                   refine bodyPost_ret (results_none rfl _ _ _) rfl ?_
                   exact ⟨⟨_, rfl⟩, .inr ⟨_, ⟨_, hm2.trans (List.append_cons ..)⟩, hJx3⟩⟩)
            · have hj' : j = wC x := by rw [if_pos rfl] at hj; omega
              have fin : J (cycTo (wC x) 2) wr := by rw [cycTo, if_pos rfl, ← hj']; exact hjr
              gi_wp2
              all_goals first
                | (exfalso; unfold wC mnI at hjw; split at hjw <;> omega)
                | exact ⟨⟨2, rfl, by omega, hbr, fin⟩, by simp [RowKit.intOf]; omega⟩
          · obtain rfl : j = 0 := by rw [if_neg hk1] at hj; omega
            have fin : J (cycTo (wC x) (k + 1)) wr := by rw [cycTo, if_neg hk1]; exact hjr
            have hkn : (((k : Int) + 1) == 2) = false := by simp; omega
            gi_wp2
            go_roundw
            case rel => exact ⟨k + 1, by simp, by omega, hbr, fin⟩
            case measure => simp [RowKit.intOf]; omega
      · gi_wp2
        refine bodyPost_ret (results_none rfl _ _ _) rfl ?_
        exact ⟨⟨_, rfl⟩, .inr ⟨_, ⟨_, by rw [hm, List.append_assoc]; rfl⟩, hJx3⟩⟩
    · gi_wp2
      go_end0
      refine ⟨⟨_, rfl⟩, .inl ?_⟩
      rw [show (nC x).toNat = k by omega]; exact hjr
end
end Go.Proofs.Ytbdgnghllalbgaa

/- Contracts: package grammar: the function that makes the iterator. -/
namespace Go.Proofs.Ytbdgnghllalbgaa
open Go Go.Sx Go.RowKit Go.Shelf
attribute [local go_sem] Oper.semAt_some
set_option maxRecDepth 100000
set_option maxHeartbeats 2000000
theorem c23 (F : Fence) (hF : ∀ f, F.fn f) (hro : F.round = none) (n : Nat) (x : Itm) (w : World) : CallsIn F n Try.prog 23 #[.agg (itmV x)] w fun e w' => e = .returned (.func (.func 29) #[] #[.pointer (some ⟨w.heap.size, 0, none⟩)]) ∧ w' = w.alloc (.cells (itmV x) 44 (0, 0)) := by
  refine callsIn_of_wp Try.func23 rfl (hF _) ?_ hro
  simp only [itmV, Try.ntmps23, List.size_toArray, List.length_cons, List.length_nil, Nat.reduceAdd, Nat.reduceSub, Array.replicate_succ, Array.replicate_zero, List.push_toArray, List.append_toArray, List.nil_append, List.cons_append]
  have u44 := run_underlying Try.underlying44
  have u42 := run_underlying Try.underlying42
  gi_wp2
  go_ret
  exact ⟨rfl, rfl⟩
noncomputable def I23 : IterS cfg := { ps := [.v true itmK], yp := [.v false [kI]], pre := fun _ => True, ys := fun x => (ysP (toItm x.1)).map fun i => ((i, ()), ()) }
theorem it23 : IterOK cfg 23 I23 := by
  intro w O x args hAR _
  have ha : args = [.agg (itmV (toItm x.1))] := ar_val (by rfl) hAR
  subst ha
  have hc := callsIn_wide.1 (c23 (RF none) (fun _ => trivial) rfl 0 (toItm x.1) w)
  refine hc.mono ?_
  rintro e w1 ⟨rfl, rfl⟩
  refine ⟨29, _, fun b => b = w.heap.size, rfl, ?_, World.grownBy_alloc _ _ _, ?_, ?_⟩
  · exact enters_of Try.func29 (by kernel_rfl) rfl
  · rintro b rfl
    exact ⟨by simp, fun h => absurd h (by omega)⟩
  · intro n l J Jx W hW hJ hJx hY h0
    let x' := toItm x.1
    let f : Int → PsT cfg I23.yp := fun i => ((i, ()), ())
    have hmap : I23.ys x = (ysP x').map f := rfl
    have hbox : IB x' w.heap.size W := by
      have := hW.block w.heap.size (by simp)
      exact this.trans (World.alloc_heap_new _ _)
    have hJ' : AbidesFrom W.heap.size (fun (pre : List Int) W => J (pre.map f) W) := fun s A B row => hJ (s.map f) A B row
    have hY' : ∀ pre y rest W1, ysP x' = pre ++ y :: rest → J (pre.map f) W1 → YieldAt (RF none) (3 - 1) Try.prog l #[.int .i64 y] W1 fun e W' =>
        (e = .returned (.bool true) ∧ J ((pre ++ [y]).map f) W' ∧ W'.heap[w.heap.size]? = W1.heap[w.heap.size]?) ∨ (e = .returned (.bool false) ∧ Jx ((pre ++ [y]).map f) W') := by
      intro pre y rest W1 hp hj
      have := hY (pre.map f) (f y) W1 hj (by rw [hmap, hp]; simp)
      obtain ⟨fn, tmps, assign, body, hy, hF, hR⟩ := this
      refine ⟨fn, tmps, assign, body, hy, hF, fun c cs hro => ?_⟩
      obtain ⟨e, w', hr, hc⟩ := hR c cs (fun d hd => by cases hd)
      refine ⟨e, w', ?_, hc⟩
      rw [List.map_append]
      rcases hr with ⟨h1, h2, h3⟩ | ⟨h1, h2⟩
      · exact .inl ⟨h1, h2, h3.2 _ rfl⟩
      · exact .inr ⟨h1, h2⟩
    have key : Calls Try.prog 29 #[.func (.yield l) #[] #[], .pointer (some ⟨w.heap.size, 0, none⟩)] W fun e W' => (∃ v, e = .returned v) ∧ ((∃ xs, xs = ysP x' ∧ J (xs.map f) W') ∨ ∃ pre, (∃ rest, ysP x' = pre ++ rest) ∧ Jx (pre.map f) W') := by
      by_cases hk : x'.kind = 1
      · exact callsIn_wide.1 (it_cyc (F := RF none) (fun _ => trivial) rfl (n := 3) (by omega) (J := fun pre W => J (pre.map f) W) (Jx := fun pre W => Jx (pre.map f) W) hbox hJ' h0 hY' hk)
      · exact callsIn_wide.1 (it_rep (F := RF none) (fun _ => trivial) rfl (n := 3) (by omega) (J := fun pre W => J (pre.map f) W) (Jx := fun pre W => Jx (pre.map f) W) hbox hJ' h0 hY' hk)
    refine rf_calls (key.mono ?_)
    rintro e W' ⟨hv, (⟨xs, rfl, h⟩ | ⟨pre, ⟨rest, hr⟩, h⟩)⟩
    · exact ⟨hv, .inl ⟨_, hmap.symm, h⟩⟩
    · exact ⟨hv, .inr ⟨_, ⟨rest.map f, by rw [hmap, hr, List.map_append]⟩, h⟩⟩
end Go.Proofs.Ytbdgnghllalbgaa

/- Contracts: grammar.Expand. -/
namespace Go.Proofs.Ytbdgnghllalbgaa
open Go Go.Sx
set_option maxRecDepth 100000
theorem en24 : Sx.Enters cfg.P 24 := Sx.enters_of (fn := Try.f24) (by kernel_rfl) (by kernel_rfl) (by kernel_rfl)
theorem en23 : Sx.Enters cfg.P 23 := Sx.enters_of (fn := Try.f23) (by kernel_rfl) (by kernel_rfl) (by kernel_rfl)
noncomputable def G11 : Nat → Option (FSum cfg) := gamL [(24, S24)]
theorem g11 : GamOK cfg G11 := gamL_cons en24 ok24 gamL_nil
def A11_2 : LAnn := { n := 2000000, s := [(7, ⟨[], .c (.p 1001024 0)⟩), (11, ⟨[], .c (.v 1000000)⟩), (5, ⟨[], .c (.p 514 0)⟩), (9, ⟨[], .c (.v 1)⟩), (2, ⟨[], .c (.p 2 0)⟩), (10, ⟨[], .c (.v 1026)⟩)], b := [(2, .c 3 [.v 0]), (514, .c 30 [.o 1000001]), (1001024, .c 44 [.v 1000768, .v 1000769, .v 1000770, .v 1000771, .v 1000772, .v 1000773, .v 1000774, .v 1000775, .v 1000776])], ids := [(0, kI), (1, .ro 1), (1026, kI), (1000000, kI), (1000768, kI), (1000769, kI), (1000770, .i .u16), (1000771, .i .u8), (1000772, kI), (1000773, kI), (1000774, kI), (1000775, kB), (1000776, kB)], ps := [.c 514 0], ks := [.ow 2] }
noncomputable def R11_2 : RAnn := RAnn.mk A11_2 16 23 [17] false [.tmp 15] (rOps (stmtFn Try.f11 2)) (rPt (stmtFn Try.f11 2)) (rAs (stmtFn Try.f11 2)) (rBd (stmtFn Try.f11 2))
abbrev K11_2 := Int × List Itm × Int × Int × Int × Int × Int × Int × Int × Int × Int × Bool × Bool × Unit
abbrev T11_2 := List Pns × Unit
noncomputable def pin11 (chip ck a d st : Int) (inte sod : Bool) (s : Int) : Pns := ofF chip (toSta (s, ck, a, d, st, d, a, inte, sod, ()))
noncomputable def step11_2 (κ : K11_2) (σ : T11_2) (y : PsT cfg I23.yp) : T11_2 × Bool := ((σ.1 ++ [pin11 κ.1 κ.2.2.2.2.2.1 κ.2.2.2.2.2.2.1 κ.2.2.2.2.2.2.2.1 κ.2.2.2.2.2.2.2.2.1 κ.2.2.2.2.2.2.2.2.2.2.2.1 κ.2.2.2.2.2.2.2.2.2.2.2.2.1 y.1.1], ()), true)
def I11_2 (_ : K11_2) (σ : T11_2) (k n : Nat) : Prop := σ.1.length + (n - k) ≤ mostLen
noncomputable def tree11_2 (κ : K11_2) (σ : T11_2) (y : PsT cfg I23.yp) : RY cfg := .nx [decide (σ.1.length + 1 ≤ mostLen)] [.ro 2 (step11_2 κ σ y).1.1]
theorem round11_2 (κ : K11_2) (σ : T11_2) (y : PsT cfg I23.yp) : roundY G11 (fun _ => none) Try.f11.ntmps R11_2 I23.yp κ σ y = tree11_2 κ σ y := by kernel_rfl
noncomputable def E11_2 : Sx.Loc → Env cfg → Option (Out × Env cfg) := rangeF G11 Try.f11.ntmps R11_2 I23 I11_2 step11_2
theorem stmt11_2 : stmtFn Try.f11 2 = .seq (.region 5 R11_2.ops false) (.block 2 (.rangeFunc (.tmp R11_2.t) R11_2.pt R11_2.as R11_2.bd)) := by kernel_rfl
theorem rd11_2 (κ : K11_2) (σ : T11_2) (k n : Nat) (y : PsT cfg I23.yp) (hI : I11_2 κ σ k n) (hk : k < n) :
    (roundY G11 (fun _ => none) Try.f11.ntmps R11_2 I23.yp κ σ y).ok (mkK (C := cfg) R11_2.A.ks (step11_2 κ σ y).1) (step11_2 κ σ y).2 ∧ ((step11_2 κ σ y).2 = true → I11_2 κ (step11_2 κ σ y).1 (k + 1) n) := by
  rw [round11_2]
  unfold I11_2 at hI ⊢
  refine ⟨⟨rfl, rfl, ?_⟩, fun _ => ?_⟩
  · simp only [allT_cons, allT_nil, decide_eq_true_eq, and_true]; omega
  · simp only [step11_2, List.length_append, List.length_cons, List.length_nil]; omega
theorem out11_2 : ∀ m g r, E11_2 m g = some r → OutOK cfg Try.f11.ntmps (stmtFn Try.f11 2) m g r := by
  intro m g r h
  rw [stmt11_2]
  exact range_ok (L := fun _ => none) (N := Try.f11.ntmps) (R := R11_2) (S := I23) (I := I11_2) (step := step11_2) cfg_ok g11 it23 en23 (by kernel_rfl) (o := (R11_2.ops.toList.getLast?).getD default) (tys := #[44]) (by kernel_rfl) (by kernel_rfl) (by kernel_rfl) (by kernel_rfl) (fun l => loops_none) (fun l => loops_none) (fun κ σ => by kernel_rfl) rd11_2 (fun _ _ _ _ => rfl) m g r h
/-- A round of a range: all of them. -/
theorem rfin11 (κ : K11_2) : ∀ (ys : List (PsT cfg I23.yp)) (σ : T11_2), rfin (step11_2 κ) σ ys = ((σ.1 ++ ys.map fun y => pin11 κ.1 κ.2.2.2.2.2.1 κ.2.2.2.2.2.2.1 κ.2.2.2.2.2.2.2.1 κ.2.2.2.2.2.2.2.2.1 κ.2.2.2.2.2.2.2.2.2.2.2.1 κ.2.2.2.2.2.2.2.2.2.2.2.2.1 y.1.1, ()), true)
  | [], σ => by simp [rfin]
  | y :: ys, σ => by rw [rfin]; simp only [step11_2]; rw [rfin11 κ ys]; simp
def A11_0 : LAnn := { n := 1000000, s := [(5, ⟨[], .c (.p 514 0)⟩), (9, ⟨[], .c (.v 1)⟩), (2, ⟨[], .c (.p 2 0)⟩), (10, ⟨[], .c (.v 1026)⟩)], b := [(2, .c 3 [.v 0]), (514, .c 30 [.z])], ids := [(0, kI), (1, .ro 1), (1026, kI)], ps := [.s 11, .c 514 0], ks := [kI, .ow 2] }
/-- the pins of an item, by the program -/
noncomputable def expandPI (chip : Int) (x : Itm) : List Pns := (ysP x).map (pin11 chip x.ck x.at' x.data x.states x.inte x.sod)
noncomputable def expandP (chip : Int) (l : List Itm) : List Pns := l.flatMap (expandPI chip)
def kx (x : Itm) : KsT cfg itmK := (x.kind, x.ck, x.at', x.data, x.states, x.waits, x.n, x.inte, x.sod, ())
def k11 (chip : Int) (l : List Itm) (n i : Int) (x : Itm) : K11_2 := (chip, l, n, i, x.kind, x.ck, x.at', x.data, x.states, x.waits, x.n, x.inte, x.sod, ())
abbrev K11_0 := Int × (List Itm) × Int × Unit
abbrev T11_0 := Int × (List Pns) × Unit
noncomputable def f11_0 (chip : Int) (l : List Itm) (n i : Int) (x : Itm) (out : List Pns) : T11_2 × Bool := rfin (step11_2 (k11 chip l n i x)) (out, ()) (I23.ys (kx x, ()))
noncomputable def step11_0 (chip : Int) (l : List Itm) (n : Int) (i : Int) (out : List Pns) : Option T11_0 := bif decide (i < n) then some (IntKind.i64.wrap (i + 1), (f11_0 chip l n i (l.getD i.toNat iz) out).1.1, ()) else none
def I11_0 (chip : Int) (l : List Itm) (n : Int) (i : Int) (out : List Pns) : Prop := n = l.length ∧ l.length ≤ topLen ∧ 0 ≤ i ∧ i ≤ n ∧ (expandP chip l).length ≤ mostLen ∧ out = expandP chip (l.take i.toNat)
def mu11_0 (chip : Int) (l : List Itm) (n : Int) (i : Int) (out : List Pns) : Nat := (n - i).toNat
noncomputable def tree11_0 (chip : Int) (l : List Itm) (n : Int) (i : Int) (out : List Pns) : RR cfg :=
  let x := l.getD i.toNat iz
  .br (decide (i < n)) (.next [decide (0 ≤ i), decide (i < (l.length : Int)), dec (I23.pre (kx x, ()) ∧ I11_2 (k11 chip l n i x) (out, ()) 0 (I23.ys (kx x, ())).length)] [.i .i64 (IntKind.i64.wrap (i + 1)), .ro 2 (f11_0 chip l n i x out).1.1]) (.stop [])
noncomputable def E11_0 : Sx.Loc → Env cfg → Option (Out × Env cfg) := stepL (G11) (loopsL cfg [(2, E11_2)]) Try.f11.ntmps 0 (bodyOf Try.f11 0) A11_0 (fun (κ : K11_0) (σ : T11_0) => I11_0 κ.1 κ.2.1 κ.2.2.1 σ.1 σ.2.1) (fun (κ : K11_0) (σ : T11_0) => step11_0 κ.1 κ.2.1 κ.2.2.1 σ.1 σ.2.1) (fun (κ : K11_0) (σ : T11_0) => mu11_0 κ.1 κ.2.1 κ.2.2.1 σ.1 σ.2.1)
theorem f11_eq (chip : Int) (l : List Itm) (n i : Int) (x : Itm) (out : List Pns) : (f11_0 chip l n i x out).1.1 = out ++ expandPI chip x := by
  have e : I23.ys (kx x, ()) = (ysP x).map (fun i => (((i, ()), ()) : PsT cfg I23.yp)) := rfl
  unfold f11_0
  rw [rfin11, e]
  exact congrArg (out ++ ·) (List.map_map ..)
theorem len11 {chip : Int} {l : List Itm} {i : Int} (h0 : 0 ≤ i) (h : i < (l.length : Int)) : (expandP chip (l.take i.toNat)).length + (expandPI chip (l.getD i.toNat iz)).length ≤ (expandP chip l).length := by
  have e : l = l.take i.toNat ++ l.drop i.toNat := (List.take_append_drop ..).symm
  have e2 : (expandP chip l).length = (expandP chip (l.take i.toNat)).length + (expandP chip (l.drop i.toNat)).length := by
    conv => lhs; rw [e]
    simp only [expandP, List.flatMap_append, List.length_append]
  rw [e2, drop_next iz h0 h]
  simp only [expandP, List.flatMap_cons, List.length_append]
  omega
theorem rd11_0 {chip l n i out} (hI : I11_0 chip l n i out) : (tree11_0 chip l n i out).ok ((step11_0 chip l n i out).map fun σ => [.i .i64 σ.1, .ro 2 σ.2.1]) := by
  simp only [tree11_0, RR.ok, step11_0, allT_cons, allT_nil, dec_iff, decide_eq_true_eq, decide_eq_false_iff_not]
  refine ⟨fun hi => ?_, fun hi => ⟨by rw [decide_eq_false hi]; rfl, trivial⟩⟩
  obtain ⟨h1, h2, h3, h4, h5, rfl⟩ := hI
  have h6 := len11 (chip := chip) (l := l) h3 (by omega)
  refine ⟨by rw [decide_eq_true hi]; rfl, h3, by omega, ⟨trivial, ?_⟩, trivial⟩
  unfold I11_2
  simp only [expandPI, List.length_map] at h6
  have e : (I23.ys (kx (l.getD i.toNat iz), ())).length = (ysP (l.getD i.toNat iz)).length := List.length_map ..
  rw [e]
  show (expandP chip (l.take i.toNat)).length + ((ysP (l.getD i.toNat iz)).length - 0) ≤ mostLen
  omega
theorem plain11_0 {chip l n i out} (hI : I11_0 chip l n i out) : ∀ σ', step11_0 chip l n i out = some σ' → I11_0 chip l n σ'.1 σ'.2.1 ∧ mu11_0 chip l n σ'.1 σ'.2.1 < mu11_0 chip l n i out := by
  intro σ' h
  unfold step11_0 at h
  by_cases hi : i < n
  · obtain ⟨h1, h2, h3, h4, h5, rfl⟩ := hI
    rw [f11_eq, wrap_next (by unfold topLen at h2; omega) h3, decide_eq_true hi, cond, Option.some.injEq] at h
    subst h
    refine ⟨⟨h1, h2, by simp only; omega, by simp only; omega, h5, ?_⟩, by simp only [mu11_0]; omega⟩
    simp only
    rw [take_next iz h3 (by omega)]
    simp [expandP]
  · rw [decide_eq_false hi, cond] at h; cases h
theorem lok11_0 : LoopsOK cfg Try.f11.ntmps (loopsL cfg [(2, E11_2)]) (bodyOf Try.f11 0) :=
  loopsL_ok (by kernel_rfl) fun p hp => by
    simp only [List.mem_singleton] at hp
    subst hp
    exact out11_2
theorem out11_0 : ∀ m g r, E11_0 m g = some r → OutOK cfg Try.f11.ntmps (stmtFn Try.f11 0) m g r := fun m g r h => stmt_loop (by kernel_rfl) (
  stepL_ok (A := A11_0) (I := fun (κ : K11_0) (σ : T11_0) => I11_0 κ.1 κ.2.1 κ.2.2.1 σ.1 σ.2.1) (step := fun (κ : K11_0) (σ : T11_0) => step11_0 κ.1 κ.2.1 κ.2.2.1 σ.1 σ.2.1) (μ := fun (κ : K11_0) (σ : T11_0) => mu11_0 κ.1 κ.2.1 κ.2.2.1 σ.1 σ.2.1) cfg_ok g11 lok11_0
    (fun κ σ hI => plain11_0 hI) (tree := fun (κ : K11_0) (σ : T11_0) => tree11_0 κ.1 κ.2.1 κ.2.2.1 σ.1 σ.2.1) (fun κ σ => by kernel_rfl) (fun κ σ hI => rd11_0 hI) m g r h)
noncomputable def fin11_0 (chip : Int) (l : List Itm) (n : Int) (σ : T11_0) : T11_0 := stepFin (fun (σ : T11_0) => step11_0 chip l n σ.1 σ.2.1) (fun (σ : T11_0) => mu11_0 chip l n σ.1 σ.2.1) σ
theorem fin11_0_end (chip : Int) (l : List Itm) (n : Int) {σ : T11_0} (h : I11_0 chip l n σ.1 σ.2.1) : step11_0 chip l n (fin11_0 chip l n σ).1 (fin11_0 chip l n σ).2.1 = none ∧ I11_0 chip l n (fin11_0 chip l n σ).1 (fin11_0 chip l n σ).2.1 := stepFin_end (I := fun (σ : T11_0) => I11_0 chip l n σ.1 σ.2.1) (fun _ hI => plain11_0 hI) h
theorem fin11_0_eq (chip : Int) (l : List Itm) (n : Int) {G : T11_0 → T11_0} (hs : ∀ σ : T11_0, I11_0 chip l n σ.1 σ.2.1 → step11_0 chip l n σ.1 σ.2.1 = none → G σ = σ) (hn : ∀ σ : T11_0, I11_0 chip l n σ.1 σ.2.1 → ∀ σ', step11_0 chip l n σ.1 σ.2.1 = some σ' → G σ' = G σ) {σ : T11_0} (h : I11_0 chip l n σ.1 σ.2.1) : fin11_0 chip l n σ = G σ := stepFin_eq (I := fun (σ : T11_0) => I11_0 chip l n σ.1 σ.2.1) (fun _ hI => plain11_0 hI) hs hn h
noncomputable def S11 : FSum cfg := FSum.of [.v false [kI], .v false [.ro 1]] [.v false [.ro 2]] (fun x => [decide (List.length (α := Itm) x.2.1.1 ≤ topLen), decide ((expandP x.1.1 x.2.1.1).length ≤ mostLen)]) (fun x => ((expandP x.1.1 x.2.1.1, ()), ()))
noncomputable def tree_11 (chip : Int) (l : List Itm) : RT cfg :=
  let f := fin11_0 chip l l.length (0, [], ())
  .br (decide (f.1 < (l.length : Int))) .fail (.ret [dec (I11_0 chip l l.length 0 [])] [[.ro 2 f.2.1]])
theorem ret11 {chip : Int} {l : List Itm} (h1 : l.length ≤ topLen) (h2 : (expandP chip l).length ≤ mostLen) : (tree_11 chip l).ok [[.ro 2 (expandP chip l)]] := by
  simp only [tree_11, RT.ok, allT_cons, allT_nil, dec_iff, decide_eq_true_eq, decide_eq_false_iff_not]
  have h0 : I11_0 chip l l.length 0 [] := ⟨rfl, h1, Int.le_refl _, by omega, h2, rfl⟩
  obtain ⟨e, q1, q2, q3, q4, q5, q6⟩ := fin11_0_end chip l l.length (σ := (0, [], ())) h0
  generalize fin11_0 chip l l.length (0, [], ()) = f at e q1 q2 q3 q4 q5 q6 ⊢
  by_cases hj : f.1 < (l.length : Int)
  · unfold step11_0 at e
    rw [decide_eq_true hj] at e; cases e
  · refine ⟨fun h => absurd h hj, fun _ => ⟨?_, h0, trivial⟩⟩
    rw [q6, show f.1 = (l.length : Int) by omega, Int.toNat_natCast, List.take_length]
theorem lok11 : ∀ p ∈ [(0, E11_0)], ∀ m g r, p.2 m g = some r → OutOK cfg Try.f11.ntmps (stmtFn Try.f11 p.1) m g r := by
  intro p hp
  simp only [List.mem_singleton] at hp
  subst hp
  exact out11_0
theorem ok11 : FnOK cfg 11 S11 :=
  fn_loops (l := [(0, E11_0)]) (tree := fun x => tree_11 x.1.1 x.2.1.1) cfg_ok g11 (fn := Try.f11) (by kernel_rfl) rfl (by kernel_rfl) lok11 (fun x => by kernel_rfl)
    (fun x h => ret11 (of_decide_eq_true (h _ (by exact List.mem_cons_self ..))) (of_decide_eq_true (h _ (by exact List.mem_cons_of_mem _ (List.mem_cons_self ..)))))
theorem en11 : Sx.Enters cfg.P 11 := Sx.enters_of (fn := Try.f11) (by kernel_rfl) (by kernel_rfl) (by kernel_rfl)
theorem en12 : Sx.Enters cfg.P 12 := Sx.enters_of (fn := Try.f12) (by kernel_rfl) (by kernel_rfl) (by kernel_rfl)
end Go.Proofs.Ytbdgnghllalbgaa

/- The plain law: the program's expansion of items is the reference's. -/
namespace Go.Proofs.Ytbdgnghllalbgaa
open Go Go.Sx
set_option maxRecDepth 100000
theorem reads_eq (n : Int) : readsR n = readsF n := by
  unfold readsR readsF
  cases (n == 1) <;> cases (n == 2) <;> cases (n == 4) <;> cases (n == 6) <;> cases (n == 8) <;> cases (n == 9) <;> rfl
theorem pin_eq (chip ck a d st : Int) (inte sod : Bool) {s : Int} (h1 : 1 ≤ s) (h2 : s ≤ 10) : pin11 chip ck a d st inte sod s = pin12 chip ck a d inte sod s := by
  have hs : s = 1 ∨ s = 2 ∨ s = 3 ∨ s = 4 ∨ s = 5 ∨ s = 6 ∨ s = 7 ∨ s = 8 ∨ s = 9 ∨ s = 10 := by omega
  unfold pin11 pin12 refPins ofF muxPns laterF earlierF firstP toSta
  simp only [reads_eq]
  unfold on85F
  generalize (chip == 2) = on
  generalize readsF ck = rd
  generalize writesF ck = wr
  generalize (ck == 8) = k8
  generalize (ck == 9) = k9
  generalize hh : (ck != 11) = k11
  generalize (ck != 12) = k12
  generalize linesF ck = ln
  generalize byteF ck = by'
  clear h1 h2
  rcases hs with rfl | rfl | rfl | rfl | rfl | rfl | rfl | rfl | rfl | rfl <;> cases on <;> cases rd <;> cases wr <;> cases k8 <;> cases k9 <;> cases k11 <;> cases k12 <;> rfl
theorem cyc_eq (wt : Int) : ∀ k, cycTo (mnI wt 65536).toNat k = cyc wt k
  | 0 => rfl
  | k + 1 => by
    rw [cycTo, cyc, cyc_eq wt k, show ((k : Int) + 1) = ((k + 1 : Nat) : Int) by omega]
    unfold lim
    by_cases h : k = 1
    · rw [if_pos h, if_pos h]
    · rw [if_neg h, if_neg h]; rfl
theorem limF_rep (n : Int) : (limF n 0 65536).toNat = (lim n).toNat := by unfold limF lim mxI mnI; split <;> split <;> omega
theorem states_eq (x : Itm) : ysP x = statesF x := by
  unfold ysP statesF
  by_cases h1 : x.kind = 1
  · rw [if_pos h1, show (x.kind == 1) = true by simpa using h1, cond]
    exact cyc_eq _ _
  · rw [if_neg h1, show (x.kind == 1) = false by simpa using h1, cond]
    by_cases h2 : 2 ≤ x.kind ∧ x.kind ≤ 4
    · rw [if_pos h2]
      have h3 : x.kind = 2 ∨ x.kind = 3 ∨ x.kind = 4 := by omega
      rcases h3 with h | h | h <;> (unfold repT repS; rw [h]; simp only [Int.reduceBEq, cond, limF_rep]; rfl)
    · rw [if_neg h2]
      unfold repT repS
      rw [show (x.kind == 2) = false by simp; omega, show (x.kind == 3) = false by simp; omega, show (x.kind == 4) = false by simp; omega]
      rfl
theorem cyc_rng (wt : Int) : ∀ {k : Nat}, k ≤ 6 → ∀ s ∈ cyc wt k, 1 ≤ s ∧ s ≤ 10
  | 0, _, s, h => by cases h
  | k + 1, hk, s, h => by
    rw [cyc, List.mem_append, List.mem_cons, List.mem_replicate] at h
    rcases h with h | h | h
    · exact cyc_rng wt (by omega) s h
    · omega
    · omega
theorem states_rng (x : Itm) : ∀ s ∈ statesF x, 1 ≤ s ∧ s ≤ 10 := by
  intro s h
  unfold statesF at h
  have := cycN_le x
  split at h
  · exact cyc_rng _ (by omega) s h
  · split at h
    · rw [List.mem_replicate] at h; omega
    · cases h
theorem expandI_eq (chip : Int) (x : Itm) : expandPI chip x = expandI chip x := by
  unfold expandPI expandI
  rw [states_eq]
  refine List.map_congr_left fun s hs => ?_
  obtain ⟨h1, h2⟩ := states_rng x s hs
  exact pin_eq _ _ _ _ _ _ _ h1 h2
theorem expand_eq (chip : Int) (l : List Itm) : expandP chip l = expandR chip l := by
  unfold expandP expandR
  rw [show expandPI chip = expandI chip from funext (expandI_eq chip)]
end Go.Proofs.Ytbdgnghllalbgaa

/- Contracts: light, known (the statements' own helpers). -/
namespace Go.Proofs.Ytbdgnghllalbgaa
open Go Go.Sx
set_option maxRecDepth 100000
/-- how many states, at a guess -/
def litStep (s : Int) (x : Itm) : Int := IntKind.i64.wrap (s + IntKind.i64.wrap (mxI 0 (mnI x.n 1000) + mxI 0 (mnI x.waits 1000)))
def litN (l : List Itm) : Int := l.foldl litStep 0
def lightF (l : List Itm) : Bool := bif decide ((l.length : Int) ≤ 60) then decide (litN l ≤ 900) else false
theorem light_len {l : List Itm} (h : lightF l = true) : l.length ≤ 60 := by
  unfold lightF at h
  by_cases h1 : (l.length : Int) ≤ 60
  · omega
  · rw [decide_eq_false h1] at h; cases h
def A7_0 : LAnn := { n := 1000000, s := [(0, ⟨[], .c (.v 0)⟩), (7, ⟨[], .c (.v 769)⟩), (6, ⟨[], .c (.v 0)⟩)], b := [], ids := [(0, .ro 1), (769, kI)], ps := [.s 3, .s 8], ks := [kI, kI] }
abbrev K7_0 := (List Itm) × Int × Unit
abbrev T7_0 := Int × Int × Unit
def step7_0 (l : List Itm) (n : Int) (s : Int) (i : Int) : Option T7_0 := bif decide (i < n) then some (litStep s (l.getD i.toNat iz), IntKind.i64.wrap (i + 1), ()) else none
def I7_0 (l : List Itm) (n : Int) (s : Int) (i : Int) : Prop := n = l.length ∧ l.length ≤ topLen ∧ 0 ≤ i ∧ i ≤ n ∧ s = litN (l.take i.toNat)
def mu7_0 (l : List Itm) (n : Int) (s : Int) (i : Int) : Nat := (n - i).toNat
def tree7_0 (l : List Itm) (n : Int) (s : Int) (i : Int) : RR cfg := .br (decide (i < n)) (.next [decide (0 ≤ i), decide (i < (l.length : Int))] [.i .i64 (litStep s (l.getD i.toNat iz)), .i .i64 (IntKind.i64.wrap (i + 1))]) (.stop [])
noncomputable def E7_0 : Sx.Loc → Env cfg → Option (Out × Env cfg) := stepL (gamL []) (fun _ => none) Try.f7.ntmps 0 (bodyOf Try.f7 0) A7_0 (fun (κ : K7_0) (σ : T7_0) => I7_0 κ.1 κ.2.1 σ.1 σ.2.1) (fun (κ : K7_0) (σ : T7_0) => step7_0 κ.1 κ.2.1 σ.1 σ.2.1) (fun (κ : K7_0) (σ : T7_0) => mu7_0 κ.1 κ.2.1 σ.1 σ.2.1)
theorem rd7_0 {l n s i} (hI : I7_0 l n s i) : (tree7_0 l n s i).ok ((step7_0 l n s i).map fun σ => [.i .i64 σ.1, .i .i64 σ.2.1]) := by
  obtain ⟨h1, h2, h3, h4, h5⟩ := hI
  simp only [tree7_0, RR.ok, step7_0, allT_cons, allT_nil, decide_eq_true_eq, decide_eq_false_iff_not]
  exact ⟨fun hi => ⟨by rw [decide_eq_true hi]; rfl, h3, by omega, trivial⟩, fun hi => ⟨by rw [decide_eq_false hi]; rfl, trivial⟩⟩
theorem plain7_0 {l n s i} (hI : I7_0 l n s i) : ∀ σ', step7_0 l n s i = some σ' → I7_0 l n σ'.1 σ'.2.1 ∧ mu7_0 l n σ'.1 σ'.2.1 < mu7_0 l n s i := by
  obtain ⟨h1, h2, h3, h4, h5⟩ := hI
  intro σ' h
  unfold step7_0 at h
  by_cases hi : i < n
  · rw [wrap_next (by unfold topLen at h2; omega) h3, decide_eq_true hi, cond, Option.some.injEq] at h
    subst h
    refine ⟨⟨h1, h2, by simp only; omega, by simp only; omega, ?_⟩, by simp only [mu7_0]; omega⟩
    simp only
    rw [take_next iz h3 (by omega)]
    unfold litN
    rw [List.foldl_append, List.foldl_cons, List.foldl_nil]
    show litStep _ _ = litStep (litN (l.take i.toNat)) _
    rw [h5]
  · rw [decide_eq_false hi, cond] at h; cases h
theorem out7_0 : ∀ m g r, E7_0 m g = some r → OutOK cfg Try.f7.ntmps (stmtFn Try.f7 0) m g r := fun m g r h => stmt_loop (by kernel_rfl) (
  stepL_ok (A := A7_0) (I := fun (κ : K7_0) (σ : T7_0) => I7_0 κ.1 κ.2.1 σ.1 σ.2.1) (step := fun (κ : K7_0) (σ : T7_0) => step7_0 κ.1 κ.2.1 σ.1 σ.2.1) (μ := fun (κ : K7_0) (σ : T7_0) => mu7_0 κ.1 κ.2.1 σ.1 σ.2.1) cfg_ok gamL_nil loops_none
    (fun κ σ hI => plain7_0 hI) (tree := fun (κ : K7_0) (σ : T7_0) => tree7_0 κ.1 κ.2.1 σ.1 σ.2.1) (fun κ σ => by kernel_rfl) (fun κ σ hI => rd7_0 hI) m g r h)
noncomputable def fin7_0 (l : List Itm) (n : Int) (σ : T7_0) : T7_0 := stepFin (fun (σ : T7_0) => step7_0 l n σ.1 σ.2.1) (fun (σ : T7_0) => mu7_0 l n σ.1 σ.2.1) σ
theorem fin7_0_end (l : List Itm) (n : Int) {σ : T7_0} (h : I7_0 l n σ.1 σ.2.1) : step7_0 l n (fin7_0 l n σ).1 (fin7_0 l n σ).2.1 = none ∧ I7_0 l n (fin7_0 l n σ).1 (fin7_0 l n σ).2.1 := stepFin_end (I := fun (σ : T7_0) => I7_0 l n σ.1 σ.2.1) (fun _ hI => plain7_0 hI) h
theorem fin7_0_eq (l : List Itm) (n : Int) {G : T7_0 → T7_0} (hs : ∀ σ : T7_0, I7_0 l n σ.1 σ.2.1 → step7_0 l n σ.1 σ.2.1 = none → G σ = σ) (hn : ∀ σ : T7_0, I7_0 l n σ.1 σ.2.1 → ∀ σ', step7_0 l n σ.1 σ.2.1 = some σ' → G σ' = G σ) {σ : T7_0} (h : I7_0 l n σ.1 σ.2.1) : fin7_0 l n σ = G σ := stepFin_eq (I := fun (σ : T7_0) => I7_0 l n σ.1 σ.2.1) (fun _ hI => plain7_0 hI) hs hn h
noncomputable def S7 : FSum cfg := FSum.of [.v false [.ro 1]] [.v false [kB]] (fun x => [decide (List.length (α := Itm) x.1.1 ≤ topLen)]) (fun x => ((lightF x.1.1, ()), ()))
noncomputable def tree_7 (l : List Itm) : RT cfg :=
  let f := fin7_0 l l.length (0, 0, ())
  .br (decide (f.2.1 < (l.length : Int))) .fail (.ret [dec (I7_0 l l.length 0 0)] [[.b (bif decide ((l.length : Int) ≤ 60) then decide (f.1 ≤ 900) else false)]])
theorem ret7 {l : List Itm} (h1 : l.length ≤ topLen) : (tree_7 l).ok [[.b (lightF l)]] := by
  simp only [tree_7, RT.ok, allT_cons, allT_nil, dec_iff, decide_eq_true_eq, decide_eq_false_iff_not]
  have h0 : I7_0 l l.length 0 0 := ⟨rfl, h1, Int.le_refl _, by omega, rfl⟩
  obtain ⟨e, q1, q2, q3, q4, q5⟩ := fin7_0_end l l.length (σ := (0, 0, ())) h0
  generalize fin7_0 l l.length (0, 0, ()) = f at e q1 q2 q3 q4 q5 ⊢
  refine ⟨fun hj => ?_, fun hj => ⟨?_, h0, trivial⟩⟩
  · unfold step7_0 at e
    rw [decide_eq_true hj] at e; cases e
  · rw [show f.2.1 = (l.length : Int) by omega, Int.toNat_natCast, List.take_length] at q5
    rw [q5]; rfl
theorem lok7 : ∀ p ∈ [(0, E7_0)], ∀ m g r, p.2 m g = some r → OutOK cfg Try.f7.ntmps (stmtFn Try.f7 p.1) m g r := by
  intro p hp
  simp only [List.mem_singleton] at hp
  subst hp
  exact out7_0
theorem ok7 : FnOK cfg 7 S7 :=
  fn_loops (l := [(0, E7_0)]) (tree := fun x => tree_7 x.1.1) cfg_ok gamL_nil (fn := Try.f7) (by kernel_rfl) rfl (by kernel_rfl) lok7 (fun x => by kernel_rfl) (fun x h => ret7 (of_decide_eq_true (h _ (by exact List.mem_cons_self ..))))
theorem en7 : Sx.Enters cfg.P 7 := Sx.enters_of (fn := Try.f7) (by kernel_rfl) (by kernel_rfl) (by kernel_rfl)

noncomputable def G8 : Nat → Option (FSum cfg) := gamL [(11, S11), (20, S20), (21, S21)]
theorem g8 : GamOK cfg G8 := gamL_cons en11 ok11 (gamL_cons en20 ok20 (gamL_cons en21 ok21 gamL_nil))
def kn : Itm := { kind := 1, ck := 1, at' := 0, data := 0, states := 4, waits := 1, n := 4, inte := false, sod := false }
def knO (p : List Pns) : List Bool × Bool :=
  let x4 : Int := p.length
  let x5 := x4 == 5
  let x6 := x5 && true
  let x7 := decide ([kn].length ≤ topLen)
  let x8 := bif x5 then (p.getD (Int.toNat 0) pz).ale else false
  let x9 := x8 && true
  let x10 := bif x8 then (p.getD (Int.toNat 2) pz).st == 7 else false
  let x11 := x10 && true
  let x12 := bif bif bif x10 then (p.getD (Int.toNat 4) pz).st == 4 else false then (cntF [kn]).c == 4 else false then (cntF [kn]).w == 1 else false
  ([x7, decide (p.length ≤ mostLen), x7, bif x6 then decide ((0 : Int) ≤ 0) else true, bif x6 then decide (0 < x4) else true, bif x9 then decide ((0 : Int) ≤ 2) else true, bif x9 then decide (2 < x4) else true, bif x11 then decide ((0 : Int) ≤ 4) else true, bif x11 then decide (4 < x4) else true, bif x12 && true then x7 else true], bif x12 then validF [kn] else false)
noncomputable def S8 : FSum cfg := FSum.of [] [.v false [kB]] (fun _ => []) (fun _ => ((true, ()), ()))
theorem kn_ex : expandP 2 [kn] = [1, 2, 7, 3, 4].map (pin12 2 1 0 0 false false) := by rw [expand_eq]; kernel_rfl
theorem kn_ok : (knO ([1, 2, 7, 3, 4].map (pin12 2 1 0 0 false false))).2 = true ∧ (knO ([1, 2, 7, 3, 4].map (pin12 2 1 0 0 false false))).1.all id = true := ⟨by kernel_rfl, by kernel_rfl⟩
noncomputable def tree_8 : RT cfg := .ret (knO (expandP 2 [kn])).1 [[.b (knO (expandP 2 [kn])).2]]
theorem ret8 : tree_8.ok [[.b true]] := by
  unfold tree_8
  rw [kn_ex]
  refine ⟨by rw [kn_ok.1], fun b hb => ?_⟩
  have := List.all_eq_true.mp kn_ok.2 b hb
  simpa using this
theorem ok8 : FnOK cfg 8 S8 := fn_loops (l := []) (tree := fun _ => tree_8) cfg_ok g8 (fn := Try.f8) (by kernel_rfl) rfl (by kernel_rfl) (fun p hp => by cases hp) (fun x => by kernel_rfl) (fun x _ => ret8)
theorem en8 : Sx.Enters cfg.P 8 := Sx.enters_of (fn := Try.f8) (by kernel_rfl) (by kernel_rfl) (by kernel_rfl)
end Go.Proofs.Ytbdgnghllalbgaa

/- Contracts: GrammarExpands. -/
namespace Go.Proofs.Ytbdgnghllalbgaa
open Go Go.Sx
set_option maxRecDepth 100000
set_option maxHeartbeats 4000000
theorem same_self (c : Int) (l : List Itm) : samePinsF (expandP c l) (expandR c l) = true := by rw [expand_eq]; exact decide_eq_true rfl
theorem expandR_len (c : Int) : ∀ l : List Itm, (expandR c l).length ≤ l.length * 70000
  | [] => by simp [expandR]
  | x :: l => by
    have h1 := expandR_len c l
    have h2 := statesF_len x
    unfold expandR at h1 ⊢
    rw [List.flatMap_cons, List.length_append, List.length_cons]
    have h3 : (expandI c x).length = (statesF x).length := List.length_map ..
    omega
theorem expandP_len (c : Int) (l : List Itm) : (expandP c l).length ≤ l.length * 70000 := by rw [expand_eq]; exact expandR_len c l
theorem en9' : Sx.Enters cfg.P 9 := Sx.enters_of (fn := Try.f9) (by kernel_rfl) (by kernel_rfl) (by kernel_rfl)
theorem en10 : Sx.Enters cfg.P 10 := Sx.enters_of (fn := Try.f10) (by kernel_rfl) (by kernel_rfl) (by kernel_rfl)
noncomputable def G3 : Nat → Option (FSum cfg) := gamL [(7, S7), (8, S8), (9, S9), (10, S10), (11, S11), (12, S12)]
theorem g3 : GamOK cfg G3 := gamL_cons en7 ok7 (gamL_cons en8 ok8 (gamL_cons en9' ok9 (gamL_cons en10 ok10 (gamL_cons en11 ok11 (gamL_cons en12 ok12 gamL_nil)))))
noncomputable def tree_3 (c : Int) (l : List Itm) (n : List Int) : RT cfg :=
  let x0 := expandP c l
  let x1 := l.length
  let x2 := expandR c l
  let x3 := (madeF n).length
  let x4 := expandR c (madeF n)
  let x5 := expandP c (madeF n)
  let x6 := x2.length
  let x7 := x0.length
  let x8 := x4.length
  let x9 := x5.length
  let x10 := expandR 2 l
  let x11 := expandR 1 l
  let x12 := expandP 1 l
  let x13 := expandP 2 l
  let x14 := !samePinsF x0 x2
  let x15 := expandR 2 (madeF n)
  let x16 := expandP 1 (madeF n)
  let x17 := expandR 1 (madeF n)
  let x18 := expandP 2 (madeF n)
  let x19 := x12.length
  let x20 := x11.length
  let x21 := x10.length
  let x22 := x13.length
  let x23 := x18.length
  let x24 := !samePinsF x5 x4
  let x25 := x17.length
  let x26 := x15.length
  let x27 := x16.length
  let x28 : Int := ↑n.length
  let x29 := decide (x1 ≤ topLen)
  let x30 := decide (x3 ≤ topLen)
  let x31 := !samePinsF x13 x10
  let x32 := !samePinsF x12 x11
  let x33 := decide (x6 ≤ mostLen)
  let x34 := decide (x7 ≤ topLen)
  let x35 := decide (x7 ≤ mostLen)
  let x36 := !samePinsF x16 x17
  let x37 := !samePinsF x18 x15
  let x38 := decide (x8 ≤ mostLen)
  let x39 := decide (x9 ≤ mostLen)
  let x40 := decide (x9 ≤ topLen)
  let x41 := decide (x20 ≤ mostLen)
  let x42 := decide (x22 ≤ topLen)
  let x43 := decide (x19 ≤ mostLen)
  let x44 := decide (x21 ≤ mostLen)
  let x45 := decide (x22 ≤ mostLen)
  let x46 := decide (x19 ≤ topLen)
  let x47 := decide (x23 ≤ mostLen)
  let x48 := decide (x27 ≤ mostLen)
  let x49 := decide (x25 ≤ mostLen)
  let x50 := decide (x27 ≤ topLen)
  let x51 := decide (x26 ≤ mostLen)
  let x52 := decide (x23 ≤ topLen)
  let x53 := bif !lightF l then true else decide (x28 > 250)
  let x54 := bif x53 then true else bif x14 then x29 else true
  let x55 := bif x53 then true else bif x14 then true else bif x24 then x29 else true
  let x56 := bif x53 then true else bif x14 then true else bif x24 then x30 else true
  let x57 := bif x53 then true else bif x14 then true else bif x24 then true else bif x32 then x29 else true
  let x58 := bif x53 then true else bif x14 then true else bif x24 then true else bif x32 then x30 else true
  let x59 := bif x53 then true else bif x14 then true else bif x24 then true else bif x32 then true else bif x36 then x29 else true
  let x60 := bif x53 then true else bif x14 then true else bif x24 then true else bif x32 then true else bif x36 then x30 else true
  let x61 := bif x53 then true else bif x14 then true else bif x24 then true else bif x32 then true else bif x36 then true else bif x31 then x29 else true
  let x62 := bif x53 then true else bif x14 then true else bif x24 then true else bif x32 then true else bif x36 then true else bif x31 then x30 else true
  let x63 := bif x53 then true else bif x14 then true else bif x24 then true else bif x32 then true else bif x36 then true else bif x31 then true else bif x37 then true else x29
  let x64 := bif x53 then true else bif x14 then true else bif x24 then true else bif x32 then true else bif x36 then true else bif x31 then true else bif x37 then x29 else true
  let x65 := bif x53 then true else bif x14 then true else bif x24 then true else bif x32 then true else bif x36 then true else bif x31 then true else bif x37 then true else x30
  let x66 := bif x53 then true else bif x14 then true else bif x24 then true else bif x32 then true else bif x36 then true else bif x31 then true else bif x37 then x30 else true
  (RT.ret [bif x53 then x29 else true, bif x53 then true else x29, x54, bif x53 then true else bif x14 then x35 else true, x54, bif x53 then true else bif x14 then x33 else true, bif x53 then true else bif x14 then x34 else true, x55, bif x53 then true else bif x14 then true else bif x24 then x35 else true, x55, bif x53 then true else bif x14 then true else bif x24 then x33 else true, bif x53 then true else bif x14 then true else bif x24 then x34 else true, x56, bif x53 then true else bif x14 then true else bif x24 then x39 else true, x56, bif x53 then true else bif x14 then true else bif x24 then x38 else true, bif x53 then true else bif x14 then true else bif x24 then x40 else true, x57, bif x53 then true else bif x14 then true else bif x24 then true else bif x32 then x35 else true, x57, bif x53 then true else bif x14 then true else bif x24 then true else bif x32 then x33 else true, bif x53 then true else bif x14 then true else bif x24 then true else bif x32 then x34 else true, x58, bif x53 then true else bif x14 then true else bif x24 then true else bif x32 then x39 else true, x58, bif x53 then true else bif x14 then true else bif x24 then true else bif x32 then x38 else true, bif x53 then true else bif x14 then true else bif x24 then true else bif x32 then x40 else true, x57, bif x53 then true else bif x14 then true else bif x24 then true else bif x32 then x43 else true, x57, bif x53 then true else bif x14 then true else bif x24 then true else bif x32 then x41 else true, bif x53 then true else bif x14 then true else bif x24 then true else bif x32 then x46 else true, x59, bif x53 then true else bif x14 then true else bif x24 then true else bif x32 then true else bif x36 then x35 else true, x59, bif x53 then true else bif x14 then true else bif x24 then true else bif x32 then true else bif x36 then x33 else true, bif x53 then true else bif x14 then true else bif x24 then true else bif x32 then true else bif x36 then x34 else true, x60, bif x53 then true else bif x14 then true else bif x24 then true else bif x32 then true else bif x36 then x39 else true, x60, bif x53 then true else bif x14 then true else bif x24 then true else bif x32 then true else bif x36 then x38 else true, bif x53 then true else bif x14 then true else bif x24 then true else bif x32 then true else bif x36 then x40 else true, x59, bif x53 then true else bif x14 then true else bif x24 then true else bif x32 then true else bif x36 then x43 else true, x59, bif x53 then true else bif x14 then true else bif x24 then true else bif x32 then true else bif x36 then x41 else true, bif x53 then true else bif x14 then true else bif x24 then true else bif x32 then true else bif x36 then x46 else true, x60, bif x53 then true else bif x14 then true else bif x24 then true else bif x32 then true else bif x36 then x48 else true, x60, bif x53 then true else bif x14 then true else bif x24 then true else bif x32 then true else bif x36 then x49 else true, bif x53 then true else bif x14 then true else bif x24 then true else bif x32 then true else bif x36 then x50 else true, x61, bif x53 then true else bif x14 then true else bif x24 then true else bif x32 then true else bif x36 then true else bif x31 then x35 else true, x61, bif x53 then true else bif x14 then true else bif x24 then true else bif x32 then true else bif x36 then true else bif x31 then x33 else true, bif x53 then true else bif x14 then true else bif x24 then true else bif x32 then true else bif x36 then true else bif x31 then x34 else true, x62, bif x53 then true else bif x14 then true else bif x24 then true else bif x32 then true else bif x36 then true else bif x31 then x39 else true, x62, bif x53 then true else bif x14 then true else bif x24 then true else bif x32 then true else bif x36 then true else bif x31 then x38 else true, bif x53 then true else bif x14 then true else bif x24 then true else bif x32 then true else bif x36 then true else bif x31 then x40 else true, x61, bif x53 then true else bif x14 then true else bif x24 then true else bif x32 then true else bif x36 then true else bif x31 then x43 else true, x61, bif x53 then true else bif x14 then true else bif x24 then true else bif x32 then true else bif x36 then true else bif x31 then x41 else true, bif x53 then true else bif x14 then true else bif x24 then true else bif x32 then true else bif x36 then true else bif x31 then x46 else true, x62, bif x53 then true else bif x14 then true else bif x24 then true else bif x32 then true else bif x36 then true else bif x31 then x48 else true, x62, bif x53 then true else bif x14 then true else bif x24 then true else bif x32 then true else bif x36 then true else bif x31 then x49 else true, bif x53 then true else bif x14 then true else bif x24 then true else bif x32 then true else bif x36 then true else bif x31 then x50 else true, x61, bif x53 then true else bif x14 then true else bif x24 then true else bif x32 then true else bif x36 then true else bif x31 then x45 else true, x61, bif x53 then true else bif x14 then true else bif x24 then true else bif x32 then true else bif x36 then true else bif x31 then x44 else true, bif x53 then true else bif x14 then true else bif x24 then true else bif x32 then true else bif x36 then true else bif x31 then x42 else true, x64, bif x53 then true else bif x14 then true else bif x24 then true else bif x32 then true else bif x36 then true else bif x31 then true else bif x37 then x35 else true, x64, bif x53 then true else bif x14 then true else bif x24 then true else bif x32 then true else bif x36 then true else bif x31 then true else bif x37 then x33 else true, bif x53 then true else bif x14 then true else bif x24 then true else bif x32 then true else bif x36 then true else bif x31 then true else bif x37 then x34 else true, x66, bif x53 then true else bif x14 then true else bif x24 then true else bif x32 then true else bif x36 then true else bif x31 then true else bif x37 then x39 else true, x66, bif x53 then true else bif x14 then true else bif x24 then true else bif x32 then true else bif x36 then true else bif x31 then true else bif x37 then x38 else true, bif x53 then true else bif x14 then true else bif x24 then true else bif x32 then true else bif x36 then true else bif x31 then true else bif x37 then x40 else true, x64, bif x53 then true else bif x14 then true else bif x24 then true else bif x32 then true else bif x36 then true else bif x31 then true else bif x37 then x43 else true, x64, bif x53 then true else bif x14 then true else bif x24 then true else bif x32 then true else bif x36 then true else bif x31 then true else bif x37 then x41 else true, bif x53 then true else bif x14 then true else bif x24 then true else bif x32 then true else bif x36 then true else bif x31 then true else bif x37 then x46 else true, x66, bif x53 then true else bif x14 then true else bif x24 then true else bif x32 then true else bif x36 then true else bif x31 then true else bif x37 then x48 else true, x66, bif x53 then true else bif x14 then true else bif x24 then true else bif x32 then true else bif x36 then true else bif x31 then true else bif x37 then x49 else true, bif x53 then true else bif x14 then true else bif x24 then true else bif x32 then true else bif x36 then true else bif x31 then true else bif x37 then x50 else true, x64, bif x53 then true else bif x14 then true else bif x24 then true else bif x32 then true else bif x36 then true else bif x31 then true else bif x37 then x45 else true, x64, bif x53 then true else bif x14 then true else bif x24 then true else bif x32 then true else bif x36 then true else bif x31 then true else bif x37 then x44 else true, bif x53 then true else bif x14 then true else bif x24 then true else bif x32 then true else bif x36 then true else bif x31 then true else bif x37 then x42 else true, x66, bif x53 then true else bif x14 then true else bif x24 then true else bif x32 then true else bif x36 then true else bif x31 then true else bif x37 then x47 else true, x66, bif x53 then true else bif x14 then true else bif x24 then true else bif x32 then true else bif x36 then true else bif x31 then true else bif x37 then x51 else true, bif x53 then true else bif x14 then true else bif x24 then true else bif x32 then true else bif x36 then true else bif x31 then true else bif x37 then x52 else true, x63, bif x53 then true else bif x14 then true else bif x24 then true else bif x32 then true else bif x36 then true else bif x31 then true else bif x37 then true else x35, x63, bif x53 then true else bif x14 then true else bif x24 then true else bif x32 then true else bif x36 then true else bif x31 then true else bif x37 then true else x33, bif x53 then true else bif x14 then true else bif x24 then true else bif x32 then true else bif x36 then true else bif x31 then true else bif x37 then true else x34, x65, bif x53 then true else bif x14 then true else bif x24 then true else bif x32 then true else bif x36 then true else bif x31 then true else bif x37 then true else x39, x65, bif x53 then true else bif x14 then true else bif x24 then true else bif x32 then true else bif x36 then true else bif x31 then true else bif x37 then true else x38, bif x53 then true else bif x14 then true else bif x24 then true else bif x32 then true else bif x36 then true else bif x31 then true else bif x37 then true else x40, x63, bif x53 then true else bif x14 then true else bif x24 then true else bif x32 then true else bif x36 then true else bif x31 then true else bif x37 then true else x43, x63, bif x53 then true else bif x14 then true else bif x24 then true else bif x32 then true else bif x36 then true else bif x31 then true else bif x37 then true else x41, bif x53 then true else bif x14 then true else bif x24 then true else bif x32 then true else bif x36 then true else bif x31 then true else bif x37 then true else x46, x65, bif x53 then true else bif x14 then true else bif x24 then true else bif x32 then true else bif x36 then true else bif x31 then true else bif x37 then true else x48, x65, bif x53 then true else bif x14 then true else bif x24 then true else bif x32 then true else bif x36 then true else bif x31 then true else bif x37 then true else x49, bif x53 then true else bif x14 then true else bif x24 then true else bif x32 then true else bif x36 then true else bif x31 then true else bif x37 then true else x50, x63, bif x53 then true else bif x14 then true else bif x24 then true else bif x32 then true else bif x36 then true else bif x31 then true else bif x37 then true else x45, x63, bif x53 then true else bif x14 then true else bif x24 then true else bif x32 then true else bif x36 then true else bif x31 then true else bif x37 then true else x44, bif x53 then true else bif x14 then true else bif x24 then true else bif x32 then true else bif x36 then true else bif x31 then true else bif x37 then true else x42, x65, bif x53 then true else bif x14 then true else bif x24 then true else bif x32 then true else bif x36 then true else bif x31 then true else bif x37 then true else x47, x65, bif x53 then true else bif x14 then true else bif x24 then true else bif x32 then true else bif x36 then true else bif x31 then true else bif x37 then true else x51, bif x53 then true else bif x14 then true else bif x24 then true else bif x32 then true else bif x36 then true else bif x31 then true else bif x37 then true else x52] [[Ent.b (bif x53 then true else bif x14 then false else bif x24 then false else bif x32 then false else bif x36 then false else bif x31 then false else bif x37 then false else true)]])

theorem ret3 {c : Int} {l : List Itm} {n : List Int} (h : l.length ≤ topLen) : (tree_3 c l n).ok [[.b true]] := by
  unfold tree_3
  simp only [same_self, Bool.not_true, decide_eq_true h]
  generalize hx : (bif !lightF l then true else decide ((n.length : Int) > 250)) = x
  cases x with
  | true =>
    refine ⟨rfl, fun b hb => ?_⟩
    simp only [cond] at hb
    simpa using hb
  | false =>
    have hl : l.length ≤ 60 := by
      cases hl : lightF l with
      | true => exact light_len hl
      | false => rw [hl] at hx; cases hx
    have hm := (madeF_small n).1
    have m1 : ∀ c, decide ((expandP c l).length ≤ mostLen) = true := fun c => decide_eq_true (by have := expandP_len c l; unfold mostLen; omega)
    have m2 : ∀ c, decide ((expandR c l).length ≤ mostLen) = true := fun c => decide_eq_true (by have := expandR_len c l; unfold mostLen; omega)
    have m3 : ∀ c, decide ((expandP c l).length ≤ topLen) = true := fun c => decide_eq_true (by have := expandP_len c l; unfold topLen; omega)
    have m4 : ∀ c, decide ((expandP c (madeF n)).length ≤ mostLen) = true := fun c => decide_eq_true (by have := expandP_len c (madeF n); unfold mostLen; omega)
    have m5 : ∀ c, decide ((expandR c (madeF n)).length ≤ mostLen) = true := fun c => decide_eq_true (by have := expandR_len c (madeF n); unfold mostLen; omega)
    have m6 : ∀ c, decide ((expandP c (madeF n)).length ≤ topLen) = true := fun c => decide_eq_true (by have := expandP_len c (madeF n); unfold topLen; omega)
    have m7 : decide ((madeF n).length ≤ topLen) = true := decide_eq_true (by unfold topLen; omega)
    refine ⟨rfl, fun b hb => ?_⟩
    simp only [cond, m1, m2, m3, m4, m5, m6, m7] at hb
    simpa using hb
noncomputable def S3 : FSum cfg := FSum.of [.v false [kI], .v false [.ro 1], .v false [.ro 0]] [.v false [kB]] (fun x => [decide (List.length (α := Itm) x.2.1.1 ≤ topLen)]) (fun _ => ((true, ()), ()))
theorem ok3 : FnOK cfg 3 S3 :=
  fn_loops (l := []) (tree := fun x => tree_3 x.1.1 x.2.1.1 x.2.2.1.1) cfg_ok g3 (fn := Try.f3) (by kernel_rfl) rfl (by kernel_rfl) (fun p hp => by cases hp) (fun x => by kernel_rfl) (fun x h => ret3 (of_decide_eq_true (h _ (by exact List.mem_cons_self ..))))
theorem en3 : Sx.Enters cfg.P 3 := Sx.enters_of (fn := Try.f3) (by kernel_rfl) (by kernel_rfl) (by kernel_rfl)
end Go.Proofs.Ytbdgnghllalbgaa
