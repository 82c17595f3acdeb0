/- 10 texts in one: the symbolic executor and the contracts of functions. -/
import Derived.Deep.Slices
import Derived.SizedLaws
import Derived.ChangeShapes
import Derived.Carry
import Derived.Below
import Derived.Test.YtbdgnghllalbgaaMC
/- The symbolic executor: a range over a function: the law of the statement, its rounds by what the calls of yield before them were. -/
namespace Go.Sx
open Go

/-- The statement, over an iterator that has its contract; a round: the assignment, then the body, from what the rounds before have left. -/
theorem range_law {α : Type} {F : Fence} {n : Nat} {P : Program} {g : Operand} {ps : Array Tmp} {assign body : Code} {Q : Exit → Act → World → Prop} {a : Act} {w : World}
    (hro : F.round = none) (h1 : 1 ≤ n) {gf : Nat} {lb : Array Value} (hg : a.eval g = .func (.func gf) #[] lb) (hFg : F.fn gf) (eg : ∀ args w, (callFunc gf args).run P w = .ok (.enter gf args) w)
    {encs : α → Array Value} {Kp : World → World → Prop} {S Sp : List α → Prop} {N : Nat} {w0 : World} (hseq : SeqStopsK F (n - 1) P gf lb encs Kp S Sp N w0)
    (hKt : ∀ {A B C : World}, Kp A B → Kp B C → Kp A C) (hKb : ∀ (W : World) (l : Nat) (o o' : Obj), w.heap.size ≤ l → W.heap[l]? = some o → o.isCells = false → o.isWalk = false → Kp W (W.putObj l o')) (hb0 : RowKit.Below w0.heap.size w0 w) (hps : ∀ x, (encs x).size = ps.size)
    (I : List α → World → Prop) (Ix : Code → List α → World → Prop) (hI : OwnFrom w.heap.size I) (hIx : ∀ c, OwnFrom w.heap.size (Ix c)) (h0 : I [] w)
    (hround : ∀ (l : Nat) (pre : List α) (x : α) (W : World), w.heap.size ≤ l → I pre W → pre.length < N →
      assign.wpIn (F.inRound l) (n - 1 - 1) P (Exit.then (fun a1 W1 => KeepsFrom w.heap.size W W1 ∧ Kp W W1 ∧ ∀ o o', W1.heap[l]? = some o → o.isCells = false →
        body.wpIn (F.inRound l) (n - 1 - 1) P (ownPostG w.heap.size Kp I Ix (pre ++ [x]) (W1.putObj l o')) a1 (W1.putObj l o')) (fun _ _ _ => False))
        { tmps := (ps.zip (encs x)).foldl (fun t (p, v) => t.setIfInBounds p v) a.tmps, defers := [] } W)
    (hdone : ∀ (D : Nat) (xs : List α) (W : World), w.heap.size ≤ D → S xs → I xs W → W.heap[D]? = some (.deferred (some [])) → Q .normal { a with defers := { target := .collected D, args := #[] } :: a.defers } W)
    (hstop : ∀ (D : Nat) (c : Code) (pre : List α) (W : World), w.heap.size ≤ D → Sp pre → Ix c pre W → W.heap[D]? = some (.deferred (some [])) → c.wpIn F n P Q { a with defers := { target := .collected D, args := #[] } :: a.defers } W) :
    (Code.rangeFunc g ps assign body).wpIn F n P Q a w := by
  refine wpIn_rangeFunc ?_
  intro fn hfn
  rw [hro]
  obtain ⟨rec, hrec⟩ : ∃ rec : LoopState → Option Code → Loop, rec = fun st pe => { state := st, pending := pe, fn, tmps := a.tmps, params := ps, assign, body, defers := w.heap.size } := ⟨_, rfl⟩
  obtain ⟨W1, hW1⟩ : ∃ W1, (w.alloc (.deferred (some []))).alloc (.loop (rec .ready none)) = W1 := ⟨_, rfl⟩
  have hL1 : W1.heap[w.heap.size + 1]? = some (.loop (rec .ready none)) := by
    rw [← hW1]; have := World.alloc_heap_new (w.alloc (.deferred (some []))) (.loop (rec .ready none)); rwa [World.size_alloc] at this
  have hK1 : W1.heap[w.heap.size]? = some (.deferred (some [])) := by
    rw [← hW1]; exact (RowKit.Below.heap_alloc _ _ _ (by simp)).trans (World.alloc_heap_new w _)
  have hI1 : I [] W1 := by rw [← hW1]; exact hI.alloc _ (hI.alloc _ h0)
  have hb1 : RowKit.Below w0.heap.size w0 W1 := by
    rw [← hW1]; exact hb0.trans ((((RowKit.Below.refl _ w).alloc (Nat.le_refl _) _).alloc (by simp) _).mono hb0.size)
  refine ⟨w.heap.size + 1, [{ target := .collected w.heap.size, args := #[] }], W1, { target := .fn (.func gf) lb, args := #[.func (.yield (w.heap.size + 1)) #[] #[]] }, W1, gf,
    #[.func (.yield (w.heap.size + 1)) #[] #[]] ++ lb, W1, ?_, ?_, ?_, ?_, fun _ => h1, ?_⟩
  · rw [← hW1, hrec]; exact run_enterLoop_outer _ _ _ _ _
  · simp only [resolve, hg]
    simp [go_sem]
  · intro f' hf'; simp [Target.leads] at hf'; subst hf'; exact hFg
  · simp [invoke, go_sem, eg]
  · have hnw : ∀ {A B : World} {row : Option Nat}, (∀ r, row = some r → W1.heap.size ≤ r ∧ ∃ o : Obj, A.heap[r]? = some o ∧ o.isWalk = true) → (∀ r, row = some r → w.heap.size ≤ r ∧ ∃ o : Obj, A.heap[r]? = some o ∧ o.isCells = false) :=
      fun hr r e => by obtain ⟨hB, o, ho, hw⟩ := hr r e; exact ⟨by rw [← hW1] at hB; simp at hB; omega, o, ho, Obj.not_cells_of_walk hw⟩
    refine (hseq (w.heap.size + 1)
      (fun pre W => I pre W ∧ W.heap[w.heap.size + 1]? = some (.loop (rec .ready none)) ∧ W.heap[w.heap.size]? = some (.deferred (some [])))
      (fun pre W => ∃ c, Ix c pre W ∧ W.heap[w.heap.size + 1]? = some (.loop (rec .done (some c))) ∧ W.heap[w.heap.size]? = some (.deferred (some [])))
      W1 hb1
      (fun s A B row hs hg' hr => ⟨hI s A B row hs.1 hg' (hnw (B := B) hr), (grownBy_keeps hg' (fun r e => (hr r e).2) hs.2.1 rfl).trans hs.2.1, (grownBy_keeps hg' (fun r e => (hr r e).2) hs.2.2 rfl).trans hs.2.2⟩)
      (fun s A B row hs hg' hr => by
        obtain ⟨c, hc, hl, hk⟩ := hs
        exact ⟨c, hIx c s A B row hc hg' (hnw (B := B) hr), (grownBy_keeps hg' (fun r e => (hr r e).2) hl rfl).trans hl, (grownBy_keeps hg' (fun r e => (hr r e).2) hk rfl).trans hk⟩)
      ?_ ⟨hI1, hL1, hK1⟩).mono ?_
    · rintro pre x W ⟨hi, hl, hk⟩ hlen
      have hy := run_yield (P := P) (args := encs x) hl (by rw [hrec]; exact hps x)
      rw [hrec] at hy
      refine ⟨fn, _, assign, body, hy, roundIn_of_wpIn hfn (wpIn_mono (hround _ pre x W (by omega) hi hlen) ?_)⟩
      clear hy
      intro e0 a' Wa hp0
      cases e0 with
      | normal =>
        obtain ⟨hkfa, hkpa, hbody⟩ := hp0
        have hla := hkfa.same _ _ (by omega) hl rfl
        have hka := hkfa.same _ _ (Nat.le_refl _) hk rfl
        have hlt : w.heap.size + 1 < Wa.heap.size := (Array.getElem?_eq_some_iff.1 hla).1
        refine ⟨_, run_beginRound hla (by rw [hrec]), ?_⟩
        have hl2 : (Wa.putObj (w.heap.size + 1) (.loop { rec .ready none with state := .busy })).heap[w.heap.size + 1]? = some (.loop { rec .ready none with state := .busy }) := World.putObj_heap_same hlt
        have hk2 : (Wa.putObj (w.heap.size + 1) (.loop { rec .ready none with state := .busy })).heap[w.heap.size]? = some (.deferred (some [])) := (World.putObj_heap_other (by omega)).trans hka
        have hw2 : Kp Wa (Wa.putObj (w.heap.size + 1) (.loop { rec .ready none with state := .busy })) := hKb _ _ _ _ (by omega) hla rfl rfl
        refine wpIn_mono (hbody _ (.loop { rec .ready none with state := .busy }) hla rfl) ?_
        have fin : ∀ (jump : Option Code) (W3 : World), KeepsFrom w.heap.size (Wa.putObj (w.heap.size + 1) (.loop { rec .ready none with state := .busy })) W3 →
            (Instr.endRound (w.heap.size + 1) jump).run P W3 = .ok (.bool jump.isNone) (W3.putObj (w.heap.size + 1) (.loop (rec (if jump.isNone then .ready else .done) jump))) ∧
            W3.heap[w.heap.size + 1]? = some (.loop { rec .ready none with state := .busy }) ∧
            (W3.putObj (w.heap.size + 1) (.loop (rec (if jump.isNone then .ready else .done) jump))).heap[w.heap.size + 1]? = some (.loop (rec (if jump.isNone then .ready else .done) jump)) ∧
            (W3.putObj (w.heap.size + 1) (.loop (rec (if jump.isNone then .ready else .done) jump))).heap[w.heap.size]? = some (.deferred (some [])) := fun jump W3 hk3 => by
          have hl3 := hk3.same _ _ (by omega) hl2 rfl
          have := run_endRound (P := P) jump hl3
          rw [hrec] at this ⊢
          exact ⟨this, by rw [hrec] at hl3; exact hl3, World.putObj_heap_same (Array.getElem?_eq_some_iff.1 hl3).1, (World.putObj_heap_other (by omega)).trans (hk3.same _ _ (Nat.le_refl _) hk2 rfl)⟩
        rintro e a3 W3 hp
        cases e with
        | normal =>
          obtain ⟨hk3, hkp3, hi3⟩ := hp
          obtain ⟨hr, hl3, hl4, hk4⟩ := fin none W3 hk3
          exact ⟨_, _, hr, .inl ⟨rfl, ⟨hI.putObj _ hi3 (by omega) hl3 rfl, hl4, hk4⟩, hKt hkpa (hKt (hKt hw2 hkp3) (hKb _ _ _ _ (by omega) hl3 rfl rfl))⟩⟩
        | ret =>
          obtain ⟨hk3, hi3⟩ := hp
          obtain ⟨hr, hl3, hl4, hk4⟩ := fin (some .ret) W3 hk3
          exact ⟨_, _, hr, .inr ⟨rfl, .ret, (hIx _).putObj _ hi3 (by omega) hl3 rfl, hl4, hk4⟩⟩
        | exit id =>
          obtain ⟨hk3, hi3⟩ := hp
          obtain ⟨hr, hl3, hl4, hk4⟩ := fin (some (.exit id)) W3 hk3
          exact ⟨_, _, hr, .inr ⟨rfl, .exit id, (hIx _).putObj _ hi3 (by omega) hl3 rfl, hl4, hk4⟩⟩
        | goto t =>
          obtain ⟨hk3, hi3⟩ := hp
          obtain ⟨hr, hl3, hl4, hk4⟩ := fin (some (.goto t)) W3 hk3
          exact ⟨_, _, hr, .inr ⟨rfl, .goto t, (hIx _).putObj _ hi3 (by omega) hl3 rfl, hl4, hk4⟩⟩
        | panic ch => exact hp.elim
        | outgrown => exact hp.elim
      | exit id => exact hp0.elim
      | goto t => exact hp0.elim
      | ret => exact hp0.elim
      | panic ch => exact hp0.elim
      | outgrown => exact hp0.elim
    · rintro e W2 ⟨⟨v, rfl⟩, (⟨xs, hS, hi, hl, hk⟩ | ⟨pre, hSp, c, hi, hl, hk⟩)⟩
      · exact ⟨none, _, by have := run_endLoop (P := P) hl (by rw [hrec]; simp); rw [hrec] at this; exact this, hdone _ xs _ (Nat.le_refl _) hS (hI.putObj _ hi (by omega) hl rfl) ((World.putObj_heap_other (by omega)).trans hk)⟩
      · exact ⟨some c, _, by have := run_endLoop (P := P) hl (by rw [hrec]; simp); rw [hrec] at this; exact this, hstop _ c pre _ (Nat.le_refl _) hSp ((hIx c).putObj _ hi (by omega) hl rfl) ((World.putObj_heap_other (by omega)).trans hk)⟩
end Go.Sx

/- The symbolic executor: a range over a function: states over other bases. -/
namespace Go.Sx
open Go
variable {C : Cfg} {N : Nat} {w0 w1 w w' : World} {O0 O1 : Frm} {X U U' : Nat → Prop} {m m' : St C} {ρ ρ' : Nat → Value} {a a' : Act}

theorem own_cells (S : Sim w0 O0 X N U m ρ a w) {b : Nat} (h : OwnN m ρ b) : ∃ o : Obj, w.heap[b]? = some o ∧ o.isCells = true := by
  obtain ⟨nm, B, h1, ho, h2⟩ := h
  obtain ⟨_, h3⟩ := S.blocks nm B h1
  cases B with
  | f _ _ => cases ho
  | c T cs =>
    obtain ⟨b', vs, q1, q2, _⟩ := h3
    rw [q1] at h2
    simp only [blkOf, Option.some.injEq] at h2
    subst h2
    exact ⟨_, q2, rfl⟩
  | l t id =>
    obtain ⟨xs, vals, _, _, q3⟩ := h3
    rcases q3.2 with ⟨q4, _⟩ | ⟨g, cap, cur, q4, _, q5, _⟩
    · rw [q4] at h2; cases h2
    · rw [q4] at h2
      simp only [blkOf, Option.some.injEq] at h2
      subst h2
      exact ⟨_, q5, rfl⟩
theorem not_own_of (S : Sim w0 O0 X N U m ρ a w) {b : Nat} {o : Obj} (ho : w.heap[b]? = some o) (hc : o.isCells = false) : ¬ OwnN m ρ b := by
  intro h
  obtain ⟨o', h1, h2⟩ := own_cells S h
  rw [ho] at h1
  simp only [Option.some.injEq] at h1
  subst h1
  rw [hc] at h2; cases h2
theorem sim_x (S : Sim w0 O0 X N U m ρ a w) : ∀ b, X b → b < w.heap.size ∧ ¬ OwnN m ρ b := fun b h => ⟨Nat.lt_of_lt_of_le (S.xok b h).1 S.hsize, x_not_own S h⟩

/-- The frame of a state, over its own world. -/
def ownF (m : St C) (ρ : Nat → Value) (fx : Nat → Value → Prop) (ds : List Deferred) : Frm := ⟨OwnN m ρ, fx, ds⟩
/-- From now on. -/
theorem Sim.rebase (S : Sim w0 O0 X N U m ρ a w) (ds : List Deferred) {fx : Nat → Value → Prop} (hfx : ∀ k v, fx k v → U k ∧ ρ k = v) : Sim w (ownF m ρ fx ds) X N U m ρ { tmps := a.tmps, defers := ds } w :=
  ⟨S.size, rfl, S.exdef, S.slots, S.skips, S.blocks, S.disj, fun _ h => .inl h, sim_x S, rfl, rfl, rfl, Nat.le_refl _, hfx, fun _ _ _ => rfl⟩
/-- Other deferred calls. -/
theorem Sim.redefer (S : Sim w0 O0 X N U m ρ a w) (ds : List Deferred) : Sim w0 ⟨O0.o, O0.fx, ds⟩ X N U m ρ { tmps := a.tmps, defers := ds } w :=
  ⟨S.size, rfl, S.exdef, S.slots, S.skips, S.blocks, S.disj, S.own, S.xok, S.os, S.tape, S.output, S.hsize, S.fix, S.kept⟩
/-- Back over the base before. -/
theorem Sim.over (S0 : Sim w0 O0 X N U m ρ a w) {fx : Nat → Value → Prop} {ds : List Deferred} (hfx : ∀ k v, O0.fx k v → fx k v) (S : Sim w (ownF m ρ fx ds) X N U' m' ρ' a' w') : Sim w0 ⟨O0.o, O0.fx, ds⟩ X N U' m' ρ' a' w' := by
  refine ⟨S.size, S.defers, S.exdef, S.slots, S.skips, S.blocks, S.disj, ?_, S0.xok, S.os.trans S0.os, S.tape.trans S0.tape, S.output.trans S0.output, Nat.le_trans S0.hsize S.hsize, fun k v h => S.fix k v (hfx k v h), ?_⟩
  · intro b h
    rcases S.own b h with h1 | h1
    · exact S0.own b h1
    · exact .inr (Nat.le_trans S0.hsize h1)
  · intro b h1 h2
    rw [S.kept b (Nat.lt_of_lt_of_le h1 S0.hsize) (fun h => (S0.own b h).elim h2 (fun h3 => by omega)), S0.kept b h1 h2]
/-- What a run over its own world keeps. -/
theorem Sim.keepsFrom {fx : Nat → Value → Prop} {ds : List Deferred} (S0 : Sim w0 O0 X N U m ρ a w) (S : Sim w (ownF m ρ fx ds) X N U' m' ρ' a' w') (B : Nat) : KeepsFrom B w w' :=
  ⟨S.hsize, fun k o _ hk hc => by rw [S.kept k (Array.getElem?_eq_some_iff.1 hk).1 (not_own_of S0 hk hc)]; exact hk⟩

/-- The slots of another frame of temporaries: what they say is known from before. -/
theorem Sim.reslot (S : Sim w0 O0 X N U m ρ a w) {a2 : Act} {sl : List (Nat × Slot)} (hz : a2.tmps.size = N) (hd : a2.defers = O0.ds)
    (h : ∀ p ∈ sl, p.2.ex = [] ∧ ∃ v, a2.tmps[p.1]? = some v ∧ SRel C U m.e.get ρ w (Owns X m ρ) p.2.v v) : Sim w0 O0 X N U ⟨setS (sl.map fun p => (p.1, some p.2)) .nil, m.e, m.b⟩ ρ a2 w := by
  have hget : ∀ t s, (setS (sl.map fun p => (p.1, some p.2)) .nil).get t = some s → (t, s) ∈ sl := by
    intro t s ht
    rcases setS_get _ _ _ _ ht with h1 | h1
    · obtain ⟨⟨t', s'⟩, h2, h3⟩ := List.mem_map.mp h1
      simp only [Prod.mk.injEq, Option.some.injEq] at h3
      obtain ⟨rfl, rfl⟩ := h3
      exact h2
    · cases h1
  refine ⟨hz, hd, ?_, ?_, ?_, S.blocks, S.disj, S.own, S.xok, S.os, S.tape, S.output, S.hsize, S.fix, S.kept⟩
  · intro t s ht p hp
    rw [(h _ (hget t s ht)).1] at hp; cases hp
  · intro t s ht _
    exact (h _ (hget t s ht)).2
  · intro t s ht hx
    exact absurd (by rw [(h _ (hget t s ht)).1]; intro p hp; cases hp) hx

/-! The values that are handed to yield. -/
def scalarK : Kind → Bool
  | .b | .i _ | .s => true
  | _ => false
def valT {C : Cfg} : (k : Kind) → k.T C → Value
  | .b, v => .bool v
  | .i k, n => .int k n
  | .s, v => .string v
  | .ro _, _ => undef
  | .ow _, _ => undef
def valK {C : Cfg} : (ks : List Kind) → KsT C ks → List Value
  | [], _ => []
  | k :: ks, x => valT k x.1 :: valK ks x.2
def PSpec.scalar : PSpec → Bool
  | .v agg ks => ks.all scalarK && (agg || Nat.beq ks.length 1)
  | .p .. => false
def valP {C : Cfg} : (ps : List PSpec) → PsT C ps → List Value
  | [], _ => []
  | .v true ks :: ps, x => .agg (valK ks x.1).toArray :: valP ps x.2
  | .v false ks :: ps, x => (valK ks x.1).headD undef :: valP ps x.2
  | .p _ _ _ :: ps, x => undef :: valP ps x.2
theorem valP_len {C : Cfg} : ∀ (ps : List PSpec) (x : PsT C ps), (valP ps x).length = ps.length
  | [], _ => rfl
  | .v true ks :: ps, x => by simp [valP, valP_len ps x.2]
  | .v false ks :: ps, x => by simp [valP, valP_len ps x.2]
  | .p _ _ _ :: ps, x => by simp [valP, valP_len ps x.2]
theorem rel_val {k : Kind} (hk : scalarK k = true) (x : k.T C) {O : Nat → Prop} : Rel C w O (mkE k x) (valT k x) := by
  cases k with
  | b => exact .b _
  | i _ => exact .i _ _
  | s => exact .s _
  | ro _ => cases hk
  | ow _ => cases hk
theorem cells_val {O : Nat → Prop} {E : Nat → Option (Ent C.R)} : ∀ {ks : List Kind} {n : Nat} {x : KsT C ks} {cs : List Cell} {en : List (Nat × Ent C.R)} {bs : List (Nat × Option Blk)}, ks.all scalarK = true →
    outCells C n ks (mkK ks x) = some (cs, en, bs) → (∀ p ∈ en, E p.1 = some p.2) → CsRel C U E ρ w O cs (valK ks x) := by
  intro ks
  induction ks with
  | nil => intro n x cs en bs _ h _; simp only [mkK, outCells, Option.some.injEq, Prod.mk.injEq] at h; rw [← h.1]; exact .nil
  | cons k ks ih =>
    intro n x cs en bs hk h hE
    simp only [List.all_cons, Bool.and_eq_true] at hk
    simp only [mkK, outCells] at h
    split at h
    · cases h
    · rename_i cs1 en1 bs1 h1
      have hkn : ∀ t, k ≠ .ow t := fun t e => by rw [e] at hk; cases hk.1
      split at h
      · exact absurd rfl (hkn _)
      · rcases bifE h with ⟨_, h⟩ | ⟨_, h⟩
        · simp only [Option.some.injEq, Prod.mk.injEq] at h
          obtain ⟨rfl, rfl, rfl⟩ := h
          exact .cons ⟨_, hE _ (List.mem_cons_self ..), rel_val hk.1 x.1⟩ (ih hk.2 h1 fun p hp => hE p (List.mem_cons_of_mem _ hp))
        · cases h
/-- The parameters of a round, set. -/
def putY {C : Cfg} : Nat → List Nat → (ps : List PSpec) → PsT C ps → Option (List (Nat × Option Slot) × List (Nat × Ent C.R) × Nat)
  | n, [], [], _ => some ([], [], n)
  | n, t :: ts, .v agg ks :: ps, x => match outCells C n ks (mkK ks x.1) with
    | none => none
    | some (cs, en, _) => match putY (n + ks.length) ts ps x.2 with
      | none => none
      | some (sl, en', n') => some ((t, some ⟨[], svOf agg cs⟩) :: sl, en ++ en', n')
  | _, _, _, _ => none
end Go.Sx

/- The symbolic executor: a range over a function: the parameters of a round. -/
namespace Go.Sx
open Go
variable {C : Cfg} {N : Nat} {w0 w1 w w' : World} {O0 O1 : Frm} {X U U' : Nat → Prop} {ρ ρ' : Nat → Value}

theorem setE_app : ∀ (l l' : List (Nat × Ent C.R)) (t : Tr (Ent C.R)), setE (l ++ l') t = (setE l t).bind (setE l')
  | [], _, _ => rfl
  | (k, x) :: l, l', t => by
    simp only [List.cons_append, setE]
    split
    · rfl
    · exact setE_app l l' _
def setTmps (a : Array Value) (l : List (Nat × Value)) : Array Value := l.foldl (fun t p => t.setIfInBounds p.1 p.2) a
theorem setTmps_zip (a : Array Value) (ps : Array Tmp) (vs : List Value) : (ps.zip vs.toArray).foldl (fun t (p, v) => t.setIfInBounds p v) a = setTmps a (ps.toList.zip vs) := by
  rw [← Array.foldl_toList]
  simp only [Array.toList_zip]
  rfl
theorem svOf_rel {E : Nat → Option (Ent C.R)} {O : Nat → Prop} {agg : Bool} {cs : List Cell} {vs : List Value} (h : CsRel C U E ρ w O cs vs) (hl : (agg || Nat.beq cs.length 1) = true) : SRel C U E ρ w O (svOf agg cs) (bif agg then .agg vs.toArray else vs.headD undef) := by
  cases agg with
  | true => exact ⟨vs, rfl, h⟩
  | false =>
    simp only [Bool.false_or] at hl
    have hl := Nat.beq_eq.mp hl
    cases h with
    | nil => simp at hl
    | cons h1 h2 => cases h2 with
      | nil => exact h1
      | cons _ _ => simp at hl
theorem putY_sim : ∀ {ts : List Nat} {ps : List PSpec} {n n' : Nat} {x : PsT C ps} {sl : List (Nat × Option Slot)} {en : List (Nat × Ent C.R)} {e' : Tr (Ent C.R)} {m : St C} {a : Act}, putY n ts ps x = some (sl, en, n') → ps.all PSpec.scalar = true →
    (∀ t ∈ ts, t < N) → setE en m.e = some e' → Sim w0 O0 X N U m ρ a w → Sim w0 O0 X N U ⟨setS sl m.s, e', m.b⟩ ρ { tmps := setTmps a.tmps (ts.zip (valP ps x)), defers := a.defers } w := by
  intro ts
  induction ts with
  | nil =>
    intro ps n n' x sl en e' m a h _ _ he S
    cases ps with
    | nil =>
      simp only [putY, Option.some.injEq, Prod.mk.injEq] at h
      obtain ⟨rfl, rfl, _⟩ := h
      simp only [setE, Option.some.injEq] at he
      subst he
      exact S
    | cons p ps => simp [putY] at h
  | cons t ts ih =>
    intro ps n n' x sl en e' m a h hs ht he S
    cases ps with
    | nil => simp [putY] at h
    | cons p ps =>
      cases p with
      | p _ _ _ => simp [putY] at h
      | v agg ks =>
        simp only [putY] at h
        split at h
        · cases h
        · rename_i cs en1 bs1 h1
          split at h
          · cases h
          · rename_i sl2 en2 n2 h2
            simp only [Option.some.injEq, Prod.mk.injEq] at h
            obtain ⟨rfl, rfl, rfl⟩ := h
            simp only [List.all_cons, Bool.and_eq_true, PSpec.scalar] at hs
            obtain ⟨⟨hs1, hs2⟩, hs3⟩ := hs
            rw [setE_app] at he
            cases h3 : setE en1 m.e with
            | none => rw [h3] at he; cases he
            | some e1 =>
              have he' : setE en2 e1 = some e' := by rw [h3] at he; exact he
              have hcl : cs.length = ks.length := (outCells_names h1).1
              have hv : SRel C U e1.get ρ w (Owns X m ρ) (svOf agg cs) (bif agg then .agg (valK ks x.1).toArray else (valK ks x.1).headD undef) := svOf_rel (cells_val hs1 h1 (setE_get _ _ _ h3).2) (by rw [hcl]; exact hs2)
              have S1 := S.put (U' := U) (fun _ h => h) (o := { (default : Oper) with dst := some t }) (ex := []) (by simp [dstOk]; exact ht t (List.mem_cons_self ..)) h3 (fun p hp => by cases hp) (fun _ => hv) (.inl (fun p hp => by cases hp))
              have := ih h2 hs3 (fun t' ht' => ht t' (List.mem_cons_of_mem _ ht')) he' S1
              have e : ({ tmps := setTmps a.tmps ((t :: ts).zip (valP (.v agg ks :: ps) x)), defers := a.defers } : Act) =
                  { tmps := setTmps (a.put (some t) (bif agg then .agg (valK ks x.1).toArray else (valK ks x.1).headD undef)).tmps (ts.zip (valP ps x.2)), defers := (a.put (some t) (bif agg then .agg (valK ks x.1).toArray else (valK ks x.1).headD undef)).defers } := by
                cases agg <;> rfl
              rw [e]
              exact this
theorem putY_names : ∀ {ts : List Nat} {ps : List PSpec} {n n' : Nat} {x : PsT C ps} {sl : List (Nat × Option Slot)} {en : List (Nat × Ent C.R)}, putY n ts ps x = some (sl, en, n') → n ≤ n' := by
  intro ts
  induction ts with
  | nil =>
    intro ps n n' x sl en h
    cases ps with
    | nil => simp only [putY, Option.some.injEq, Prod.mk.injEq] at h; omega
    | cons p ps => simp [putY] at h
  | cons t ts ih =>
    intro ps n n' x sl en h
    cases ps with
    | nil => simp [putY] at h
    | cons p ps =>
      cases p with
      | p _ _ _ => simp [putY] at h
      | v agg ks =>
        simp only [putY] at h
        split at h
        · cases h
        · split at h
          · cases h
          · rename_i h2
            simp only [Option.some.injEq, Prod.mk.injEq] at h
            obtain ⟨_, _, rfl⟩ := h
            have := ih h2
            omega
end Go.Sx

/- The symbolic executor: a range over a function: definitions. -/
namespace Go.Sx
open Go
/-- An iterator, by the function that makes it: its parameters; what is handed to yield, one after another. -/
structure IterS (C : Cfg) where
  ps : List PSpec
  yp : List PSpec
  pre : PsT C ps → Prop
  ys : PsT C ps → List (PsT C yp)
/-- These blocks are as they were. -/
def KpOf (KS : Nat → Prop) (W W' : World) : Prop := W.heap.size ≤ W'.heap.size ∧ ∀ b, KS b → W'.heap[b]? = W.heap[b]?
/-- The contract of the function that makes an iterator. -/
def IterOK (C : Cfg) (cf : FuncId) (I : IterS C) : Prop :=
  ∀ (w : World) (O : Nat → Prop) (x : PsT C I.ps) (args : List Value), AR C w O I.ps (mkP I.ps x) args [] → I.pre x →
    Calls C.P cf args.toArray w fun e w1 => ∃ (gf : Nat) (lb : Array Value) (KS : Nat → Prop), e = .returned (.func (.func gf) #[] lb) ∧ (∀ args w, (callFunc gf args).run C.P w = .ok (.enter gf args) w) ∧ w.grownBy w1 none ∧
      (∀ b, KS b → b < w1.heap.size ∧ (b < w.heap.size → ¬ O b)) ∧
      ∀ n, SeqStopsK (RF none) n C.P gf lb (fun y : PsT C I.yp => (valP I.yp y).toArray) (KpOf KS) (fun xs => xs = I.ys x) (fun pre => ∃ rest, I.ys x = pre ++ rest) (I.ys x).length w1

/-- What is written down of a range over a function: the state at its head, the iterator's slot, its maker, the parameters' slots; whether its body may leave the function. -/
structure RAnn where
  A : LAnn
  t : Nat
  cf : FuncId
  ts : List Nat
  lv : Bool
  args : List Operand
  ops : Array Oper
  pt : Array Tmp
  as : Code
  bd : Code

variable (C : Cfg)
/-- A round as a small tree: it goes on, or it leaves the function. -/
inductive RY where
  | nx (ob : List Bool) (es : List (Ent C.R))
  | rt (ob : List Bool) (es : List (Ent C.R))
  | br (c : Bool) (a b : RY)
  | fail
def toRY (A : LAnn) (g : Env C) : Out → RY C
  | .leaf ob x m => match backOf ⟨[], A.b⟩ A.ps A.ks m g with
    | none => .fail
    | some es => match x with
      | .nx => .nx ob es
      | .rt => .rt ob es
      | .ex _ => .fail
  | .br c a b => .br c (toRY A g a) (toRY A g b)
  | .fail => .fail
variable {C}
def RY.ok (es : List (Ent C.R)) (go : Bool) : RY C → Prop
  | .nx ob e => e = es ∧ go = true ∧ allT ob
  | .rt ob e => e = es ∧ go = false ∧ allT ob
  | .br c a b => (c = true → a.ok es go) ∧ (c = false → b.ok es go)
  | .fail => False
/-- The state at a round's head, its parameters set. -/
def headY (R : RAnn) (yp : List PSpec) (κ : KsT C (R.A.ids.map (·.2))) (σ : KsT C R.A.ks) (y : PsT C yp) : Option (Loc × Env C) :=
  match baseEnv R.A (mkK _ κ) with
  | none => none
  | some g0 => match headOf ⟨R.A.s, R.A.b⟩ R.A.ps R.A.ks g0 (mkK R.A.ks σ) with
    | none => none
    | some (mH, gH) => match putY gH.n R.ts yp y with
      | none => none
      | some (sl, en, n') => bif Nat.ble n' (gH.n + stride) then (match setE en gH.e with
        | none => none
        | some e' => some (⟨setS sl mH.s, mH.b⟩, ⟨e', gH.n + stride⟩)) else none
def roundY (Γ : Nat → Option (FSum C)) (L : Loops C) (N : Nat) (R : RAnn) (yp : List PSpec) (κ : KsT C (R.A.ids.map (·.2))) (σ : KsT C R.A.ks) (y : PsT C yp) : RY C :=
  match headY R yp κ σ y with
  | none => .fail
  | some (mY, gY) => match ev C Γ L N 2000 R.as mY gY with
    | some (.leaf [] .nx mA, gA) => (match ev C Γ L N 2000 R.bd mA gA with
      | none => .fail
      | some (o, gB) => toRY C R.A gB o)
    | _ => .fail
/-- The rounds, till one leaves. -/
def rfin {T Y : Type} (step : T → Y → T × Bool) : T → List Y → T × Bool
  | σ, [] => (σ, true)
  | σ, y :: ys => match step σ y with
    | (σ', true) => rfin step σ' ys
    | (σ', false) => (σ', false)
/-- A range over a function. -/
noncomputable def rangeF (Γ : Nat → Option (FSum C)) (N : Nat) (R : RAnn) (S : IterS C) (I : KsT C (R.A.ids.map (·.2)) → KsT C R.A.ks → Nat → Nat → Prop) (step : KsT C (R.A.ids.map (·.2)) → KsT C R.A.ks → PsT C S.yp → KsT C R.A.ks × Bool) (m : Loc) (g : Env C) : Option (Out × Env C) :=
  match runOps C Γ N R.ops R.ops.toList.dropLast g.n ⟨m.s, g.e, m.b⟩ [] with
  | none => none
  | some (m1, ob1) => match ((opdl C [] R.args).bind fun xs => (argsOf C S.ps xs).bind fun r => .ret (xs, r)).run m1 with
    | none => none
    | some (xs, ess, nms, all) => bif nms.isEmpty && all.isEmpty && (roOf S.ps xs).isEmpty then
        (match takeIds (C := C) ⟨m1.e, g.n + stride * R.ops.size⟩ R.A.ids with
        | none => none
        | some κ => match backOf ⟨R.A.s, R.A.b⟩ R.A.ps R.A.ks ⟨setS [(R.t, none)] m1.s, m1.b⟩ ⟨m1.e, g.n + stride * R.ops.size⟩ with
          | none => none
          | some es => bif entryOk R.A ⟨setS [(R.t, none)] m1.s, m1.b⟩ (⟨m1.e, g.n + stride * R.ops.size⟩ : Env C) then
              (match baseEnv (C := C) R.A κ with
              | none => none
              | some g0 =>
                match headOf ⟨R.A.s, R.A.b⟩ R.A.ps R.A.ks g0 (mkK R.A.ks (rfin (step (unK _ κ)) (unK _ es) (S.ys (unPs S.ps ess))).1) with
                | none => none
                | some (mT, gT) => match setE ((gT.e.toL (fun j => j)).filter fun p => !(R.A.ids.any fun q => Nat.beq q.1 p.1)) m1.e with
                  | none => none
                  | some e => some (andOb (ob1 ++ [dec (S.pre (unPs S.ps ess) ∧ I (unK _ κ) (unK _ es) 0 (S.ys (unPs S.ps ess)).length)])
                      (bif R.lv then .br (rfin (step (unK _ κ)) (unK _ es) (S.ys (unPs S.ps ess))).2 (.leaf [] .nx mT) (.leaf [] .rt mT) else .leaf [] .nx mT), ⟨e, gT.n⟩)) else none) else none
end Go.Sx

/- The symbolic executor: a range over a function: the region ahead of it. -/
namespace Go.Sx
open Go
variable {C : Cfg} {N : Nat} {Γ : Nat → Option (FSum C)} {L : Loops C} {w0 w1 w w' : World} {O0 O1 : Frm} {X U U' : Nat → Prop} {ρ ρ' : Nat → Value} {a a' : Act} {n0 : Nat} {ops : Array Oper}

/-- The first operations of a region. -/
theorem ops_pre (Kk : C.Ok) (G0 : GamOK C Γ) {ro : Option Nat} {kk : Nat} (hnd0 : noDefer ops = true) {Q : Exit → Act → World → Prop} {rest : List Nat} {mf : St C} {obf : List Bool} (hob : ∀ b ∈ obf, b = true) {top : Nat}
    (hQ : ∀ ρ' U' a' w', Sim w0 O0 X N U' mf ρ' a' w' → Below U' (n0 + stride * top) → wpOpsIn (RF ro) kk C.P ops Q rest a' w') :
    ∀ {l : List Oper} {i : Nat} {ob : List Bool} {U : Nat → Prop} {m : St C} {ρ : Nat → Value} {a : Act} {w : World}, runOps C Γ N ops l (n0 + stride * i) m ob = some (mf, obf) → (∀ j, j < l.length → l[j]? = ops[i + j]?) → i + l.length = top →
      Sim w0 O0 X N U m ρ a w → Below U (n0 + stride * i) → wpOpsIn (RF ro) kk C.P ops Q (List.range' i l.length ++ rest) a w := by
  intro l
  induction l with
  | nil =>
    intro i ob U m ρ a w h _ hsz S hB
    simp only [runOps, Option.some.injEq, Prod.mk.injEq] at h
    simp only [List.length_nil, Nat.add_zero] at hsz
    subst hsz
    rw [h.1] at S
    simp only [List.length_nil, List.range'_zero, List.nil_append]
    exact hQ ρ U a w S hB
  | cons o l ih =>
    intro i ob U m ρ a w h hl hsz S hB
    have hoi : ops[i]? = some o := by have := hl 0 (by simp); simpa using this.symm
    simp only [runOps] at h
    split at h
    · cases h
    · rename_i f hf
      split at h
      · cases h
      · rename_i m' hm
        cases hd : dstOk N o with
        | false => rw [hd] at h; simp at h
        | true =>
          rw [hd] at h
          simp only [cond] at h
          rw [show n0 + stride * i + stride = n0 + stride * (i + 1) by rw [Nat.mul_add]; omega] at h
          have := operP_wp Kk G0 S (hB.fresh (Nat.le_refl _)) hd hf (fun b hb => hob b (runOps_ob h b (List.mem_append_right _ hb))) hm (K := wpOpsIn (RF ro) kk C.P ops Q (List.range' (i + 1) l.length ++ rest)) (Q := Q)
            (fun ρ' v w' S' => ih h (fun j hj => by have := hl (j + 1) (by simp; omega); simpa [Nat.add_assoc, Nat.add_comm 1 j] using this) (by simp only [List.length_cons] at hsz; omega) S' (by
              rw [show n0 + stride * (i + 1) = n0 + stride * i + stride by rw [Nat.mul_add]; omega]
              exact up_below (fun k hk => Nat.lt_of_lt_of_le (hB k hk) (Nat.le_add_right _ _)) (Nat.le_refl _)))
          simp only [List.length_cons, List.range'_succ, List.cons_append, wpOpsIn, hoi]
          split
          · rename_i hw; rw [if_pos hw] at this; exact oper_in (noDefer_at hnd0 hoi) (fun _ _ h => h) this
          · rename_i hw; rw [if_neg hw] at this; exact ⟨fun _ _ => trivial, this⟩

/-- The call that makes the iterator: the last operation. -/
theorem iter_call {S : IterS C} {cf : FuncId} (hit : IterOK C cf S) (hent : Enters C.P cf) {o : Oper} {t : Nat} {args : List Operand} {tys : Array TypeId} (ho2 : o.dst = some t) (ho4 : o.op = .call { callee := .value (.func cf), args := args.toArray, argTypes := tys })
    {m : St C} (S0 : Sim w0 O0 X N U m ρ a w) {xs : List SV} {ess : List (List (Ent C.R))} {nms all : List Nat} (hargs : ((opdl C [] args).bind fun xs => (argsOf C S.ps xs).bind fun r => .ret (xs, r)).run m = some (xs, ess, nms, all))
    (hall : all = []) (hro : roOf S.ps xs = []) (hpre : S.pre (unPs S.ps ess)) {K : Act → World → Prop} {Q : Exit → Act → World → Prop}
    (hK : ∀ w1 gf lb KS, w.grownBy w1 none → (∀ args w, (callFunc gf args).run C.P w = .ok (.enter gf args) w) → (∀ b, KS b → b < w1.heap.size ∧ (b < w.heap.size → ¬ Owns X m ρ b)) →
      (∀ n, SeqStopsK (RF none) n C.P gf lb (fun y : PsT C S.yp => (valP S.yp y).toArray) (KpOf KS) (fun xs => xs = S.ys (unPs S.ps ess)) (fun pre => ∃ rest, S.ys (unPs S.ps ess) = pre ++ rest) (S.ys (unPs S.ps ess)).length w1) →
      K (a.put (some t) (.func (.func gf) #[] lb)) w1) : o.wp C.P a w K Q := by
  obtain ⟨xs', h1, h2⟩ := Prg.run_bind_some hargs
  obtain ⟨⟨ess', nms', all'⟩, h3, h4⟩ := Prg.run_bind_some h2
  simp only [Prg.run_ret, Option.some.injEq, Prod.mk.injEq] at h4
  obtain ⟨rfl, rfl, rfl, rfl⟩ := h4
  have hs := opdl_sound S0 (fun p hp => by cases hp) h1
  obtain ⟨hAR, _⟩ := export_ok S0 (O' := Owns X m ρ) (fun b h => h) h3 hs (fun nm hnm => by rw [hro] at hnm; cases hnm)
  simp only at hAR
  subst hall
  simp only [List.filterMap_nil] at hAR
  obtain ⟨x, hx⟩ := hAR.typed
  have hx' : unPs S.ps ess' = x := by rw [hx, unPs_mk]
  rw [hx] at hAR
  rw [hx'] at hpre hK
  have hcall := hit w (Owns X m ρ) x _ hAR hpre
  obtain ⟨fn, hfn, hname, hbody⟩ := hent
  have hexec : (execOp a.eval o).run C.P w = .ok (.enter cf (args.map a.eval).toArray) w := by
    have hname' : fn.name ≠ "runtime.NumGoroutine" := by simpa using hname
    have hbody' : fn.body ≠ none := by intro hc; rw [hc] at hbody; cases hbody
    simp [execOp, ho4, resolve, Act.eval, Deferred.ofValue, invoke, callFunc, hfn, hname', hbody']
  unfold Oper.wp
  rw [hexec]
  refine Calls.mono hcall ?_
  rintro e w1 ⟨gf, lb, KS, rfl, hgf, hgrow, hKS, hseq⟩
  rw [ho2]
  exact hK w1 gf lb KS hgrow hgf hKS hseq
end Go.Sx

/- The symbolic executor: a range over a function, proved. -/
namespace Go.Sx
open Go
variable {C : Cfg} {N : Nat} {Γ : Nat → Option (FSum C)} {L : Loops C}

theorem rfin_snoc {T Y : Type} {step : T → Y → T × Bool} {y : Y} : ∀ {pre : List Y} {σ σp : T}, rfin step σ pre = (σp, true) → rfin step σ (pre ++ [y]) = step σp y := by
  intro pre
  induction pre with
  | nil =>
    intro σ σp h
    simp only [rfin, Prod.mk.injEq, and_true] at h
    subst h
    simp only [List.nil_append, rfin]
    split
    · rename_i h; rw [h]
    · rename_i h; rw [h]
  | cons x pre ih =>
    intro σ σp h
    simp only [List.cons_append, rfin] at h ⊢
    split
    · rename_i σ' h'; rw [h'] at h; exact ih h
    · rename_i σ' h'; rw [h'] at h; simp at h
theorem rfin_stop {T Y : Type} {step : T → Y → T × Bool} {rest : List Y} : ∀ {pre : List Y} {σ σp : T}, rfin step σ pre = (σp, false) → rfin step σ (pre ++ rest) = (σp, false) := by
  intro pre
  induction pre with
  | nil => intro σ σp h; simp [rfin] at h
  | cons x pre ih =>
    intro σ σp h
    simp only [List.cons_append, rfin] at h ⊢
    split
    · rename_i σ' h'; rw [h'] at h; exact ih h
    · rename_i σ' h'; rw [h'] at h; exact h
theorem rfin_true {T Y : Type} {step : T → Y → T × Bool} (hs : ∀ σ y, (step σ y).2 = true) : ∀ (ys : List Y) (σ : T), (rfin step σ ys).2 = true := by
  intro ys
  induction ys with
  | nil => intro σ; rfl
  | cons y ys ih =>
    intro σ
    simp only [rfin]
    split
    · exact ih _
    · rename_i h; have := hs σ y; rw [h] at this; cases this

theorem runOps_le {ops : Array Oper} : ∀ {l : List Oper} {n : Nat} {m m' : St C} {ob ob' : List Bool}, runOps C Γ N ops l n m ob = some (m', ob') → ∀ id x, m.e.get id = some x → m'.e.get id = some x := by
  intro l
  induction l with
  | nil => intro n m m' ob ob' h; simp only [runOps, Option.some.injEq, Prod.mk.injEq] at h; rw [h.1]; exact fun _ _ h => h
  | cons o l ih2 =>
    intro n m m' ob ob' h id x hx
    simp only [runOps] at h
    split at h
    · cases h
    · split at h
      · cases h
      · rename_i f _ m1 hm1
        rcases bifE h with ⟨_, h⟩ | ⟨_, h⟩
        · refine ih2 h id x ?_
          unfold Eff.on at hm1
          split at hm1
          · cases hm1
          · rename_i e he
            simp only [Option.some.injEq] at hm1
            subst hm1
            exact (setE_get _ _ _ he).1 id x hx
        · cases h

def posC : Pos → Bool
  | .c _ _ => true
  | .s _ => false
theorem posSlots_c : ∀ {ps : List Pos} {cs : List Cell}, ps.all posC = true → posSlots ps cs = [] := by
  intro ps
  induction ps with
  | nil => intro cs _; cases cs <;> rfl
  | cons p ps ih =>
    intro cs h
    simp only [List.all_cons, Bool.and_eq_true] at h
    cases p with
    | s t => cases h.1
    | c _ _ =>
      cases cs with
      | nil => rfl
      | cons c cs => exact ih h.2
theorem headOf_nil {sl : List (Nat × Slot)} {bl : List (Nat × Blk)} {ps : List Pos} {ks : List Kind} {g gT : Env C} {es : List (Ent C.R)} {mT : Loc} (hc : ps.all posC = true) (h : headOf ⟨sl, bl⟩ ps ks g es = some (mT, gT)) :
    headOf ⟨[], bl⟩ ps ks g es = some (⟨.nil, mT.b⟩, gT) ∧ mT.s = setS (sl.map fun p => (p.1, some p.2)) .nil ∧ gT.n = g.n + stride ∧ (∀ i x, g.e.get i = some x → gT.e.get i = some x) := by
  unfold headOf at h ⊢
  split at h
  · cases h
  · rename_i cs en bs hout
    split at h
    · cases h
    · rename_i e hse
      obtain ⟨hb, h⟩ := (bifE h).resolve_right (fun h => by cases h.2)
      simp only [Option.some.injEq, Prod.mk.injEq] at h
      obtain ⟨rfl, rfl⟩ := h
      simp only [hb, cond, posSlots_c hc, List.map_nil, List.append_nil]
      exact ⟨rfl, trivial, trivial, (setE_get _ _ _ hse).1⟩
theorem base_ids {A : LAnn} {κ : List (Ent C.R)} {g0 : Env C} (h : baseEnv A κ = some g0) : ∃ e0, setE (zipIds A.ids κ) .nil = some e0 ∧ g0 = ⟨e0, A.n⟩ := by
  unfold baseEnv at h
  split at h
  · rename_i e0 hse0
    exact ⟨e0, hse0, (Option.some.inj h).symm⟩
  · cases h

/-- What must be so of the text. -/
def rstat (N : Nat) (R : RAnn) (yp : List PSpec) : Bool :=
  noDefer R.ops && Nat.blt R.t N && R.ts.all (fun t => Nat.blt t N) && (R.pt.toList == R.ts) && yp.all PSpec.scalar && Nat.beq yp.length R.ts.length && R.A.ps.all posC && R.A.s.all (fun p => p.2.ex.isEmpty && !(Nat.beq p.1 R.t)) && Nat.blt 0 R.ops.size

/-- What the whole says of a piece of code at the head of a round. -/
def HeadS (A : LAnn) (g0 : Env C) (w1 : World) (O1 : Frm) (X : Nat → Prop) (N : Nat) (a : Act) (σ : KsT C A.ks) (W : World) : Prop :=
  ∃ mH gH ρ U, headOf ⟨A.s, A.b⟩ A.ps A.ks g0 (mkK A.ks σ) = some (mH, gH) ∧ Sim w1 O1 X N U (stOf mH gH) ρ a W ∧ Below U gH.n
theorem HeadS.turn {A : LAnn} {g0 : Env C} {w1 : World} {O1 : Frm} {X : Nat → Prop} {a : Act} {σ : KsT C A.ks} {W W' : World} {row : Option Nat} (h : HeadS A g0 w1 O1 X N a σ W) (hg : W.grownBy W' row)
    (hr : ∀ r, row = some r → w1.heap.size ≤ r ∧ ∃ o : Obj, W.heap[r]? = some o ∧ o.isCells = false) : HeadS A g0 w1 O1 X N a σ W' := by
  obtain ⟨mH, gH, ρ, U, h1, h2, h3⟩ := h
  exact ⟨mH, gH, ρ, U, h1, h2.turn hg (fun r e => (hr r e).2) (fun r e => (hr r e).1), h3⟩
end Go.Sx

/- The symbolic executor: a range over a function, proved (the statement). -/
namespace Go.Sx
open Go
variable {C : Cfg} {N : Nat} {Γ : Nat → Option (FSum C)} {L : Loops C}

theorem toRY_pick {A : LAnn} {g : Env C} {es : List (Ent C.R)} {go : Bool} : ∀ {o : Out}, (toRY C A g o).ok es go → ∃ ob x m, o.pick = some (ob, x, m) ∧ allT ob ∧ backOf ⟨[], A.b⟩ A.ps A.ks m g = some es ∧ ((x = .nx ∧ go = true) ∨ (x = .rt ∧ go = false)) := by
  intro o
  induction o with
  | leaf ob x m =>
    intro h
    simp only [toRY] at h
    split at h
    · exact h.elim
    · rename_i e he
      split at h
      · obtain ⟨rfl, h2, h3⟩ := h; exact ⟨ob, .nx, m, rfl, h3, he, .inl ⟨rfl, h2⟩⟩
      · obtain ⟨rfl, h2, h3⟩ := h; exact ⟨ob, .rt, m, rfl, h3, he, .inr ⟨rfl, h2⟩⟩
      · exact h.elim
  | br c a b iha ihb =>
    intro h
    simp only [toRY] at h
    simp only [Out.pick]
    cases c with
    | true => exact iha (h.1 rfl)
    | false => exact ihb (h.2 rfl)
  | fail => intro h; exact h.elim

/-- One round of a range over a function. -/
theorem round_range (Kk : C.Ok) (G0 : GamOK C Γ) {R : RAnn} {yp : List PSpec} (hst : rstat N R yp = true) (hLa : ∀ l, LoopsK C N (some l) L R.as) (hLb : ∀ l, LoopsK C N (some l) L R.bd)
    {κ : KsT C (R.A.ids.map (·.2))} {g0 : Env C} (hg0 : baseEnv R.A (mkK _ κ) = some g0) {σ σ' : KsT C R.A.ks} {go : Bool} {x : PsT C yp} (hr : (roundY Γ L N R yp κ σ x).ok (mkK R.A.ks σ') go)
    (hh : (headOf ⟨R.A.s, R.A.b⟩ R.A.ps R.A.ks g0 (mkK R.A.ks σ')).isSome = true)
    {w1 : World} {O1 : Frm} {X U1 : Nat → Prop} {ρ1 : Nat → Value} {mE : Loc} {gE : Env C} {a2 : Act} (hds : O1.ds = []) (ha2 : a2.defers = []) (hfx : ∀ k v, O1.fx k v ↔ U1 k ∧ ρ1 k = v) (hO1 : ∀ b, O1.o b ↔ OwnN (stOf mE gE) ρ1 b) (hz : a2.tmps.size = N)
    (hX1 : ∀ b, X b → b < w1.heap.size) (hB1 : Below U1 R.A.n) (hsl : ∀ p ∈ R.A.s, p.2.ex = [] ∧ ∃ v, a2.tmps[p.1]? = some v ∧ SRel C U1 g0.e.get ρ1 w1 (Owns X (stOf mE gE) ρ1) p.2.v v)
    (hbl : ∀ p ∈ R.A.b, U1 p.1 ∧ BRel C U1 g0.e.get ρ1 w1 (Owns X (stOf mE gE) ρ1) p.1 p.2)
    {KS : Nat → Prop} (hKS : ∀ b, KS b → b < w1.heap.size ∧ ¬ OwnN (stOf mE gE) ρ1 b) {l kk : Nat} (hl : w1.heap.size ≤ l) {W : World} (hH : HeadS R.A g0 w1 O1 X N a2 σ W) {P : Exit → Act → World → Prop} {Pa : Act → World → Prop}
    (hPa : ∀ a' W1, (KeepsFrom w1.heap.size W W1 ∧ KpOf KS W W1 ∧ ∀ o o', W1.heap[l]? = some o → o.isCells = false → R.bd.wpIn (RF (some l)) kk C.P (fun e a3 W3 => KeepsFrom w1.heap.size (W1.putObj l o') W3 ∧ KpOf KS (W1.putObj l o') W3 ∧ HeadS R.A g0 w1 O1 X N a2 σ' W3 ∧ ((e = .normal ∧ go = true) ∨ (e = .ret ∧ go = false))) a' (W1.putObj l o')) → Pa a' W1) :
    R.as.wpIn (RF (some l)) kk C.P (Exit.then Pa P) { tmps := setTmps a2.tmps (R.ts.zip (valP yp x)), defers := [] } W := by
  obtain ⟨e0, hse0, rfl⟩ := base_ids hg0
  have hE0 := setE_get _ _ _ hse0
  simp only [rstat, Bool.and_eq_true, List.all_eq_true, Bool.not_eq_true'] at hst
  obtain ⟨⟨⟨⟨⟨⟨⟨⟨s1, s2⟩, s3⟩, s4⟩, s5⟩, s6⟩, s7⟩, s8⟩, s9⟩ := hst
  have hpc : R.A.ps.all posC = true := List.all_eq_true.mpr s7
  unfold roundY at hr
  split at hr
  · exact hr.elim
  rename_i mY gY hY
  split at hr
  case h_2 => exact hr.elim
  rename_i mA gA hA
  split at hr
  · exact hr.elim
  rename_i o gB hBd
  obtain ⟨ob, xf, mB, hpick, hob, hback, hgo⟩ := toRY_pick hr
  unfold headY at hY
  rw [hg0] at hY
  simp only at hY
  split at hY
  · cases hY
  rename_i mH gH hhead
  split at hY
  · cases hY
  rename_i sl en n' hput
  obtain ⟨hn', hY⟩ := (bifE hY).resolve_right (fun h => by cases h.2)
  have hn' := Nat.ble_eq.mp hn'
  split at hY
  · cases hY
  rename_i e' hse'
  simp only [Option.some.injEq, Prod.mk.injEq] at hY
  obtain ⟨rfl, rfl⟩ := hY
  obtain ⟨mH', gH', ρ, U, q1, S3, q3⟩ := hH
  rw [hhead] at q1
  simp only [Option.some.injEq, Prod.mk.injEq] at q1
  obtain ⟨rfl, rfl⟩ := q1
  obtain ⟨_, _, hgHn, hgHe⟩ := headOf_nil hpc hhead
  -- its parameters set, over its own world
  have S3r := S3.rebase [] (fx := fun k v => U k ∧ ρ k = v) (fun k v h => h)
  have S3p := putY_sim hput (List.all_eq_true.mpr s5) (fun t ht => Nat.blt_eq.mp (s3 t ht)) hse' S3r
  have S3p : Sim W (ownF (stOf mH gH) ρ (fun k v => U k ∧ ρ k = v) []) X N U (stOf ⟨setS sl mH.s, mH.b⟩ ⟨e', gH.n + stride⟩) ρ { tmps := setTmps a2.tmps (R.ts.zip (valP yp x)), defers := [] } W := S3p
  have hxW := sim_x S3
  refine (ev_ok Kk G0 2000 hA (hLa l)).2 [] .nx mA rfl (fun b hb => by cases hb) kk S3p.toM (below_le q3 (Nat.le_add_right _ _)) (fun ρ' U' a' W1 SM hB' => ?_)
  obtain ⟨wc, Oc, hbase, S4⟩ := SM
  have S5 : Sim W (ownF (stOf mH gH) ρ (fun k v => U k ∧ ρ k = v) Oc.ds) X N U' (stOf mA gA) ρ' a' W1 := hbase.back hxW S4
  have notOwn : ∀ b, KS b → ¬ OwnN (stOf mH gH) ρ b := fun b hb ho => by
    obtain ⟨h1, h2⟩ := hKS b hb
    rcases S3.own b ho with h3 | h3
    · exact h2 ((hO1 b).mp h3)
    · omega
  have hfx5 : ∀ k v, O1.fx k v → (U k ∧ ρ k = v) := fun k v h => S3.fix k v h
  have S6 : Sim w1 ⟨O1.o, O1.fx, Oc.ds⟩ X N U' (stOf mA gA) ρ' a' W1 := Sim.over S3 hfx5 S5
  refine hPa a' W1 ⟨S3.keepsFrom S5 _, ⟨S5.hsize, fun b hb => S5.kept b (Nat.lt_of_lt_of_le (hKS b hb).1 S3.hsize) (notOwn b hb)⟩, fun oo o' hoo hoc => ?_⟩
  -- the body
  have S7 : Sim w1 ⟨O1.o, O1.fx, Oc.ds⟩ X N U' (stOf mA gA) ρ' a' (W1.putObj l o') := S6.turn (grownBy_putObj' W1 l o') (fun r e => by cases e; exact ⟨oo, hoo, hoc⟩) (fun r e => by cases e; exact hl)
  have S8 := S7.rebase a'.defers (fx := fun k v => U' k ∧ ρ' k = v) (fun k v h => h)
  have hea : ({ tmps := a'.tmps, defers := a'.defers } : Act) = a' := rfl
  rw [hea] at S8
  have hx1 := sim_x S7
  refine (ev_ok Kk G0 2000 hBd (hLb l)).2 ob xf mB hpick hob kk S8.toM hB' (fun ρ'' U'' a'' W2 SM hB'' => ?_)
  obtain ⟨wd, Od, hbase2, S9⟩ := SM
  have S9 : Sim (W1.putObj l o') (ownF (stOf mA gA) ρ' (fun k v => U' k ∧ ρ' k = v) Od.ds) X N U'' (stOf mB gB) ρ'' a'' W2 := hbase2.back hx1 S9
  have notOwn2 : ∀ b, KS b → ¬ OwnN (stOf mA gA) ρ' b := fun b hb ho => by
    obtain ⟨h1, h2⟩ := hKS b hb
    rcases S7.own b ho with h3 | h3
    · exact h2 ((hO1 b).mp h3)
    · omega
  have S10 : Sim w1 ⟨O1.o, O1.fx, Od.ds⟩ X N U'' (stOf mB gB) ρ'' a'' W2 := Sim.over S7 (fun k v h => S7.fix k v h) S9
  refine ⟨S7.keepsFrom S9 _, ⟨S9.hsize, fun b hb => S9.kept b (Nat.lt_of_lt_of_le (hKS b hb).1 S7.hsize) (notOwn2 b hb)⟩, ?_, ?_⟩
  · -- the head of the next round
    cases hhd : headOf ⟨R.A.s, R.A.b⟩ R.A.ps R.A.ks ⟨e0, R.A.n⟩ (mkK R.A.ks σ') with
    | none => rw [hhd] at hh; cases hh
    | some q =>
      obtain ⟨mT, gT⟩ := q
      obtain ⟨hn1, hn2, hn3, hn4⟩ := headOf_nil hpc hhd
      have hA1 := ev_ok Kk G0 2000 hA (hLa l)
      have hB1' := ev_ok Kk G0 2000 hBd (hLb l)
      have hsub : ∀ i y, e0.get i = some y → gB.e.get i = some y := fun i y hy => hB1'.1.e i y (hA1.1.e i y ((setE_get _ _ _ hse').1 i y (hgHe i y hy)))
      obtain ⟨hle, ρT, UT, hT1, hT2⟩ := head_sim (O0 := ⟨O1.o, O1.fx, Od.ds⟩) (K := ⟨[], R.A.b⟩) (g := ⟨e0, R.A.n⟩) (P0 := Owns X (stOf mE gE) ρ1) (w1 := w1) hB1 (fun p hp => by cases hp) hbl (fun k v hk => ((hfx k v).mp hk).1) S10 hsub hback hn1
      have hT3 := hT1.redefer []
      have hlat : Later (C := C) U1 e0.get ρ1 w1 (Owns X (stOf mE gE) ρ1) UT gT.e.get ρT W2 (Owns X (stOf ⟨.nil, mT.b⟩ gT) ρT) := by
        refine .of (fun k hk => (hT1.fix k (ρ1 k) ((hfx k _).mpr ⟨hk, rfl⟩)).1) (fun i y hy => hle.e i y hy) (fun k hk => (hT1.fix k (ρ1 k) ((hfx k _).mpr ⟨hk, rfl⟩)).2) ⟨hT1.hsize, fun b hb hO => ⟨hT1.kept b hb (fun h => hO (.inr ((hO1 b).mp h))), fun hO' => ?_⟩⟩
        rcases hO' with h | h
        · exact hO (.inl h)
        · rcases hT1.own b h with h1 | h1
          · exact hO (.inr ((hO1 b).mp h1))
          · omega
      have hRS := hT3.reslot (a2 := a2) (sl := R.A.s) hz ha2 (fun p hp => by
        obtain ⟨h1, v, h2, h3⟩ := hsl p hp
        exact ⟨h1, v, h2, hlat.sv h3⟩)
      refine ⟨mT, gT, ρT, UT, hhd, ?_, hT2⟩
      have e1 : stOf mT gT = ⟨setS (R.A.s.map fun p => (p.1, some p.2)) .nil, gT.e, mT.b⟩ := by unfold stOf; rw [hn2]
      rw [e1]
      have e2 : O1 = ⟨O1.o, O1.fx, []⟩ := by cases O1; simp only at hds; rw [hds]
      rw [e2]
      exact hRS
  · rcases hgo with ⟨rfl, h⟩ | ⟨rfl, h⟩
    · exact .inl ⟨rfl, h⟩
    · exact .inr ⟨rfl, h⟩
end Go.Sx

/- The symbolic executor: a range over a function: the statement, proved. -/
namespace Go.Sx
open Go
variable {C : Cfg} {N : Nat} {Γ : Nat → Option (FSum C)} {L : Loops C}

theorem kpOf_t {KS : Nat → Prop} {A B D : World} (h : KpOf KS A B) (k : KpOf KS B D) : KpOf KS A D := ⟨Nat.le_trans h.1 k.1, fun b hb => by rw [k.2 b hb, h.2 b hb]⟩
theorem kpOf_put {KS : Nat → Prop} {W : World} {l : Nat} {o' : Obj} (h : ∀ b, KS b → b ≠ l) : KpOf KS W (W.putObj l o') := ⟨by simp, fun b hb => World.putObj_heap_other (h b hb)⟩

theorem wpIn_any {ro : Option Nat} {k k' : Nat} {P : Program} {c : Code} {Q : Exit → Act → World → Prop} {a : Act} {w : World} (h : c.wpIn (RF ro) k P Q a w) : c.wpIn (RF ro) k' P Q a w :=
  fun b kk cs hro hb _ => h b kk cs hro hb (fun d hd => by cases hd)
theorem range_ok (Kk : C.Ok) (G0 : GamOK C Γ) {R : RAnn} {S : IterS C} {I : KsT C (R.A.ids.map (·.2)) → KsT C R.A.ks → Nat → Nat → Prop} {step : KsT C (R.A.ids.map (·.2)) → KsT C R.A.ks → PsT C S.yp → KsT C R.A.ks × Bool}
    (hit : IterOK C R.cf S) (hent : Enters C.P R.cf) (hst : rstat N R S.yp = true) {o : Oper} {tys : Array TypeId} (ho1 : R.ops.toList.getLast? = some o) (ho2 : o.dst = some R.t) (ho3 : o.guard = none)
    (ho4 : o.op = .call { callee := .value (.func R.cf), args := R.args.toArray, argTypes := tys }) (hLa : ∀ l, LoopsK C N (some l) L R.as) (hLb : ∀ l, LoopsK C N (some l) L R.bd)
    (hh : ∀ (κ : KsT C (R.A.ids.map (·.2))) (σ : KsT C R.A.ks), (match baseEnv R.A (mkK _ κ) with | none => none | some g0 => headOf ⟨R.A.s, R.A.b⟩ R.A.ps R.A.ks g0 (mkK R.A.ks σ)).isSome = true)
    (hr : ∀ κ σ k n y, I κ σ k n → k < n → (roundY Γ L N R S.yp κ σ y).ok (mkK R.A.ks (step κ σ y).1) (step κ σ y).2 ∧ ((step κ σ y).2 = true → I κ (step κ σ y).1 (k + 1) n))
    (hlv : R.lv = false → ∀ κ σ y, (step κ σ y).2 = true) {rid j : Nat} :
    ∀ m g r, rangeF Γ N R S I step m g = some r → OutK C N none (.seq (.region rid R.ops false) (.block j (.rangeFunc (.tmp R.t) R.pt R.as R.bd))) m g r := by
  intro m g r h
  unfold rangeF at h
  split at h
  · cases h
  rename_i m1 ob1 hrun
  split at h
  · cases h
  rename_i xs ess nms all hargs
  obtain ⟨hchk, h⟩ := (bifE h).resolve_right (fun h => by cases h.2)
  simp only [Bool.and_eq_true, List.isEmpty_iff] at hchk
  obtain ⟨⟨_, hall⟩, hro⟩ := hchk
  split at h
  · cases h
  rename_i κ hκ
  split at h
  · cases h
  rename_i es hes
  obtain ⟨hent2, h⟩ := (bifE h).resolve_right (fun h => by cases h.2)
  split at h
  · cases h
  rename_i g0 hg0
  split at h
  · cases h
  rename_i mT gT hhT
  split at h
  · cases h
  rename_i eE hseE
  simp only [Option.some.injEq] at h
  subst h
  have hst0 := hst
  simp only [rstat, Bool.and_eq_true, List.all_eq_true, Bool.not_eq_true'] at hst
  obtain ⟨⟨⟨⟨⟨⟨⟨⟨s1, s2⟩, s3⟩, s4⟩, s5⟩, s6⟩, s7⟩, s8⟩, s9⟩ := hst
  have hpc : R.A.ps.all posC = true := List.all_eq_true.mpr s7
  have hpt : R.pt.toList = R.ts := by simpa using s4
  have hyl : S.yp.length = R.ts.length := Nat.beq_eq.mp s6
  have hsz : 0 < R.ops.size := Nat.blt_eq.mp s9
  obtain ⟨hκk, hκg⟩ := takeIds_ok hκ
  have hκt : mkK _ (unK (R.A.ids.map (·.2)) κ) = κ := kinds_typed hκk
  have hg0' : baseEnv R.A (mkK _ (unK (R.A.ids.map (·.2)) κ)) = some g0 := by rw [hκt]; exact hg0
  obtain ⟨e0, hse0, rfl⟩ := base_ids hg0
  have hE0 := setE_get _ _ _ hse0
  have hEE := setE_get _ _ _ hseE
  let gE : Env C := ⟨m1.e, g.n + stride * R.ops.size⟩
  let mE : Loc := ⟨setS [(R.t, none)] m1.s, m1.b⟩
  generalize hκ' : unK (R.A.ids.map (·.2)) κ = κ' at *
  generalize hσ0 : unK R.A.ks es = σ0 at *
  generalize hxx : unPs S.ps ess = x at *
  have hsub : ∀ i y, e0.get i = some y → m1.e.get i = some y := by
    intro i y hy
    have : ∀ {l : List (Nat × Ent C.R)} {t t' : Tr (Ent C.R)}, setE l t = some t' → ∀ i x, t'.get i = some x → (i, x) ∈ l ∨ t.get i = some x := by
      intro l
      induction l with
      | nil => intro t t' h i x hx; simp only [setE, Option.some.injEq] at h; subst h; exact .inr hx
      | cons p l ih =>
        intro t t' h i x hx
        obtain ⟨k, y⟩ := p
        simp only [setE] at h
        split at h
        · cases h
        · rcases ih h i x hx with h1 | h1
          · exact .inl (List.mem_cons_of_mem _ h1)
          · rw [Tr.get_set] at h1
            split at h1
            · rename_i he; subst he; simp only [Option.some.injEq] at h1; subst h1; exact .inl (List.mem_cons_self ..)
            · exact .inr h1
    rcases this hse0 i y hy with h1 | h1
    · exact hκg _ h1
    · cases h1
  have hids : ∀ i, (R.A.ids.any fun p => Nat.beq p.1 i) = true → ∃ e, e0.get i = some e := by
    intro i hi
    obtain ⟨e, he⟩ := zip_mem hκk i hi
    exact ⟨e, hE0.2 _ he⟩
  simp only [entryOk, Bool.and_eq_true, Nat.ble_eq] at hent2
  obtain ⟨⟨hKs, hKb⟩, hnA⟩ := hent2
  obtain ⟨_, _, hgTn, hgTe⟩ := headOf_nil hpc hhT
  have hgE : gT.Le ⟨eE, gT.n⟩ := by
    refine ⟨fun i y hy => ?_, Nat.le_refl _⟩
    by_cases hi : (R.A.ids.any fun q => Nat.beq q.1 i) = true
    · obtain ⟨e, he⟩ := hids i hi
      have h1 : gT.e.get i = some e := hgTe i e he
      rw [h1] at hy
      simp only [Option.some.injEq] at hy
      subst hy
      exact hEE.1 i e (hsub i e he)
    · refine hEE.2 (i, y) (List.mem_filter.mpr ⟨Tr.toL_get (f := fun j => j) hy, ?_⟩)
      show (!(R.A.ids.any fun q => Nat.beq q.1 i)) = true
      cases hq : (R.A.ids.any fun q => Nat.beq q.1 i) with
      | false => rfl
      | true => exact absurd hq hi
  have hle0 : ∀ i y, g.e.get i = some y → m1.e.get i = some y := runOps_le hrun
  refine ⟨⟨fun i y hy => hEE.1 i y (hle0 i y hy), ?_⟩, fun ob xf mf hp hob w0 O0 X U ρ a w Q kk SM hB hQ => ?_⟩
  · show g.n ≤ gT.n
    have h1 : g.n + stride * R.ops.size ≤ R.A.n := hnA
    have h2 : gT.n = R.A.n + stride := hgTn
    omega
  obtain ⟨wb, Ob, hbase, S0⟩ := SM
  obtain ⟨ob2, hp1, rfl⟩ := andOb_pick hp
  have hob1 : ∀ b ∈ ob1, b = true := fun b hb => hob b (by simp [hb])
  have hpI : S.pre x ∧ I κ' σ0 0 (S.ys x).length := dec_iff.mp (hob (dec (S.pre x ∧ I κ' σ0 0 (S.ys x).length)) (by simp))
  obtain ⟨hpre, hI0⟩ := hpI
  have hlen : R.ops.toList.dropLast.length = R.ops.size - 1 := by simp
  have hidx : R.ops[R.ops.size - 1]? = some o := by
    have := ho1
    rw [List.getLast?_eq_getElem?] at this
    simpa using this
  have hlist : List.range R.ops.size = List.range' 0 R.ops.toList.dropLast.length ++ [R.ops.size - 1] := by
    rw [hlen, List.range_eq_range']
    conv => lhs; rw [show R.ops.size = (R.ops.size - 1) + 1 by omega]
    rw [List.range'_concat]
    simp
  refine wpIn_seq (wpIn_region ?_)
  rw [hlist]
  refine ops_pre Kk G0 s1 (n0 := g.n) (i := 0) (top := R.ops.size - 1) (obf := ob1) (mf := m1) hob1 (fun ρ1 U1 a1 wA S1 hB1 => ?_) (ob := []) (by simpa using hrun) (fun j hj => ?_) (by rw [hlen]; omega) S0 (by simpa using hB)
  rotate_left
  · rw [hlen] at hj
    rw [Nat.zero_add, List.getElem?_dropLast, if_pos (by simpa using hj)]
    simp
  simp only [wpOpsIn, hidx]
  rw [if_pos (by unfold Region.wanted; rw [ho3])]
  refine oper_in (noDefer_at s1 hidx) (fun _ _ h => h) (iter_call hit hent ho2 ho4 S1 hargs hall hro (by rw [hxx]; exact hpre) (fun w1 gf lb KS hgrow hgf hKS hseq => ?_))
  rw [hxx] at hseq
  show Code.wpIn _ _ _ (.block j (.rangeFunc (.tmp R.t) R.pt R.as R.bd)) Q _ w1
  refine wpIn_block ?_
  generalize hfv : Value.func (.func gf) #[] lb = fv at *
  -- the state at the statement
  have S2 : Sim wb Ob X N U1 (stOf mE gE) ρ1 (a1.put (some R.t) fv) w1 := by
    have S1' := S1.turn hgrow (fun r e => by cases e) (fun r e => by cases e)
    exact S1'.skip (U' := U1) (fun _ h => h) (o := { (default : Oper) with dst := some R.t }) (v := fv)
  generalize ha2 : a1.put (some R.t) fv = a2 at S2
  have hev : a2.eval (.tmp R.t) = fv := by
    show a2.tmps.getD R.t undef = fv
    rw [← ha2]
    have := get_put_eq a1 R.t fv (by rw [S1.size]; exact Nat.blt_eq.mp s2)
    rw [Array.getD_eq_getD_getElem?, this]; rfl
  -- what is known at the entry
  have hest : mkK R.A.ks σ0 = es := by
    have hes2 := hes
    unfold backOf at hes2
    split at hes2
    · cases hes2
    · rename_i cs hcs
      split at hes2
      · cases hes2
      · rename_i es' nms hio
        obtain ⟨_, hes2⟩ := (bifE hes2).resolve_right (fun h => by cases h.2)
        simp only [Option.some.injEq] at hes2
        subst hes2
        obtain ⟨vs, hvs, _⟩ := pos_vals S2 hcs
        obtain ⟨hV, _, _⟩ := inOut_sound S2 (O' := fun _ => False) (fun b h => h.elim) hio hvs
        obtain ⟨y, hy⟩ := vrs_typed hV
        simp only at hy
        rw [← hσ0, hy, unK_mk]
  have hKs' : ∀ p ∈ R.A.s, p.2.ex = [] ∧ ∃ v, a2.tmps[p.1]? = some v ∧ SRel C U1 e0.get ρ1 w1 (Owns X (stOf mE gE) ρ1) p.2.v v := by
    intro p hpm
    have hexs : p.2.ex = [] := List.isEmpty_iff.mp (s8 p hpm).1
    have := List.all_eq_true.mp hKs p hpm
    simp only [Bool.and_eq_true] at this
    obtain ⟨k1, k2⟩ := this
    split at k2
    · rename_i s hs
      simp only [Bool.and_eq_true, List.isEmpty_iff] at k2
      obtain ⟨v, h1, h2⟩ := S2.slots p.1 s hs (by rw [k2.1]; intro p hp; cases hp)
      rw [← sameSV_eq k2.2] at h2
      refine ⟨hexs, v, h1, ?_⟩
      cases hv : p.2.v with
      | c c => rw [hv] at h2 k1; exact known_cell (g0 := ⟨e0, R.A.n⟩) (g := gE) hsub hids k1 h2
      | g cs => rw [hv] at h2 k1; obtain ⟨us, r1, r2⟩ := h2; exact ⟨us, r1, known_cells (g0 := ⟨e0, R.A.n⟩) (g := gE) hsub hids k1 r2⟩
      | t _ => rw [hv] at k1; cases k1
      | e _ _ _ _ => rw [hv] at k1; cases k1
    · cases k2
  have hKb' : ∀ p ∈ R.A.b, U1 p.1 ∧ BRel C U1 e0.get ρ1 w1 (Owns X (stOf mE gE) ρ1) p.1 p.2 := by
    intro p hpm
    have := List.all_eq_true.mp hKb p hpm
    simp only [Bool.and_eq_true] at this
    obtain ⟨k1, k2⟩ := this
    split at k2
    · rename_i B hB'
      obtain ⟨hu, hr⟩ := S2.blocks p.1 B hB'
      rw [← sameBlk'_eq k2] at hr
      refine ⟨hu, ?_⟩
      cases hv : p.2 with
      | c T cs => rw [hv] at hr k1; obtain ⟨b, vs, r1, r2, r3⟩ := hr; exact ⟨b, vs, r1, r2, known_cells (g0 := ⟨e0, R.A.n⟩) (g := gE) hsub hids k1 r3⟩
      | l t i =>
        rw [hv] at hr k1
        obtain ⟨xs, vals, r1, r2⟩ := hr
        obtain ⟨e, he⟩ := hids i k1
        have := hsub i e he
        have r1' : m1.e.get i = some (.ro t xs) := r1
        rw [r1'] at this
        simp only [Option.some.injEq] at this
        subst this
        exact ⟨xs, vals, he, r2⟩
      | f t i =>
        rw [hv] at hr k1
        obtain ⟨xs, r1, r2⟩ := hr
        obtain ⟨e, he⟩ := hids i k1
        have := hsub i e he
        have r1' : m1.e.get i = some (.ro t xs) := r1
        rw [r1'] at this
        simp only [Option.some.injEq] at this
        subst this
        exact ⟨xs, he, r2⟩
    · cases k2
  have hB0 : Below U1 R.A.n := below_le hB1 (by
    have h1 : g.n + stride * R.ops.size ≤ R.A.n := hnA
    have : stride * (R.ops.size - 1) ≤ stride * R.ops.size := Nat.mul_le_mul_left _ (by omega)
    omega)
  -- the base of the rounds
  let a3 : Act := { tmps := a2.tmps, defers := [] }
  let O1 : Frm := ownF (stOf mE gE) ρ1 (fun k v => U1 k ∧ ρ1 k = v) []
  have S2r : Sim w1 O1 X N U1 (stOf mE gE) ρ1 a3 w1 := S2.rebase [] (fun k v h => h)
  have hX1 : ∀ b, X b → b < w1.heap.size := fun b hb => Nat.lt_of_lt_of_le (S2.xok b hb).1 S2.hsize
  have hKS' : ∀ b, KS b → b < w1.heap.size ∧ ¬ OwnN (stOf mE gE) ρ1 b := fun b hb => by
    obtain ⟨h1, h2⟩ := hKS b hb
    refine ⟨h1, fun ho => ?_⟩
    have hlt : b < wA.heap.size := ownN_lt S1 ho
    exact h2 hlt (.inr ho)
  let n := (S.ys x).length
  let IP : List (PsT C S.yp) → World → Prop := fun pre W => ∃ σp, rfin (step κ') σ0 pre = (σp, true) ∧ I κ' σp pre.length n ∧ HeadS R.A ⟨e0, R.A.n⟩ w1 O1 X N a3 σp W
  let IX : Code → List (PsT C S.yp) → World → Prop := fun c pre W => c = .ret ∧ ∃ σp, rfin (step κ') σ0 pre = (σp, false) ∧ HeadS R.A ⟨e0, R.A.n⟩ w1 O1 X N a3 σp W
  have hhead : ∀ σ, (headOf ⟨R.A.s, R.A.b⟩ R.A.ps R.A.ks (⟨e0, R.A.n⟩ : Env C) (mkK R.A.ks σ)).isSome = true := fun σ => by
    have := hh κ' σ
    rw [hg0'] at this
    exact this
  have hstart : HeadS R.A ⟨e0, R.A.n⟩ w1 O1 X N a3 σ0 w1 := by
    cases hhd : headOf ⟨R.A.s, R.A.b⟩ R.A.ps R.A.ks (⟨e0, R.A.n⟩ : Env C) (mkK R.A.ks σ0) with
    | none => have := hhead σ0; rw [hhd] at this; cases this
    | some q =>
      obtain ⟨mS, gS⟩ := q
      obtain ⟨_, ρT, UT, h3, h4⟩ := head_sim (O0 := O1) (K := ⟨R.A.s, R.A.b⟩) (g := ⟨e0, R.A.n⟩) (P0 := Owns X (stOf mE gE) ρ1) (w1 := w1) hB0 (fun p hp => by obtain ⟨_, v, _, h⟩ := hKs' p hp; exact ⟨v, h⟩) hKb' (fun k v hk => hk.1) S2r hsub (by rw [hest]; exact hes) hhd
      exact ⟨mS, gS, ρT, UT, hhd, h3, h4⟩
  -- what comes behind
  have fin : ∀ (D : Nat) (W : World) (σp : KsT C R.A.ks) (go : Bool), w1.heap.size ≤ D → HeadS R.A ⟨e0, R.A.n⟩ w1 O1 X N a3 σp W → W.heap[D]? = some (.deferred (some [])) → rfin (step κ') σ0 (S.ys x) = (σp, go) →
      ∃ ρ' U', SimM w0 O0 X N U' (stOf mT ⟨eE, gT.n⟩) ρ' { tmps := a2.tmps, defers := { target := .collected D, args := #[] } :: a2.defers } W ∧ Below U' gT.n := by
    intro D W σp go hD hH hdef hrf
    obtain ⟨mH, gH, ρ', U', q1, q2, q3⟩ := hH
    rw [hrf] at hhT
    rw [hhT] at q1
    simp only [Option.some.injEq, Prod.mk.injEq] at q1
    obtain ⟨rfl, rfl⟩ := q1
    refine ⟨ρ', U', ?_, q3⟩
    have hfx0 : ∀ k v, O0.fx k v → U' k ∧ ρ' k = v := fun k v hk => q2.fix k v (S2.fix k v (by rw [hbase.fx]; exact hk))
    have q4 := q2.rebase ({ target := .collected D, args := #[] } :: a2.defers) hfx0
    refine SimM.more hgE ⟨W, ownF (stOf mT gT) ρ' O0.fx ({ target := .collected D, args := #[] } :: a2.defers), ?_, q4⟩
    have hst2 : wb.heap.size ≤ w1.heap.size := S2.hsize
    have keep1 : ∀ b, b < w0.heap.size → ¬ O0.o b → W.heap[b]? = w0.heap[b]? ∧ ¬ OwnN (stOf mT gT) ρ' b := by
      intro b hb hO
      obtain ⟨k1, k2⟩ := hbase.kept b hb hO
      have hbw : b < wb.heap.size := Nat.lt_of_lt_of_le hb hbase.hsize
      have hno : ¬ OwnN (stOf mE gE) ρ1 b := fun ho => by
        rcases S2.own b ho with h | h
        · exact k2 h
        · omega
      refine ⟨?_, fun ho => ?_⟩
      · rw [q2.kept b (Nat.lt_of_lt_of_le hbw hst2) hno, S2.kept b hbw k2, k1]
      · rcases q2.own b ho with h | h
        · exact hno h
        · have := Nat.lt_of_lt_of_le hbw hst2; omega
    obtain ⟨Ds, hds, hDn, hDs⟩ := hbase.marks
    have hDw1 : ∀ D' ∈ Ds, w1.heap[D']? = some (.deferred (some [])) := fun D' hD' => by
      obtain ⟨_, h2, h3, h4⟩ := hDs D' hD'
      rw [S2.kept D' h2 h3, h4]
    refine ⟨q2.os.trans (S2.os.trans hbase.os), q2.tape.trans (S2.tape.trans hbase.tape), q2.output.trans (S2.output.trans hbase.output), Nat.le_trans hbase.hsize (Nat.le_trans hst2 q2.hsize), rfl, keep1, D :: Ds, ?_, ?_, ?_⟩
    · show _ :: a2.defers = _
      rw [S2.defers, hds]; rfl
    · refine List.nodup_cons.mpr ⟨fun hm => ?_, hDn⟩
      have := (hDs D hm).2.1
      omega
    · intro D' hD'
      rcases List.mem_cons.mp hD' with rfl | hD'
      · exact ⟨Nat.le_trans hbase.hsize (Nat.le_trans hst2 hD), (Array.getElem?_eq_some_iff.1 hdef).1, not_own_of q2 hdef rfl, hdef⟩
      · have hd1 := hDw1 D' hD'
        have hlt1 : D' < w1.heap.size := (Array.getElem?_eq_some_iff.1 hd1).1
        have hW : W.heap[D']? = some (.deferred (some [])) := by rw [q2.kept D' hlt1 (not_own_of S2 hd1 rfl)]; exact hd1
        exact ⟨(hDs D' hD').1, (Array.getElem?_eq_some_iff.1 hW).1, not_own_of q2 hW rfl, hW⟩
  refine wpIn_any (k := kk + 1) ?_
  refine range_law (α := PsT C S.yp) (F := RF none) (n := kk + 1) rfl (by omega) (gf := gf) (lb := lb) (by rw [hev, ← hfv]) trivial hgf (encs := fun y => (valP S.yp y).toArray) (Kp := KpOf KS) (hseq _) kpOf_t
    (fun W l o o' hl h1 h2 h3 => kpOf_put (fun b hb => by have := (hKS b hb).1; omega)) (RowKit.Below.refl _ _) (fun y => by show ((valP S.yp y).toArray).size = R.pt.size; rw [List.size_toArray, valP_len, hyl, ← hpt]; simp) IP IX ?_ ?_ ⟨σ0, rfl, hI0, hstart⟩ ?_ ?_ ?_
  · intro pre W W' row hs hg hrow
    obtain ⟨σp, h1, h2, h3⟩ := hs
    exact ⟨σp, h1, h2, h3.turn hg hrow⟩
  · intro c pre W W' row hs hg hrow
    obtain ⟨hc, σp, h1, h2⟩ := hs
    exact ⟨hc, σp, h1, h2.turn hg hrow⟩
  · -- a round
    rintro l pre y W hl ⟨σp, h1, h2, h3⟩ hlt
    obtain ⟨hrd, hIn⟩ := hr κ' σp pre.length n y h2 hlt
    have e1 : (R.pt.zip (valP S.yp y).toArray).foldl (fun t (p, v) => t.setIfInBounds p v) a2.tmps = setTmps a3.tmps (R.ts.zip (valP S.yp y)) := by rw [setTmps_zip, hpt]
    rw [e1]
    refine round_range Kk G0 hst0 hLa hLb hg0' hrd (hhead _) (O1 := O1) (X := X) (U1 := U1) (ρ1 := ρ1) (mE := mE) (gE := gE) (a2 := a3) rfl rfl (fun k v => Iff.rfl) (fun b => Iff.rfl) S2r.size hX1 hB0 hKs' hKb' hKS' hl h3 (P := fun _ _ _ => False) (fun a' W1 hpa => ?_)
    obtain ⟨p1, p2, p3⟩ := hpa
    refine ⟨p1, p2, fun oo o' hoo hoc => ?_⟩
    refine wpIn_mono (p3 oo o' hoo hoc) ?_
    intro e a4 W3 hp3
    obtain ⟨c1, c2, c3, c4⟩ := hp3
    have hsn := rfin_snoc (y := y) h1
    rcases c4 with ⟨rfl, hgo⟩ | ⟨rfl, hgo⟩
    · exact ⟨c1, c2, (step κ' σp y).1, by rw [hsn]; exact Prod.ext rfl hgo, by simpa using hIn hgo, c3⟩
    · exact ⟨c1, rfl, (step κ' σp y).1, by rw [hsn]; exact Prod.ext rfl hgo, c3⟩
  · -- all have come
    rintro D ys W hD hys ⟨σp, h1, _, h3⟩ hdef
    subst hys
    obtain ⟨ρ', U', hf1, hf2⟩ := fin D W σp true hD h3 hdef h1
    have hmf : xf = .nx ∧ mf = mT := by
      rw [h1] at hp1
      cases hlvv : R.lv with
      | true => rw [hlvv] at hp1; simp only [cond, Out.pick, Option.some.injEq, Prod.mk.injEq] at hp1; exact ⟨hp1.2.1.symm, hp1.2.2.symm⟩
      | false => rw [hlvv] at hp1; simp only [cond, Out.pick, Option.some.injEq, Prod.mk.injEq] at hp1; exact ⟨hp1.2.1.symm, hp1.2.2.symm⟩
    obtain ⟨rfl, rfl⟩ := hmf
    exact hQ ρ' U' _ W hf1 hf2
  · -- a round has left
    rintro D c pre W hD ⟨rest, hrest⟩ ⟨rfl, σp, h1, h2⟩ hdef
    have hall' : rfin (step κ') σ0 (S.ys x) = (σp, false) := by rw [hrest]; exact rfin_stop h1
    cases hlvv : R.lv with
    | false =>
      have := rfin_true (fun σ y => hlv hlvv κ' σ y) (S.ys x) σ0
      rw [hall'] at this; cases this
    | true =>
      obtain ⟨ρ', U', hf1, hf2⟩ := fin D W σp false hD h2 hdef hall'
      rw [hall', hlvv] at hp1
      simp only [cond, Out.pick, Option.some.injEq, Prod.mk.injEq] at hp1
      obtain ⟨_, rfl, rfl⟩ := hp1
      exact wpIn_ret (hQ ρ' U' _ W hf1 hf2)
end Go.Sx

/- The symbolic executor: arguments that are scalars are what their contents say. -/
namespace Go.Sx
open Go
variable {C : Cfg} {w : World} {O : Nat → Prop}
theorem vr_val {k : Kind} (hk : scalarK k = true) {x : k.T C} {v : Value} (h : VR C w O k (mkE k x) v) : v = valT k x := by
  cases k with
  | b => obtain ⟨_, h2⟩ := h; cases h2; rfl
  | i k => obtain ⟨_, h2⟩ := h; cases h2; rfl
  | s => obtain ⟨_, h2⟩ := h; cases h2; rfl
  | ro t => cases hk
  | ow t => cases hk
theorem vrs_val : ∀ {ks : List Kind} {x : KsT C ks} {vs : List Value}, ks.all scalarK = true → VRs C w O ks (mkK ks x) vs → vs = valK ks x
  | [], _, _, _, h => by cases h; rfl
  | k :: ks, x, _, hk, h => by
    simp only [List.all_cons, Bool.and_eq_true] at hk
    cases h with
    | cons h1 h2 => rw [vr_val hk.1 h1, vrs_val hk.2 h2]; rfl
theorem ar_val : ∀ {ps : List PSpec} {x : PsT C ps} {args : List Value} {L : List Nat}, ps.all PSpec.scalar = true → AR C w O ps (mkP ps x) args L → args = valP ps x
  | [], _, _, _, _, h => by cases h; rfl
  | .v agg ks :: ps, x, _, _, hs, h => by
    simp only [List.all_cons, Bool.and_eq_true, PSpec.scalar] at hs
    cases h with
    | v h1 _ h3 h4 h5 =>
      rw [ar_val hs.2 h5]
      have := vrs_val hs.1.1 h1
      subst this
      cases agg with
      | true => rw [h3 rfl]; rfl
      | false => simp [valP, h4 rfl]
  | .p _ _ _ :: ps, _, _, _, hs, _ => by simp [PSpec.scalar] at hs
/-! The parts of a range over a function. -/
def rOps : Code → Array Oper | .seq (.region _ ops _) _ => ops | _ => #[]
def rPt : Code → Array Tmp | .seq _ (.block _ (.rangeFunc _ ps _ _)) => ps | _ => #[]
def rAs : Code → Code | .seq _ (.block _ (.rangeFunc _ _ a _)) => a | _ => .skip
def rBd : Code → Code | .seq _ (.block _ (.rangeFunc _ _ _ b)) => b | _ => .skip
end Go.Sx

/- The symbolic executor: the arguments of a row, as contents; a contract as what a row asks of a call. -/
namespace Go.Sx
open Go Go.RowKit
section
variable {H : Type} {enc : TypeId × Value → H} {P : Program} {w : World} {base : Nat} {spare : Nat → Bool} {held : Bool}
/-- A scalar's value. -/
def entV {R : Nat → Type} : Ent R → Value
  | .b v => .bool v
  | .i k n => .int k n
  | .s v => .string v
  | .ro _ _ => undef
/-- The kinds of a type's cells, one after another: whole numbers and bools. -/
def flatFs (P : Program) (F : TypeId → Option (List Kind)) : Nat → List Field → Option (List Kind)
  | _, [] => some []
  | o, f :: fs => bif Nat.beq f.offset o then (match F f.type, flatFs P F (o + P.cellsOf f.type) fs with | some a, some b => bif Nat.beq a.length (P.cellsOf f.type) then some (a ++ b) else none | _, _ => none) else none
def flatK (P : Program) : Nat → TypeId → Option (List Kind)
  | 0, _ => none
  | n + 1, t => match P.underlying t with
    | some (.int k) => some [.i k]
    | some .bool => some [.b]
    | some (.struct fs) => (match flatFs P (flatK P n) 0 fs.toList with | some ks => bif Nat.beq ks.length (P.cellsOf t) then some ks else none | none => none)
    | _ => none
theorem flatFs_ok {R : Nat → Type} {F : TypeId → Option (List Kind)} {cs : List Value} (hF : ∀ t ks, F t = some ks → ∀ n cs x, DataW.trod enc P w base spare held n t cs = some x → ∃ es : List (Ent R), es.map Ent.kind = ks ∧ cs = es.map entV) :
    ∀ (fs : List Field) (o : Nat) (ks : List Kind), flatFs P F o fs = some ks → o + ks.length = cs.length → (∀ f ∈ fs, ∃ n x, DataW.trod enc P w base spare held n f.type ((cs.drop f.offset).take (P.cellsOf f.type)) = some x) →
      ∃ es : List (Ent R), es.map Ent.kind = ks ∧ cs.drop o = es.map entV
  | [], o, ks, h, hl, _ => by
    simp only [flatFs, Option.some.injEq] at h
    subst h
    refine ⟨[], rfl, ?_⟩
    simp only [List.length_nil] at hl
    exact List.drop_eq_nil_of_le (by omega)
  | f :: fs, o, ks, h, hl, hf => by
    simp only [flatFs, cbeq] at h
    split at h
    · rename_i ho
      split at h
      · rename_i a b ha hb
        split at h
        · rename_i hal
          simp only [Option.some.injEq] at h
          subst h
          obtain ⟨n, x, hx⟩ := hf f (List.mem_cons_self ..)
          obtain ⟨e1, k1, c1⟩ := hF _ _ ha _ _ _ hx
          rw [ho, ← hal] at c1
          rw [← hal] at hb
          rw [List.length_append] at hl
          obtain ⟨e2, k2, c2⟩ := flatFs_ok hF fs _ _ hb (by omega) (fun g hg => hf g (List.mem_cons_of_mem _ hg))
          refine ⟨e1 ++ e2, by rw [List.map_append, k1, k2], ?_⟩
          rw [List.map_append, ← c1, ← c2, ← List.drop_drop, List.take_append_drop]
        · cases h
      · cases h
    · cases h
theorem flatK_ok {R : Nat → Type} : ∀ (m : Nat) (t : TypeId) (ks : List Kind), flatK P m t = some ks → ∀ n cs x, DataW.trod enc P w base spare held n t cs = some x → ∃ es : List (Ent R), es.map Ent.kind = ks ∧ cs = es.map entV
  | 0, _, _, h, _, _, _, _ => by cases h
  | m + 1, t, ks, h, n, cs, x, hx => by
    simp only [flatK] at h
    split at h
    · rename_i k hu
      simp only [Option.some.injEq] at h
      subst h
      obtain ⟨v, hc, _⟩ := DataW.trod_int hu hx
      exact ⟨[.i k v], rfl, hc⟩
    · rename_i hu
      simp only [Option.some.injEq] at h
      subst h
      obtain ⟨v, hc, _⟩ := DataW.trod_bool hu hx
      exact ⟨[.b v], rfl, hc⟩
    · rename_i fs hu
      split at h
      · rename_i ks' hk
        simp only [cbeq] at h
        split at h
        · rename_i hl
          simp only [Option.some.injEq] at h
          subst h
          obtain ⟨ys, n', _, _, hlen, hyl, hf⟩ := DataW.trod_struct hu hx
          have := flatFs_ok (R := R) (cs := cs) (flatK_ok m) fs.toList 0 ks' hk (by omega) (fun f hf' => by
            obtain ⟨j, hj⟩ := List.getElem?_of_mem hf'
            have h1 := hf j f (by simpa using hj)
            have hjl : j < ys.length := by
              have := (List.getElem?_eq_some_iff.mp hj).1
              simp at this
              omega
            rw [List.getElem?_eq_getElem hjl] at h1
            exact ⟨_, _, h1⟩)
          simpa using this
        · cases h
      · cases h
    · cases h
theorem exists_list {α : Type} {Q : Nat → α → Prop} : ∀ (n : Nat), (∀ i, i < n → ∃ x, Q i x) → ∃ xs : List α, xs.length = n ∧ ∀ i x, xs[i]? = some x → Q i x
  | 0, _ => ⟨[], rfl, fun i x h => by simp at h⟩
  | n + 1, h => by
    obtain ⟨xs, hl, hx⟩ := exists_list n (fun i hi => h i (by omega))
    obtain ⟨y, hy⟩ := h n (by omega)
    refine ⟨xs ++ [y], by simp [hl], fun i x hi => ?_⟩
    by_cases hin : i < n
    · rw [List.getElem?_append_left (by omega)] at hi
      exact hx i x hi
    · have hlt := (List.getElem?_eq_some_iff.mp hi).1
      simp only [List.length_append, List.length_cons, List.length_nil] at hlt
      obtain rfl : i = n := by omega
      rw [List.getElem?_append_right (by omega), hl, Nat.sub_self] at hi
      simp only [List.getElem?_cons_zero, Option.some.injEq] at hi
      subst hi
      exact hy
theorem cell_lt {a : Addr} {v : Value} (h : w.cell? a = some v) : a.block < w.heap.size := by
  unfold World.cell? at h
  split at h
  · rename_i hb; exact (Array.getElem?_eq_some_iff.1 hb).1
  · cases h
theorem rel_ent {C : Cfg} {O : Nat → Prop} {e : Ent C.R} (h : scalarK e.kind = true) : Rel C w O e (entV e) := by
  cases e with
  | b v => exact .b v
  | i k n => exact .i k n
  | s v => exact .s v
  | ro t xs => cases h
/-- A slice that came in, of elements of scalars: a list of contents. -/
theorem list_arg {C : Cfg} (K : C.Ok) {O : Nat → Prop} {T el : TypeId} {t n fuel : Nat} {v : Value} {x : DataW H × List MemPlace} (hu : P.underlying T = some (.slice el)) (hk : flatK P n el = some (C.kinds t)) (hC : P.cellsOf el = (C.kinds t).length)
    (hs : (C.kinds t).all scalarK = true) (hpos : 0 < (C.kinds t).length) (hO : ∀ b, ¬ O b) (h : DataW.trod enc P w base spare held fuel T [v] = some x) :
    ∃ xs : List (C.R t), Rel C w O (.ro t xs) v ∧ ((v = .slice none 0 0 ∧ xs = []) ∨ ∃ D S, x.1 = .slice D S ∧ D.length = xs.length) := by
  rcases Go.Deep.open_slice hu h with ⟨h1, rfl⟩ | ⟨a, len, cap, m, k, D, Pl, h1, _, hl, _, hm, rfl, hi⟩
  · simp only [List.cons.injEq, and_true] at h1
    subst h1
    exact ⟨[], .nil t none 0, .inl ⟨rfl, rfl⟩⟩
  · simp only [List.cons.injEq, and_true] at h1
    subst h1
    have hle : len ≤ m := by rw [hm]; split <;> omega
    obtain ⟨xs, hxl, hx⟩ := exists_list (α := C.R t) (Q := fun i x => ∀ j e, (C.enc t x)[j]? = some e → w.cell? (a.add (i * (C.kinds t).length + j)) = some (entV e)) len (fun i hil => by
      obtain ⟨cs', hc, ht⟩ := hi i (by omega)
      obtain ⟨es, hek, hev⟩ := flatK_ok (R := C.R) n el _ hk _ _ _ ht
      obtain ⟨_, hcl, hat⟩ := World.cells?_some hc
      refine ⟨C.dec t es, fun j e hj => ?_⟩
      rw [K.encD t es hek] at hj
      have hjl : j < es.length := (List.getElem?_eq_some_iff.mp hj).1
      have hel : es.length = (C.kinds t).length := by rw [← hek, List.length_map]
      have h2 := hat j (by omega)
      rw [hev, List.getElem?_map, hj, hC] at h2
      have ea : (a.add (i * (C.kinds t).length)).add j = a.add (i * (C.kinds t).length + j) := Go.Deep.add_add ..
      rw [ea] at h2
      exact h2)
    have hek : ∀ (x : C.R t) (j : Nat) (e : Ent C.R), (C.enc t x)[j]? = some e → scalarK e.kind = true := fun x j e hj => by
      have h2 : ((C.enc t x).map Ent.kind)[j]? = some e.kind := by rw [List.getElem?_map, hj]; rfl
      rw [K.encK] at h2
      exact List.all_eq_true.mp hs _ (List.mem_of_getElem? h2)
    have hD : ∃ D' S', ((DataW.slice ((List.range len).map D) ((List.range (m - len)).map fun j => D (len + j)), MemPlace.row a (m * P.cellsOf el) ++ (List.range m).flatMap Pl) : DataW H × List MemPlace).1 = .slice D' S' ∧ D'.length = xs.length := ⟨_, _, rfl, by simp [hxl]⟩
    by_cases h0 : len = 0
    · subst h0
      obtain rfl : xs = [] := List.eq_nil_of_length_eq_zero hxl
      exact ⟨[], .nil t (some a) cap, .inr hD⟩
    · have hne : xs ≠ [] := fun h => by subst h; exact h0 (by simpa using hxl.symm)
      have hx0 : xs[0]? = some (xs[0]'(by omega)) := List.getElem?_eq_getElem (by omega)
      have hl0 : (C.enc t (xs[0]'(by omega))).length = (C.kinds t).length := by rw [← K.encK t (xs[0]'(by omega)), List.length_map]
      have he0 : (C.enc t (xs[0]'(by omega)))[0]? = some ((C.enc t (xs[0]'(by omega)))[0]'(by omega)) := List.getElem?_eq_getElem (by omega)
      have c0 := hx 0 _ hx0 0 _ he0
      have hspot : a.spot = none := by simpa [Addr.add] using World.cell?_spot c0
      have hg : a.block < w.heap.size := by simpa [Addr.add] using cell_lt c0
      obtain ⟨b, off, spot⟩ := a
      simp only at hspot
      subst hspot
      refine ⟨xs, ?_, .inr hD⟩
      rw [← hxl]
      refine .ro t xs b off cap (fun i j => match xs[i]? with | some x => (match (C.enc t x)[j]? with | some e => entV e | none => undef) | none => undef) hne (by omega) (hO b) hg ?_ ?_
      · intro i x hi' j e hj
        have := hx i x hi' j e hj
        simp only [hi', hj]
        have ea : ∀ k, (Addr.mk b off none).add k = ⟨b, off + k, none⟩ := fun k => by
          unfold Addr.add
          by_cases hk : k = 0 <;> simp [hk]
        rw [ea] at this
        exact this
      · intro i x hi' j e hj
        simp only [hi', hj]
        exact rel_ent (hek x j e hj)
end
section
variable {C : Cfg} {w : World} {O : Nat → Prop}
theorem ar_consI {ps : List PSpec} {ess : List (List (Ent C.R))} {args : List Value} {L : List Nat} (k : IntKind) (n : Int) (h : AR C w O ps ess args L) : AR C w O (.v false [.i k] :: ps) ([.i k n] :: ess) (.int k n :: args) L :=
  .v (.cons ⟨rfl, .i k n⟩ .nil) rfl (fun h => by cases h) (fun _ => rfl) h
theorem ar_consR {ps : List PSpec} {ess : List (List (Ent C.R))} {args : List Value} {L : List Nat} {t : Nat} {xs : List (C.R t)} {v : Value} (hr : Rel C w O (.ro t xs) v) (h : AR C w O ps ess args L) : AR C w O (.v false [.ro t] :: ps) ([.ro t xs] :: ess) (v :: args) L :=
  .v (.cons ⟨rfl, hr⟩ .nil) rfl (fun h => by cases h) (fun _ => rfl) h
/-- A contract whose result is 'true', as a row asks. -/
theorem ok_calls {f : FuncId} {S : FSum C} (hok : FnOK C f S) {ess : List (List (Ent C.R))} {args : List Value} (hAR : AR C w (fun b => False ∨ b ∈ ([] : List Nat)) S.ps ess args []) (hpre : ∀ x ∈ S.pre ess, x = true) (hrs : S.rs = [.v false [.b]]) (hio : ioP S.ps = []) (hioA : ioA S.ps args = []) (hF : S.F ess = [[.b true]]) :
    Calls C.P f args.toArray w fun e w' => e = .returned (.bool true) ∧ RowKit.Below w.heap.size w w' := by
  refine (hok w (fun _ => False) ess args [] hAR .nil (fun b h => h.elim) hpre).mono ?_
  rintro e w' ⟨rvs, L', rfl, _, h2, _, _, ho, ht, hp, hs, hk⟩
  rw [hrs, hio, hioA, hF] at h2
  have h3 := ar_val (C := C) (ps := [.v false [.b]]) (x := ((true, ()), ())) (by rfl) h2
  rw [List.append_nil] at h3
  subst h3
  exact ⟨rfl, ho, ht, hp, hs, fun k hlt => hk k hlt (by simp)⟩
end
end Go.Sx
