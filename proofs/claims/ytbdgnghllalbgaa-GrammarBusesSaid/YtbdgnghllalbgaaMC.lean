/- 11 texts in one: the symbolic executor and the contracts of functions. -/
import Derived.LoopNIn
import Derived.RangeFuncNested
import Derived.Laws.StructEq
import Derived.Test.YtbdgnghllalbgaaMB
/- The symbolic executor: code. -/
namespace Go.Sx
open Go
variable {C : Cfg} {N : Nat} {Γ : Nat → Option (FSum C)} {L : Loops C}

def Out.pick : Out → Option (List Bool × Fin × Loc)
  | .leaf ob x m => some (ob, x, m)
  | .br c a b => bif c then a.pick else b.pick
  | .fail => none
def Fin.exit : Fin → Exit
  | .nx => .normal
  | .ex id => .exit id
  | .rt => .ret
theorem Fin.same_iff {x y : Fin} (h : Fin.same x y = true) : x = y := by
  cases x <;> cases y <;> simp [Fin.same] at h <;> first | rfl | (rw [h])

/-- From a state to a state: what the first says the second says. -/
structure Goes (C : Cfg) (N : Nat) (m : Loc) (g : Env C) (m' : Loc) (g' : Env C) : Prop where
  go : ∀ {w0 : World} {O0 : Frm} {X U : Nat → Prop} {ρ : Nat → Value} {a : Act} {w : World}, Sim w0 O0 X N U (stOf m g) ρ a w → Sim w0 O0 X N U (stOf m' g') ρ a w
theorem Goes.le {m : Loc} {g g' : Env C} (h : g.Le g') : Goes C N m g m g' := ⟨fun S => S.more h⟩
theorem Goes.trans {m m1 m2 : Loc} {g g1 g2 : Env C} (h : Goes C N m g m1 g1) (h' : Goes C N m1 g1 m2 g2) : Goes C N m g m2 g2 := ⟨fun S => h'.go (h.go S)⟩
theorem Goes.rfl' {m : Loc} {g : Env C} : Goes C N m g m g := ⟨fun S => S⟩

theorem mOb_all {c : Bool} {a b : List Bool} (h : ∀ x ∈ mOb c a b, x = true) : ∀ x ∈ (bif c then a else b), x = true := by
  intro x hx
  unfold mOb at h
  cases c with
  | true => exact h x (List.mem_append_left _ (List.mem_map.mpr ⟨x, hx, rfl⟩))
  | false => exact h x (List.mem_append_right _ (List.mem_map.mpr ⟨x, hx, rfl⟩))

theorem mOut_rep {c : Bool} {a b : Out} {g : Env C} : g.Le (mOut C c a b g).2 ∧ ∀ ob' x' m', (mOut C c a b g).1.pick = some (ob', x', m') → (∀ y ∈ ob', y = true) →
    ∃ ob m, (bif c then a else b).pick = some (ob, x', m) ∧ (∀ y ∈ ob, y = true) ∧ Goes C N m g m' (mOut C c a b g).2 := by
  have dflt : ∀ ob' x' m', (Out.br c a b).pick = some (ob', x', m') → (∀ y ∈ ob', y = true) → ∃ ob m, (bif c then a else b).pick = some (ob, x', m) ∧ (∀ y ∈ ob, y = true) ∧ Goes C N m g m' g := by
    intro ob' x' m' h hob
    refine ⟨ob', m', ?_, hob, .rfl'⟩
    simp only [Out.pick] at h
    cases c <;> exact h
  unfold mOut
  split
  · rename_i oa x m ob y m0
    cases hs : Fin.same x y with
    | false => exact ⟨.refl g, dflt⟩
    | true =>
      have hxy := Fin.same_iff hs
      subst hxy
      simp only [cond]
      split
      · rename_i m2 g2 hm
        obtain ⟨h1, h2⟩ := mLoc_sim (N := N) hm
        refine ⟨h1, fun ob' x' m' h hob => ?_⟩
        simp only [Out.pick, Option.some.injEq, Prod.mk.injEq] at h
        obtain ⟨rfl, rfl, rfl⟩ := h
        have ho := mOb_all hob
        cases c with
        | true => exact ⟨oa, m, rfl, ho, ⟨h2⟩⟩
        | false => exact ⟨ob, m0, rfl, ho, ⟨h2⟩⟩
      · exact ⟨.refl g, dflt⟩
  · exact ⟨.refl g, dflt⟩

theorem andOb_pick {o : List Bool} : ∀ {r : Out} {ob : List Bool} {x : Fin} {m : Loc}, (andOb o r).pick = some (ob, x, m) → ∃ ob1, r.pick = some (ob1, x, m) ∧ ob = o ++ ob1 := by
  intro r
  induction r with
  | leaf ob1 x1 m1 => intro ob x m h; simp only [andOb, Out.pick, Option.some.injEq, Prod.mk.injEq] at h; obtain ⟨rfl, rfl, rfl⟩ := h; exact ⟨ob1, rfl, rfl⟩
  | br c a b iha ihb =>
    intro ob x m h
    simp only [andOb, Out.pick] at h ⊢
    cases c with
    | true => exact iha h
    | false => exact ihb h
  | fail => intro ob x m h; simp [andOb, Out.pick] at h

theorem thenO_rep {f : Loc → Env C → Out × Env C} {h : Fin → Option Fin} (hf : ∀ (m : Loc) (g : Env C), g.Le (f m g).2) : ∀ (o : Out) (g : Env C), g.Le (thenO C f h o g).2 ∧
    ∀ ob' x' m', (thenO C f h o g).1.pick = some (ob', x', m') → (∀ y ∈ ob', y = true) → ∃ ob x m, o.pick = some (ob, x, m) ∧ (∀ y ∈ ob, y = true) ∧
      ((h x = some x' ∧ Goes C N m g m' (thenO C f h o g).2) ∨
       (h x = none ∧ ∃ g1 ob1 m1, g.Le g1 ∧ (f m g1).1.pick = some (ob1, x', m1) ∧ (∀ y ∈ ob1, y = true) ∧ Goes C N m1 (f m g1).2 m' (thenO C f h o g).2 ∧ (f m g1).2.n ≤ (thenO C f h o g).2.n)) := by
  intro o
  induction o with
  | leaf ob x m =>
    intro g
    simp only [thenO]
    cases hx : h x with
    | some y =>
      refine ⟨.refl g, fun ob' x' m' hp hob => ?_⟩
      simp only [Out.pick, Option.some.injEq, Prod.mk.injEq] at hp
      obtain ⟨rfl, rfl, rfl⟩ := hp
      exact ⟨ob, x, m, rfl, hob, .inl ⟨hx, .rfl'⟩⟩
    | none =>
      refine ⟨hf m g, fun ob' x' m' hp hob => ?_⟩
      obtain ⟨ob1, h1, rfl⟩ := andOb_pick hp
      exact ⟨ob, x, m, rfl, fun y hy => hob y (List.mem_append_left _ hy), .inr ⟨hx, g, ob1, m', .refl g, h1, fun y hy => hob y (List.mem_append_right _ hy), .rfl', Nat.le_refl _⟩⟩
  | br c a b iha ihb =>
    intro g
    simp only [thenO]
    obtain ⟨a1, a2⟩ := iha g
    obtain ⟨b1, b2⟩ := ihb (thenO C f h a g).2
    obtain ⟨m1, m2⟩ := mOut_rep (N := N) (c := c) (a := (thenO C f h a g).1) (b := (thenO C f h b (thenO C f h a g).2).1) (g := (thenO C f h b (thenO C f h a g).2).2)
    refine ⟨(a1.trans b1).trans m1, fun ob' x' m' hp hob => ?_⟩
    obtain ⟨ob0, m0, p1, p2, p3⟩ := m2 ob' x' m' hp hob
    cases c with
    | true =>
      obtain ⟨ob, x, m, q1, q2, q3⟩ := a2 ob0 x' m0 p1 p2
      refine ⟨ob, x, m, q1, q2, ?_⟩
      rcases q3 with ⟨q3, q4⟩ | ⟨q3, g1, ob1, m1', q4, q5, q6, q7, q8⟩
      · exact .inl ⟨q3, (q4.trans (.le b1)).trans p3⟩
      · exact .inr ⟨q3, g1, ob1, m1', q4, q5, q6, (q7.trans (.le b1)).trans p3, Nat.le_trans q8 (Nat.le_trans b1.n m1.n)⟩
    | false =>
      obtain ⟨ob, x, m, q1, q2, q3⟩ := b2 ob0 x' m0 p1 p2
      refine ⟨ob, x, m, q1, q2, ?_⟩
      rcases q3 with ⟨q3, q4⟩ | ⟨q3, g1, ob1, m1', q4, q5, q6, q7, q8⟩
      · exact .inl ⟨q3, ((Goes.le a1).trans q4).trans p3⟩
      · exact .inr ⟨q3, g1, ob1, m1', a1.trans q4, q5, q6, q7.trans p3, Nat.le_trans q8 m1.n⟩
  | fail =>
    intro g
    exact ⟨.refl g, fun ob' x' m' hp => by simp [thenO, Out.pick] at hp⟩

/-- From the base of a function's call to a later one (behind a range over a function): what lies there is as it was; the marks that stand among the deferred calls. -/
structure Base (w0 : World) (O0 : Frm) (w1 : World) (O1 : Frm) : Prop where
  os : w1.os = w0.os
  tape : w1.tape = w0.tape
  output : w1.output = w0.output
  hsize : w0.heap.size ≤ w1.heap.size
  fx : O1.fx = O0.fx
  kept : ∀ b, b < w0.heap.size → ¬ O0.o b → w1.heap[b]? = w0.heap[b]? ∧ ¬ O1.o b
  marks : ∃ Ds : List Nat, O1.ds = Ds.map (fun D => { target := .collected D, args := #[] }) ++ O0.ds ∧ Ds.Nodup ∧
    ∀ D ∈ Ds, w0.heap.size ≤ D ∧ D < w1.heap.size ∧ ¬ O1.o D ∧ w1.heap[D]? = some (.deferred (some []))
theorem Base.refl (w0 : World) (O0 : Frm) : Base w0 O0 w0 O0 := ⟨rfl, rfl, rfl, Nat.le_refl _, rfl, fun _ _ h => ⟨rfl, h⟩, [], rfl, List.nodup_nil, fun _ h => by cases h⟩
/-- A state, over some base. -/
def SimM (w0 : World) (O0 : Frm) (X : Nat → Prop) (N : Nat) (U : Nat → Prop) (m : St C) (ρ : Nat → Value) (a : Act) (w : World) : Prop := ∃ w1 O1, Base w0 O0 w1 O1 ∧ Sim w1 O1 X N U m ρ a w
section simM
variable {w0 : World} {O0 : Frm} {X U U' : Nat → Prop} {ρ ρ' : Nat → Value} {a a' : Act} {w w' : World} {m m' : Loc} {g g' : Env C}
theorem Sim.toM {m : St C} (S : Sim w0 O0 X N U m ρ a w) : SimM w0 O0 X N U m ρ a w := ⟨w0, O0, .refl _ _, S⟩
theorem SimM.more (h : g.Le g') (S : SimM w0 O0 X N U (stOf m g) ρ a w) : SimM w0 O0 X N U (stOf m g') ρ a w := by
  obtain ⟨w1, O1, hb, S⟩ := S
  exact ⟨w1, O1, hb, S.more h⟩
theorem Goes.goM (h : Goes C N m g m' g') (S : SimM w0 O0 X N U (stOf m g) ρ a w) : SimM w0 O0 X N U (stOf m' g') ρ a w := by
  obtain ⟨w1, O1, hb, S⟩ := S
  exact ⟨w1, O1, hb, h.go S⟩
end simM

/-- What the executor says of a piece of code holds. -/
def OutK (C : Cfg) (N : Nat) (ro : Option Nat) (c : Code) (m : Loc) (g : Env C) (r : Out × Env C) : Prop :=
  g.Le r.2 ∧ ∀ ob x mf, r.1.pick = some (ob, x, mf) → (∀ b ∈ ob, b = true) → ∀ {w0 : World} {O0 : Frm} {X U : Nat → Prop} {ρ : Nat → Value} {a : Act} {w : World} {Q : Exit → Act → World → Prop} (kk : Nat),
    SimM w0 O0 X N U (stOf m g) ρ a w → Below U g.n → (∀ ρ' U' a' w', SimM w0 O0 X N U' (stOf mf r.2) ρ' a' w' → Below U' r.2.n → Q x.exit a' w') → c.wpIn (RF ro) kk C.P Q a w
abbrev OutOK (C : Cfg) (N : Nat) (c : Code) (m : Loc) (g : Env C) (r : Out × Env C) : Prop := OutK C N none c m g r

/-- The loops in a piece of code are what the table says. -/
def LoopsK (C : Cfg) (N : Nat) (ro : Option Nat) (L : Loops C) : Code → Prop
  | .seq a b => match rangeSeq a b with
    | some id => ∀ F, L id = some F → ∀ m g r, F m g = some r → OutK C N ro (.seq a b) m g r
    | none => LoopsK C N ro L a ∧ LoopsK C N ro L b
  | .cond _ a b => LoopsK C N ro L a ∧ LoopsK C N ro L b
  | .block id (.loop body) => match L id with
    | some F => ∀ m g r, F m g = some r → OutK C N ro (.block id (.loop body)) m g r
    | none => LoopsK C N ro L body
  | .block _ a => LoopsK C N ro L a
  | .loop body => LoopsK C N ro L body
  | _ => True

abbrev LoopsOK (C : Cfg) (N : Nat) (L : Loops C) (c : Code) : Prop := LoopsK C N none L c

theorem below_le {U : Nat → Prop} {n k : Nat} (h : Below U n) (hk : n ≤ k) : Below U k := fun j hj => Nat.lt_of_lt_of_le (h j hj) hk

/-- One way of two. -/
theorem cond_ok {ro : Option Nat} {c : Operand} {x y : Code} {m : Loc} {g : Env C} {t : Bool} (hc : ∀ {w0 : World} {O0 : Frm} {X U : Nat → Prop} {ρ : Nat → Value} {a : Act} {w : World}, Sim w0 O0 X N U (stOf m g) ρ a w → a.eval c = .bool t)
    {r : Out × Env C} (h : OutK C N ro (if t then x else y) m g r) : OutK C N ro (.cond c x y) m g r :=
  ⟨h.1, fun ob x mf hp hob _ _ _ _ _ _ _ _ kk S hB hQ => by
    obtain ⟨w1, O1, hb, S1⟩ := S
    exact wpIn_cond (hc S1) (h.2 ob x mf hp hob kk ⟨w1, O1, hb, S1⟩ hB hQ)⟩

/-- What is shown of a piece of code: of a loop that is unrolled its rounds. -/
def wpR (ro : Option Nat) (kk : Nat) (P : Program) (k : Nat) (c : Code) (Q : Exit → Act → World → Prop) (a : Act) (w : World) : Prop :=
  match c with
  | .loop body => Code.roundsIn (RF ro) kk P body Q k a w
  | c => c.wpIn (RF ro) kk P Q a w
theorem wp_of_R {ro : Option Nat} {kk : Nat} {P : Program} {k : Nat} {c : Code} {Q : Exit → Act → World → Prop} {a : Act} {w : World} (h : wpR ro kk P k c Q a w) : c.wpIn (RF ro) kk P Q a w := by
  cases c <;> first | exact wpIn_loop_rounds k h | exact h
def OutR (C : Cfg) (N : Nat) (ro : Option Nat) (k : Nat) (c : Code) (m : Loc) (g : Env C) (r : Out × Env C) : Prop :=
  g.Le r.2 ∧ ∀ ob x mf, r.1.pick = some (ob, x, mf) → (∀ b ∈ ob, b = true) → ∀ {w0 : World} {O0 : Frm} {X U : Nat → Prop} {ρ : Nat → Value} {a : Act} {w : World} {Q : Exit → Act → World → Prop} (kk : Nat),
    SimM w0 O0 X N U (stOf m g) ρ a w → Below U g.n → (∀ ρ' U' a' w', SimM w0 O0 X N U' (stOf mf r.2) ρ' a' w' → Below U' r.2.n → Q x.exit a' w') → wpR ro kk C.P k c Q a w
theorem OutR.ok {ro : Option Nat} {k : Nat} {c : Code} {m : Loc} {g : Env C} {r : Out × Env C} (h : OutR C N ro k c m g r) : OutK C N ro c m g r :=
  ⟨h.1, fun ob x mf hp hob _ _ _ _ _ _ _ _ kk S hB hQ => wp_of_R (h.2 ob x mf hp hob kk S hB hQ)⟩

theorem ev_okR (Kk : C.Ok) (G0 : GamOK C Γ) (ro : Option Nat) : ∀ (k : Nat) {c : Code} {m : Loc} {g : Env C} {r : Out × Env C}, ev C Γ L N k c m g = some r → LoopsK C N ro L c → OutR C N ro k c m g r := by
  intro k
  induction k with
  | zero => intro c m g r h; simp [ev] at h
  | succ k ihR =>
    have ih : ∀ {c : Code} {m : Loc} {g : Env C} {r : Out × Env C}, ev C Γ L N k c m g = some r → LoopsK C N ro L c → OutK C N ro c m g r := fun h hL => (ihR h hL).ok
    intro c m g r h hL
    cases c with
    | skip =>
      simp only [ev, Option.some.injEq] at h
      subst h
      refine ⟨.refl g, fun ob x mf hp hob _ _ _ U ρ a w Q kk S hB hQ => ?_⟩
      simp only [Out.pick, Option.some.injEq, Prod.mk.injEq] at hp
      obtain ⟨rfl, rfl, rfl⟩ := hp
      exact wpIn_skip (hQ ρ U a w S hB)
    | ret =>
      simp only [ev, Option.some.injEq] at h
      subst h
      refine ⟨.refl g, fun ob x mf hp hob _ _ _ U ρ a w Q kk S hB hQ => ?_⟩
      simp only [Out.pick, Option.some.injEq, Prod.mk.injEq] at hp
      obtain ⟨rfl, rfl, rfl⟩ := hp
      exact wpIn_ret (hQ ρ U a w S hB)
    | exit id =>
      simp only [ev, Option.some.injEq] at h
      subst h
      refine ⟨.refl g, fun ob x mf hp hob _ _ _ U ρ a w Q kk S hB hQ => ?_⟩
      simp only [Out.pick, Option.some.injEq, Prod.mk.injEq] at hp
      obtain ⟨rfl, rfl, rfl⟩ := hp
      exact wpIn_exit (hQ ρ U a w S hB)
    | region id ops draw =>
      simp only [ev] at h
      obtain ⟨hnd1, h⟩ := (bifE h).resolve_left (fun h => by cases h.2)
      have hnd0 : noDefer ops = true := by simpa using hnd1
      split at h
      · cases h
      · rename_i m' ob hr
        simp only [Option.some.injEq] at h
        subst h
        have hle : ∀ (id : Nat) x, g.e.get id = some x → m'.e.get id = some x := by
          have h1 : ∀ {l : List Oper} {n : Nat} {m m' : St C} {ob ob' : List Bool}, runOps C Γ N ops l n m ob = some (m', ob') → ∀ id x, m.e.get id = some x → m'.e.get id = some x := by
            intro l
            induction l with
            | nil => intro n m m' ob ob' h; simp only [runOps, Option.some.injEq, Prod.mk.injEq] at h; rw [h.1]; exact fun _ _ h => h
            | cons o l ih2 =>
              intro n m m' ob ob' h id x hx
              simp only [runOps] at h
              split at h
              · cases h
              · split at h
                · cases h
                · rename_i f _ m1 hm1
                  rcases bifE h with ⟨_, h⟩ | ⟨_, h⟩
                  · refine ih2 h id x ?_
                    unfold Eff.on at hm1
                    split at hm1
                    · cases hm1
                    · rename_i e he
                      simp only [Option.some.injEq] at hm1
                      subst hm1
                      exact (setE_get _ _ _ he).1 id x hx
                  · cases h
          have h2 : ∀ {l : List Oper} {n i : Nat} {ms : List Mark} {m m' : St C} {ob ob' : List Bool}, runAny C Γ N ops l n i ms m ob = some (m', ob') → ∀ id x, m.e.get id = some x → m'.e.get id = some x := by
            intro l
            induction l with
            | nil => intro n i ms m m' ob ob' h; simp only [runAny, Option.some.injEq, Prod.mk.injEq] at h; rw [h.1]; exact fun _ _ h => h
            | cons o l ih2 =>
              intro n i ms m m' ob ob' h id x hx
              simp only [runAny] at h
              split at h
              · cases h
              · split at h
                · cases h
                · rename_i f _ m1 hm1
                  rcases bifE h with ⟨_, h⟩ | ⟨_, h⟩
                  · refine ih2 h id x ?_
                    unfold Eff.on at hm1
                    split at hm1
                    · cases hm1
                    · rename_i e he
                      simp only [Option.some.injEq] at hm1
                      subst hm1
                      exact (setE_get _ _ _ he).1 id x hx
                  · cases h
          cases draw with
          | true => exact h2 hr
          | false => exact h1 hr
        refine ⟨⟨hle, Nat.le_add_right _ _⟩, fun ob' x mf hp hob _ _ _ U ρ a w Q kk S hB hQ => ?_⟩
        simp only [Out.pick, Option.some.injEq, Prod.mk.injEq] at hp
        obtain ⟨rfl, rfl, rfl⟩ := hp
        obtain ⟨w1, O1, hb, S1⟩ := S
        exact region_wp Kk G0 hnd0 hr hob S1 hB (fun ρ' U' a' w' S' hB' => hQ ρ' U' a' w' ⟨w1, O1, hb, S'⟩ hB')
    | seq x y =>
      simp only [ev] at h
      simp only [LoopsK] at hL
      cases hrs : rangeSeq x y with
      | some id =>
        rw [hrs] at h hL
        simp only at h hL
        split at h
        · rename_i F hF
          exact hL F hF m g r h
        · cases h
      | none =>
      rw [hrs] at h hL
      simp only at h hL
      split at h
      · cases h
      · rename_i o g1 hx
        simp only [Option.some.injEq] at h
        subst h
        have hX := ih hx hL.1
        have hle : ∀ (m : Loc) (g : Env C), g.Le ((ev C Γ L N k y m g).getD (.fail, g)).2 := by
          intro m g
          cases hy : ev C Γ L N k y m g with
          | none => exact .refl g
          | some r => exact (ih hy hL.2).1
        obtain ⟨t1, t2⟩ := thenO_rep (N := N) (h := fun | .nx => none | x => some x) hle o g1
        refine ⟨hX.1.trans t1, fun ob x' mf hp hob w0 O0 X U ρ a w Q kk S hB hQ => ?_⟩
        obtain ⟨ob0, x0, m0, p1, p2, p3⟩ := t2 ob x' mf hp hob
        refine wpIn_seq (hX.2 ob0 x0 m0 p1 p2 kk S hB (fun ρ' U' a' w' S' hB' => ?_))
        rcases p3 with ⟨p3, p4⟩ | ⟨p3, g2, ob1, m1, p4, p5, p6, p7, p8⟩
        · have hx0 : x0 = x' := by cases x0 <;> simp at p3 <;> exact p3
          subst hx0
          have hend := hQ ρ' U' a' w' (p4.goM S') (below_le hB' t1.n)
          cases x0 with
          | nx => simp at p3
          | ex id => exact hend
          | rt => exact hend
        · have hx0 : x0 = .nx := by cases x0 <;> simp at p3 <;> rfl
          subst hx0
          show y.wpIn (RF ro) kk C.P Q a' w'
          cases hy : ev C Γ L N k y m0 g2 with
          | none => rw [hy] at p5; simp [Out.pick] at p5
          | some r =>
            rw [hy] at p5 p7 p8
            simp only [Option.getD_some] at p5 p7 p8
            refine (ih hy hL.2).2 ob1 x' m1 p5 p6 kk (S'.more p4) (below_le hB' p4.n) (fun ρ2 U2 a2 w2 S2 hB2 => ?_)
            exact hQ ρ2 U2 a2 w2 (p7.goM S2) (below_le hB2 p8)
    | cond c x y =>
      simp only [ev] at h
      split at h
      · -- true
        rename_i hc
        refine cond_ok (t := true) (fun {_ _ _ _ _ a _} S => ?_) (ih h hL.1)
        split at hc
        · rename_i t
          split at hc
          · rename_i cc hs
            simp only [Option.some.injEq] at hc
            obtain ⟨v, h1, h2⟩ := S.slots t _ hs (fun p hp => by cases hp)
            rw [hc] at h2
            show a.tmps.getD t undef = _
            rw [Array.getD_eq_getD_getElem?, h1]
            exact h2
          · cases hc
        · rename_i b
          simp only [Option.some.injEq, Cell.k.injEq, Lit.b.injEq] at hc
          rw [hc]; rfl
        · cases hc
      · rename_i hc
        refine cond_ok (t := false) (fun {_ _ _ _ _ a _} S => ?_) (ih h hL.2)
        split at hc
        · rename_i t
          split at hc
          · rename_i cc hs
            simp only [Option.some.injEq] at hc
            obtain ⟨v, h1, h2⟩ := S.slots t _ hs (fun p hp => by cases hp)
            rw [hc] at h2
            show a.tmps.getD t undef = _
            rw [Array.getD_eq_getD_getElem?, h1]
            exact h2
          · cases hc
        · rename_i b
          simp only [Option.some.injEq, Cell.k.injEq, Lit.b.injEq] at hc
          rw [hc]; rfl
        · cases hc
      · rename_i id hc
        split at h
        · rename_i v hv
          split at h
          · cases h
          · rename_i x1 g1 h1
            split at h
            · cases h
            · rename_i y1 g2 h2
              simp only [Option.some.injEq] at h
              subst h
              have hX := ih h1 hL.1
              have hY := ih h2 hL.2
              obtain ⟨r1, r2⟩ := mOut_rep (N := N) (c := v) (a := x1) (b := y1) (g := g2)
              have hev : ∀ {w0 : World} {O0 : Frm} {X U : Nat → Prop} {ρ : Nat → Value} {a : Act} {w : World}, Sim w0 O0 X N U (stOf m g) ρ a w → a.eval c = .bool v := by
                intro w0 O0 X U ρ a w S
                split at hc
                · rename_i t
                  split at hc
                  · rename_i cc hs
                    simp only [Option.some.injEq] at hc
                    obtain ⟨u, q1, q2⟩ := S.slots t _ hs (fun p hp => by cases hp)
                    rw [hc] at q2
                    show a.tmps.getD t undef = _
                    rw [Array.getD_eq_getD_getElem?, q1]
                    exact boolCell (U := U) (ρ := ρ) hv q2
                  · cases hc
                · simp at hc
                · cases hc
              refine ⟨(hX.1.trans hY.1).trans r1, fun ob x' mf hp hob w0 O0 X U ρ a w Q kk S hB hQ => ?_⟩
              obtain ⟨ob0, m0, p1, p2, p3⟩ := r2 ob x' mf hp hob
              refine wpIn_cond (by obtain ⟨_, _, _, S1⟩ := S; exact hev S1) ?_
              cases v with
              | true =>
                exact hX.2 ob0 x' m0 p1 p2 kk S hB (fun ρ' U' a' w' S' hB' => hQ ρ' U' a' w' (p3.goM (S'.more hY.1)) (below_le hB' (Nat.le_trans hY.1.n r1.n)))
              | false =>
                exact hY.2 ob0 x' m0 p1 p2 kk (S.more hX.1) (below_le hB hX.1.n) (fun ρ' U' a' w' S' hB' => hQ ρ' U' a' w' (p3.goM S') (below_le hB' r1.n))
        · cases h
      · cases h
    | block id b =>
      have gen : ∀ {o : Out} {g1 : Env C}, OutK C N ro b m g (o, g1) → r = thenO C (fun m g => (.leaf [] .nx m, g)) (fun | .ex i => bif Nat.beq i id then none else some (.ex i) | x => some x) o g1 → OutK C N ro (.block id b) m g r := by
        intro o g1 hX hr
        subst hr
        obtain ⟨t1, t2⟩ := thenO_rep (N := N) (f := fun m g => (.leaf [] .nx m, g)) (h := fun | .ex i => bif Nat.beq i id then none else some (.ex i) | x => some x) (fun m g => .refl g) o g1
        refine ⟨hX.1.trans t1, fun ob x' mf hp hob w0 O0 X U ρ a w Q kk S hB hQ => ?_⟩
        obtain ⟨ob0, x0, m0, p1, p2, p3⟩ := t2 ob x' mf hp hob
        refine wpIn_block (hX.2 ob0 x0 m0 p1 p2 kk S hB (fun ρ' U' a' w' S' hB' => ?_))
        rcases p3 with ⟨p3, p4⟩ | ⟨p3, g2, ob1, m1, p4, p5, p6, p7, p8⟩
        · have hend := hQ ρ' U' a' w' (p4.goM S') (below_le hB' t1.n)
          cases x0 with
          | nx => simp only [Option.some.injEq] at p3; subst p3; exact hend
          | ex i =>
            simp only [cbeq] at p3
            split at p3
            · cases p3
            · rename_i hne
              simp only [Option.some.injEq] at p3
              subst p3
              show if i = id then Q .normal a' w' else Q (.exit i) a' w'
              rw [if_neg hne]; exact hend
          | rt => simp only [Option.some.injEq] at p3; subst p3; exact hend
        · cases x0 with
          | nx => simp at p3
          | rt => simp at p3
          | ex i =>
            simp only [cbeq] at p3
            split at p3
            · rename_i he
              show if i = id then Q .normal a' w' else Q (.exit i) a' w'
              rw [if_pos he]
              simp only [Out.pick, Option.some.injEq, Prod.mk.injEq] at p5
              obtain ⟨rfl, rfl, rfl⟩ := p5
              exact hQ ρ' U' a' w' (p7.goM (S'.more p4)) (below_le hB' (Nat.le_trans p4.n p8))
            · cases p3
      cases b with
      | loop body =>
        simp only [ev] at h
        simp only [LoopsK] at hL
        split at h
        · rename_i F hF
          rw [hF] at hL
          exact hL m g r h
        · rename_i hF
          rw [hF] at hL
          split at h
          · cases h
          · rename_i o g1 hx
            simp only [Option.some.injEq] at h
            exact gen (ih hx hL) h.symm
      | _ =>
        simp only [ev] at h
        split at h
        · cases h
        · rename_i o g1 hx
          simp only [Option.some.injEq] at h
          exact gen (ih hx hL) h.symm
    | loop x =>
      simp only [ev] at h
      split at h
      · cases h
      · rename_i o g1 hx
        simp only [Option.some.injEq] at h
        subst h
        have hX := ih hx hL
        have hL' : LoopsK C N ro L (.loop x) := hL
        have hle : ∀ (m : Loc) (g : Env C), g.Le ((ev C Γ L N k (.loop x) m g).getD (.fail, g)).2 := by
          intro m g
          cases hy : ev C Γ L N k (.loop x) m g with
          | none => exact .refl g
          | some r => exact (ih hy hL').1
        obtain ⟨t1, t2⟩ := thenO_rep (N := N) (h := fun | .nx => none | x => some x) hle o g1
        refine ⟨hX.1.trans t1, fun ob x' mf hp hob w0 O0 X U ρ a w Q kk S hB hQ => ?_⟩
        obtain ⟨ob0, x0, m0, p1, p2, p3⟩ := t2 ob x' mf hp hob
        show Code.roundsIn (RF ro) kk C.P x Q (k + 1) a w
        rw [roundsIn_succ]
        refine hX.2 ob0 x0 m0 p1 p2 kk S hB (fun ρ' U' a' w' S' hB' => ?_)
        rcases p3 with ⟨p3, p4⟩ | ⟨p3, g2, ob1, m1, p4, p5, p6, p7, p8⟩
        · have hx0 : x0 = x' := by cases x0 <;> simp at p3 <;> exact p3
          subst hx0
          have hend := hQ ρ' U' a' w' (p4.goM S') (below_le hB' t1.n)
          cases x0 with
          | nx => simp at p3
          | ex id => exact hend
          | rt => exact hend
        · have hx0 : x0 = .nx := by cases x0 <;> simp at p3 <;> rfl
          subst hx0
          show Code.roundsIn (RF ro) kk C.P x Q k a' w'
          cases hy : ev C Γ L N k (.loop x) m0 g2 with
          | none => rw [hy] at p5; simp [Out.pick] at p5
          | some r =>
            rw [hy] at p5 p7 p8
            simp only [Option.getD_some] at p5 p7 p8
            refine (ihR hy hL').2 ob1 x' m1 p5 p6 kk (S'.more p4) (below_le hB' p4.n) (fun ρ2 U2 a2 w2 S2 hB2 => ?_)
            exact hQ ρ2 U2 a2 w2 (p7.goM S2) (below_le hB2 p8)
    | _ => simp [ev] at h
theorem ev_ok {ro : Option Nat} (Kk : C.Ok) (G0 : GamOK C Γ) (k : Nat) {c : Code} {m : Loc} {g : Env C} {r : Out × Env C} (h : ev C Γ L N k c m g = some r) (hL : LoopsK C N ro L c) : OutK C N ro c m g r := (ev_okR Kk G0 ro k h hL).ok
end Go.Sx

namespace Go.Sx
open Go
variable {C : Cfg} {N : Nat}
section turn
variable {w w' : World} {O : Nat → Prop} {row : Option Nat}
/-- Of a turn of a block that holds no cells. -/
def NoCells (w : World) (row : Option Nat) : Prop := ∀ r, row = some r → ∃ o : Obj, w.heap[r]? = some o ∧ o.isCells = false
theorem turn_cells (hg : w.grownBy w' row) (hr : NoCells w row) {b : Nat} {o : Obj} (ho : w.heap[b]? = some o) (hc : o.isCells = true) : w'.heap[b]? = w.heap[b]? := grownBy_keeps_cells hg hr ho hc
theorem Rel.turn (hg : w.grownBy w' row) (hr : NoCells w row) {e : Ent C.R} {v : Value} (r : Rel C w O e v) : Rel C w' O e v := by
  induction r with
  | b v => exact .b v
  | i k n => exact .i k n
  | s v => exact .s v
  | nil t a c => exact .nil t a c
  | ro t xs g off c vals hn hc hO hgs hcell hrel ih =>
    refine .ro t xs g off c vals hn hc hO (Nat.lt_of_lt_of_le hgs hg.size) ?_ ih
    intro i x hi j e he
    have h := hcell i x hi j e he
    obtain ⟨o, ho, hoc⟩ := cells_of_cell h
    rw [World.cell?_of_block (turn_cells hg hr ho hoc)]
    exact h
variable {w0 : World} {O0 : Frm} {X U : Nat → Prop} {m : St C} {ρ : Nat → Value} {a : Act}
theorem Sim.turn (S : Sim w0 O0 X N U m ρ a w) (hg : w.grownBy w' row) (hr : NoCells w row) (h0 : ∀ r, row = some r → w0.heap.size ≤ r) : Sim w0 O0 X N U m ρ a w' := by
  have hl : Later (C := C) U m.e.get ρ w (Owns X m ρ) U m.e.get ρ w' (Owns X m ρ) := ⟨fun _ h => h, fun _ _ h => h, fun _ _ => rfl, hg.size, fun h => h.turn hg hr⟩
  refine ⟨S.size, S.defers, S.exdef, ?_, S.skips, ?_, S.disj, S.own, S.xok, hg.os.trans S.os, hg.tape.trans S.tape, hg.output.trans S.output, Nat.le_trans S.hsize hg.size, S.fix, ?_⟩
  · intro t s ht hx
    obtain ⟨v, h1, h2⟩ := S.slots t s ht hx
    exact ⟨v, h1, hl.sv h2⟩
  · intro nm B hB
    obtain ⟨hu, hb⟩ := S.blocks nm B hB
    refine ⟨hu, hl.blk hu ?_ hb⟩
    intro ho b hbk
    have hcell : ∃ o : Obj, w.heap[b]? = some o ∧ o.isCells = true := by
      cases B with
      | c T cs =>
        obtain ⟨b', vs, h1, h2, _⟩ := hb
        rw [h1] at hbk
        simp only [blkOf, Option.some.injEq] at hbk
        subst hbk
        exact ⟨_, h2, rfl⟩
      | l t id =>
        obtain ⟨xs, vals, _, _, h3⟩ := hb
        rcases h3.2 with ⟨h4, _⟩ | ⟨g, cap, cur, h4, _, h5, _⟩
        · rw [h4] at hbk; cases hbk
        · rw [h4] at hbk
          simp only [blkOf, Option.some.injEq] at hbk
          subst hbk
          exact ⟨_, h5, rfl⟩
      | f t id => cases ho
    obtain ⟨o, ho1, ho2⟩ := hcell
    exact turn_cells hg hr ho1 ho2
  · intro b hb hO
    rw [hg.block b (Nat.lt_of_lt_of_le hb S.hsize) (fun e => by have := h0 b e.symm; omega)]
    exact S.kept b hb hO
end turn

section back
variable {w0 w1 w : World} {O0 O1 : Frm} {X U : Nat → Prop} {m : St C} {ρ : Nat → Value} {a : Act}
/-- Back to the base of the call. -/
theorem Base.back (hb : Base w0 O0 w1 O1) (hX : ∀ b, X b → b < w0.heap.size ∧ ¬ O0.o b) (S : Sim w1 O1 X N U m ρ a w) : Sim w0 ⟨O0.o, O0.fx, O1.ds⟩ X N U m ρ a w := by
  refine ⟨S.size, S.defers, S.exdef, S.slots, S.skips, S.blocks, S.disj, ?_, hX, S.os.trans hb.os, S.tape.trans hb.tape, S.output.trans hb.output, Nat.le_trans hb.hsize S.hsize, ?_, ?_⟩
  · intro b h
    by_cases h1 : b < w0.heap.size
    · by_cases h2 : O0.o b
      · exact .inl h2
      · rcases S.own b h with h3 | h3
        · exact absurd h3 (hb.kept b h1 h2).2
        · have := hb.hsize; omega
    · exact .inr (Nat.le_of_not_lt h1)
  · intro k v hk
    exact S.fix k v (by rw [hb.fx]; exact hk)
  · intro b h1 h2
    obtain ⟨h3, h4⟩ := hb.kept b h1 h2
    rw [S.kept b (Nat.lt_of_lt_of_le h1 hb.hsize) h4, h3]
end back

/-- The marks' blocks shut. -/
def shutW : World → List Nat → World
  | w, [] => w
  | w, D :: Ds => shutW (w.putObj D (.deferred none)) Ds
theorem leaves_marks {F : Fence} {k : Nat} {P : Program} {fn : Func} {tmps : Array Value} {R : Ending → World → Prop} : ∀ (Ds : List Nat) (w : World), Ds.Nodup → (∀ D ∈ Ds, w.heap[D]? = some (.deferred (some []))) →
    (∃ v, (results fn tmps).run P (shutW w Ds) = .ok v (shutW w Ds) ∧ R (.returned v) (shutW w Ds)) → LeavesInM F k P fn tmps R (Ds.map fun D => { target := .collected D, args := #[] }) .returning w := by
  intro Ds
  induction Ds with
  | nil => intro w _ _ h; exact h
  | cons D Ds ih =>
    intro w hn hD h
    simp only [List.nodup_cons] at hn
    refine ⟨(by simp), .inl ⟨D, _, rfl, run_takeDeferred (hD D (List.mem_cons_self ..)), ?_⟩⟩
    refine ih _ hn.2 (fun D' hD' => ?_) h
    rw [World.putObj_heap_other (by rintro rfl; exact hn.1 hD')]
    exact hD D' (List.mem_cons_of_mem _ hD')
theorem Sim.shut {w0 : World} {O0 : Frm} {X U : Nat → Prop} {m : St C} {ρ : Nat → Value} {a : Act} : ∀ (Ds : List Nat) {w : World}, Sim w0 O0 X N U m ρ a w → Ds.Nodup → (∀ D ∈ Ds, w0.heap.size ≤ D ∧ w.heap[D]? = some (.deferred (some []))) → Sim w0 O0 X N U m ρ a (shutW w Ds) := by
  intro Ds
  induction Ds with
  | nil => intro w S _ _; exact S
  | cons D Ds ih =>
    intro w S hn hD
    simp only [List.nodup_cons] at hn
    obtain ⟨h1, h2⟩ := hD D (List.mem_cons_self ..)
    refine ih (S.turn (grownBy_putObj' w D (.deferred none)) (fun r e => by cases e; exact ⟨_, h2, rfl⟩) (fun r e => by cases e; exact h1)) hn.2 fun D' hD' => ?_
    obtain ⟨h3, h4⟩ := hD D' (List.mem_cons_of_mem _ hD')
    exact ⟨h3, by rw [World.putObj_heap_other (by rintro rfl; exact hn.1 hD')]; exact h4⟩
end Go.Sx

/- The symbolic executor: functions. -/
namespace Go.Sx
open Go

section typed
variable {C : Cfg}
/-- Contents of a kind, as Lean has them. -/
def Kind.T (C : Cfg) : Kind → Type
  | .b => Bool | .i _ => Int | .s => ByteArray | .ro t => List (C.R t) | .ow t => List (C.R t)
def KsT (C : Cfg) : List Kind → Type
  | [] => Unit
  | k :: ks => k.T C × KsT C ks
def PsT (C : Cfg) : List PSpec → Type
  | [] => Unit
  | p :: ps => KsT C p.kinds × PsT C ps
def mkE : (k : Kind) → k.T C → Ent C.R
  | .b, v => .b v | .i k, n => .i k n | .s, v => .s v | .ro t, xs => .ro t xs | .ow t, xs => .ro t xs
def mkK : (ks : List Kind) → KsT C ks → List (Ent C.R)
  | [], _ => []
  | k :: ks, x => mkE k x.1 :: mkK ks x.2
def mkP : (ps : List PSpec) → PsT C ps → List (List (Ent C.R))
  | [], _ => []
  | p :: ps, x => mkK p.kinds x.1 :: mkP ps x.2
def unE : (k : Kind) → Ent C.R → k.T C
  | .b, e => match e with | .b v => v | _ => false
  | .i _, e => match e with | .i _ n => n | _ => (0 : Int)
  | .s, e => match e with | .s v => v | _ => ByteArray.empty
  | .ro t, e => match e with | .ro t' xs => if h : t' = t then h ▸ xs else [] | _ => []
  | .ow t, e => match e with | .ro t' xs => if h : t' = t then h ▸ xs else [] | _ => []
def unK : (ks : List Kind) → List (Ent C.R) → KsT C ks
  | [], _ => ()
  | k :: ks, es => (unE k (es.headD (.b false)), unK ks es.tail)
def unPs : (ps : List PSpec) → List (List (Ent C.R)) → PsT C ps
  | [], _ => ()
  | p :: ps, ess => (unK p.kinds (ess.headD []), unPs ps ess.tail)
theorem unE_mk (k : Kind) (x : k.T C) : unE k (mkE k x) = x := by
  cases k with
  | b => rfl
  | i _ => rfl
  | s => rfl
  | ro t => exact dif_pos rfl
  | ow t => exact dif_pos rfl
theorem unK_mk : ∀ (ks : List Kind) (x : KsT C ks), unK ks (mkK ks x) = x
  | [], _ => rfl
  | k :: ks, x => by
    show (unE k (mkE k x.1), unK ks (mkK ks x.2)) = x
    rw [unE_mk, unK_mk ks]; rfl
theorem unPs_mk : ∀ (ps : List PSpec) (x : PsT C ps), unPs ps (mkP ps x) = x
  | [], _ => rfl
  | p :: ps, x => by
    show (unK p.kinds (mkK p.kinds x.1), unPs ps (mkP ps x.2)) = x
    rw [unK_mk, unPs_mk ps]; rfl
/-- A contract on typed contents. -/
def FSum.of (ps rs : List PSpec) (pre : PsT C ps → List Bool) (F : PsT C ps → PsT C (rs ++ ioP ps)) : FSum C :=
  ⟨ps, rs, fun as => pre (unPs ps as), fun as => mkP (rs ++ ioP ps) (F (unPs ps as))⟩

theorem vr_typed {w : World} {O : Nat → Prop} {k : Kind} {e : Ent C.R} {v : Value} (h : VR C w O k e v) : ∃ x : k.T C, e = mkE k x := by
  cases k with
  | ow t => obtain ⟨xs, _, h1, _⟩ := h; exact ⟨xs, h1⟩
  | b => obtain ⟨h1, _⟩ := h; cases e <;> simp [Ent.kind] at h1; exact ⟨_, rfl⟩
  | i k => obtain ⟨h1, _⟩ := h; cases e <;> simp [Ent.kind] at h1; subst h1; exact ⟨_, rfl⟩
  | s => obtain ⟨h1, _⟩ := h; cases e <;> simp [Ent.kind] at h1; exact ⟨_, rfl⟩
  | ro t => obtain ⟨h1, _⟩ := h; cases e <;> simp [Ent.kind] at h1; subst h1; exact ⟨_, rfl⟩
theorem vrs_typed {w : World} {O : Nat → Prop} {ks : List Kind} {es : List (Ent C.R)} {vs : List Value} (h : VRs C w O ks es vs) : ∃ x : KsT C ks, es = mkK ks x := by
  induction h with
  | nil => exact ⟨(), rfl⟩
  | cons h1 _ ih =>
    obtain ⟨x, rfl⟩ := vr_typed h1
    obtain ⟨y, rfl⟩ := ih
    exact ⟨(x, y), rfl⟩
theorem AR.typed {w : World} {O : Nat → Prop} {ps : List PSpec} {ess : List (List (Ent C.R))} {args : List Value} {L : List Nat} (h : AR C w O ps ess args L) : ∃ x : PsT C ps, ess = mkP ps x := by
  induction h with
  | nil => exact ⟨(), rfl⟩
  | v h1 _ _ _ _ ih =>
    obtain ⟨x, rfl⟩ := vrs_typed h1
    obtain ⟨y, rfl⟩ := ih
    exact ⟨(x, y), rfl⟩
  | p _ h1 _ ih =>
    obtain ⟨x, rfl⟩ := vrs_typed h1
    obtain ⟨y, rfl⟩ := ih
    exact ⟨(x, y), rfl⟩
end typed

variable {C : Cfg} {w0 : World} {O0 : Frm} {X : Nat → Prop} {N : Nat} {U : Nat → Prop} {m : Loc} {g : Env C} {ρ : Nat → Value} {a : Act} {w : World} {Γ : Nat → Option (FSum C)}

def RT.pick : RT C → Option (List Bool × List (List (Ent C.R)))
  | .ret ob rs => some (ob, rs)
  | .br c a b => bif c then a.pick else b.pick
  | .fail => none

theorem outRT_pick {fn : Func} {S : FSum C} {io : List SV} {ob : List Bool} {ess : List (List (Ent C.R))} : ∀ {o : Out}, (outRT C fn S io g o).pick = some (ob, ess) →
    ∃ x m rs r, o.pick = some (ob, x, m) ∧ (x = .nx ∨ x = .rt) ∧ resVars C m fn.results.toList = some rs ∧ rs.length = S.rs.length ∧ (argsOf C (S.rs ++ ioP S.ps) (rs ++ io)).run (stOf m g) = some r ∧
      nodupN r.2.2 = true ∧ apartN (roOf (S.rs ++ ioP S.ps) (rs ++ io)) r.2.2 = true ∧ ess = r.1 := by
  intro o
  induction o with
  | leaf ob1 x m =>
    intro h
    have key : ∀ {z : RT C}, z = (match resVars C m fn.results.toList with
        | none => RT.fail
        | some rs => bif Nat.beq rs.length S.rs.length then (match (argsOf C (S.rs ++ ioP S.ps) (rs ++ io)).run ⟨m.s, g.e, m.b⟩ with
          | some r => bif nodupN r.2.2 && apartN (roOf (S.rs ++ ioP S.ps) (rs ++ io)) r.2.2 then .ret ob1 r.1 else .fail
          | none => .fail) else .fail) → z.pick = some (ob, ess) → (x = .nx ∨ x = .rt) →
        ∃ x' m' rs r, (Out.leaf ob1 x m).pick = some (ob, x', m') ∧ (x' = .nx ∨ x' = .rt) ∧ resVars C m' fn.results.toList = some rs ∧ rs.length = S.rs.length ∧ (argsOf C (S.rs ++ ioP S.ps) (rs ++ io)).run (stOf m' g) = some r ∧
          nodupN r.2.2 = true ∧ apartN (roOf (S.rs ++ ioP S.ps) (rs ++ io)) r.2.2 = true ∧ ess = r.1 := by
      intro z hz h hx
      subst hz
      split at h
      · simp [RT.pick] at h
      · rename_i rs hrs
        cases hb : Nat.beq rs.length S.rs.length with
        | false => rw [hb] at h; simp [RT.pick] at h
        | true =>
          rw [hb] at h
          simp only [cond] at h
          split at h
          · rename_i r hr
            cases hb2 : (nodupN r.2.2 && apartN (roOf (S.rs ++ ioP S.ps) (rs ++ io)) r.2.2) with
            | false => rw [hb2] at h; simp [RT.pick] at h
            | true =>
              rw [hb2] at h
              simp only [Bool.and_eq_true] at hb2
              simp only [RT.pick, Option.some.injEq, Prod.mk.injEq] at h
              obtain ⟨rfl, rfl⟩ := h
              exact ⟨x, m, rs, r, rfl, hx, hrs, Nat.beq_eq.mp hb, hr, hb2.1, hb2.2, rfl⟩
          · simp [RT.pick] at h
    cases x with
    | nx => exact key (z := outRT C fn S io g (.leaf ob1 .nx m)) rfl h (.inl rfl)
    | rt => exact key (z := outRT C fn S io g (.leaf ob1 .rt m)) rfl h (.inr rfl)
    | ex id => simp [outRT, RT.pick] at h
  | br c x y ihx ihy =>
    intro h
    simp only [outRT, RT.pick] at h
    cases c with
    | true => obtain ⟨x', m', rs, r, h1, h2⟩ := ihx h; exact ⟨x', m', rs, r, h1, h2⟩
    | false => obtain ⟨x', m', rs, r, h1, h2⟩ := ihy h; exact ⟨x', m', rs, r, h1, h2⟩
  | fail => intro h; simp [outRT, RT.pick] at h

theorem slRel_append {E : Nat → Option (Ent C.R)} {O : Nat → Prop} {xs ys : List SV} {vs us : List Value} (h : SlRel E U ρ w O xs vs) (h' : SlRel E U ρ w O ys us) : SlRel E U ρ w O (xs ++ ys) (vs ++ us) := by
  induction h with
  | nil => exact h'
  | cons h1 _ ih => exact .cons h1 ih

/-- What a result variable gives. -/
def resF (a : Act) : ResultVar → Sem Value
  | .tmp t => pure (a.tmps.getD t undef)
  | .cell p t => do loadVar t (← asAddr (a.tmps.getD p undef))

theorem resVar_sound (S : Sim w0 O0 X N U (stOf m g) ρ a w) {r : ResultVar} {x : SV} (h : resVar C m r = some x) :
    ∃ v, (resF a r).run C.P w = .ok v w ∧ SRel C U (stOf m g).e.get ρ w (Owns X (stOf m g) ρ) x v := by
  unfold resVar at h
  split at h
  · rename_i t
    split at h
    · rename_i v hs
      simp only [Option.some.injEq] at h
      subst h
      obtain ⟨u, h1, h2⟩ := S.slots t _ hs (fun p hp => by cases hp)
      refine ⟨u, ?_, h2⟩
      simp only [resF, Sem.run_pure, Array.getD_eq_getD_getElem?, h1, Option.getD_some]
    · cases h
  · rename_i p T
    split at h
    · rename_i nm hs
      obtain ⟨u, h1, h2⟩ := S.slots p _ hs (fun p hp => by cases hp)
      obtain ⟨hU, b, hr, rfl⟩ := h2
      split at h
      · rename_i T' cs hB
        rcases bifE h with ⟨hb, h⟩ | ⟨_, h⟩
        · simp only [Bool.and_eq_true] at hb
          have hlen := Nat.beq_eq.mp hb.2
          obtain ⟨d, hd⟩ := Option.isSome_iff_exists.mp hb.1
          obtain ⟨i, hi⟩ := info_of_underlying hd
          obtain ⟨b', vs, q1, q2, q3⟩ := (S.blocks nm _ hB).2
          rw [hr] at q1
          simp only [Value.pointer.injEq, Option.some.injEq, Addr.mk.injEq, and_true] at q1
          subst q1
          have hcl := csRel_length q3
          have hcell : ∀ (j : Nat) (v : Value), vs.toList[j]? = some v → w.cell? ⟨b, 0 + j, none⟩ = some v := by
            intro j v hj
            simp only [World.cell?, q2, Nat.zero_add]
            simpa using hj
          have hasA : (resF a (.cell p T)) = (do loadVar T (← asAddr (a.tmps.getD p undef))) := rfl
          rw [hasA]
          simp only [Array.getD_eq_getD_getElem?, h1, Option.getD_some]
          rcases bifE h with ⟨ha, h⟩ | ⟨ha, h⟩
          · simp only [Option.some.injEq] at h
            subst h
            refine ⟨.agg vs.toList.toArray, ?_, vs.toList, rfl, q3⟩
            have := loadVar_agg (C := C) (T := T) (b := b) (off := 0) (us := vs.toList) hd ha hi (by rw [← hcl, hlen, sizeT_of hi]) hcell
            simpa [asAddr] using this
          · split at h
            · rename_i c
              simp only [Option.some.injEq] at h
              subst h
              generalize hvl : vs.toList = vl at q3 hcell
              cases q3 with
              | cons q4 q5 =>
                cases q5
                rename_i v
                refine ⟨v, ?_, q4⟩
                have := loadVar_one (C := C) (T := T) (b := b) (off := 0) hd ha (by simpa using hcell 0 v rfl)
                simpa [asAddr] using this
            · cases h
        · cases h
      · cases h
    · cases h

theorem resVars_sound (S : Sim w0 O0 X N U (stOf m g) ρ a w) : ∀ {l : List ResultVar} {xs : List SV}, resVars C m l = some xs →
    ∃ vs, (l.mapM (resF a)).run C.P w = .ok vs w ∧ SlRel (stOf m g).e.get U ρ w (Owns X (stOf m g) ρ) xs vs := by
  intro l
  induction l with
  | nil =>
    intro xs h
    simp only [resVars, Option.some.injEq] at h
    subst h
    exact ⟨[], by simp, .nil⟩
  | cons r l ih =>
    intro xs h
    simp only [resVars] at h
    split at h
    · rename_i x xs' h1 h2
      simp only [Option.some.injEq] at h
      subst h
      obtain ⟨v, h3, h4⟩ := resVar_sound S h1
      obtain ⟨vs, h5, h6⟩ := ih h2
      exact ⟨v :: vs, by simp [List.mapM_cons, h3, h5], .cons h4 h6⟩
    · cases h

theorem results_run {fn : Func} {vs : List Value} (h : (fn.results.toList.mapM (resF a)).run C.P w = .ok vs w) : (results fn a.tmps).run C.P w = .ok (resV vs) w := by
  have h1 : (fn.results.mapM (resF a)).run C.P w = .ok vs.toArray w := by rw [Array.mapM_eq_mapM_toList]; simp [h]
  have h2 : results fn a.tmps = (do let vs ← fn.results.mapM (resF a); pure (if h : vs.size = 1 then vs[0] else .tuple vs)) := rfl
  rw [h2, Sem.run_bind, h1]
  simp only [Result.andThen, Sem.run_pure]
  congr 1
  match vs with
  | [] => rfl
  | [v] => rfl
  | _ :: _ :: _ => simp [resV]
end Go.Sx

/- The symbolic executor: a function's contract. -/
namespace Go.Sx
open Go
variable {C : Cfg} {w0 : World} {O0 : Frm} {X : Nat → Prop} {N : Nat} {U : Nat → Prop} {m : Loc} {g : Env C} {ρ : Nat → Value} {a : Act} {w : World} {Γ : Nat → Option (FSum C)} {L : Loops C}

theorem putSlots_get : ∀ (xs : List SV) (j : Nat) (t : Tr Slot) (k : Nat) (s : Slot), (putSlots j xs t).get k = some s → (∃ x, xs[k - j]? = some x ∧ j ≤ k ∧ s = ⟨[], x⟩) ∨ t.get k = some s := by
  intro xs
  induction xs with
  | nil => intro j t k s h; exact .inr h
  | cons x xs ih =>
    intro j t k s h
    simp only [putSlots] at h
    rcases ih _ _ _ _ h with ⟨y, h1, h2, h3⟩ | h1
    · left
      refine ⟨y, ?_, by omega, h3⟩
      have : k - j = (k - (j + 1)) + 1 := by omega
      rw [this, List.getElem?_cons_succ]; exact h1
    · rw [Tr.get_set] at h1
      split at h1
      · rename_i hk
        subst hk
        simp only [Option.some.injEq] at h1
        exact .inl ⟨x, by simp, Nat.le_refl _, h1.symm⟩
      · exact .inr h1

theorem slRel_get {E : Nat → Option (Ent C.R)} {O : Nat → Prop} {xs : List SV} {vs : List Value} (h : SlRel E U ρ w O xs vs) : ∀ {k : Nat} {x : SV}, xs[k]? = some x → ∃ v, vs[k]? = some v ∧ SRel C U E ρ w O x v := by
  induction h with
  | nil => intro k x h; simp at h
  | cons h1 _ ih =>
    intro k x h
    cases k with
    | zero => simp only [List.getElem?_cons_zero, Option.some.injEq] at h; subst h; exact ⟨_, by simp, h1⟩
    | succ k => simp only [List.getElem?_cons_succ] at h ⊢; exact ih h
theorem slRel_mono {E : Nat → Option (Ent C.R)} {O O' : Nat → Prop} (hs : Stays w O w O') {xs : List SV} {vs : List Value} (h : SlRel E U ρ w O xs vs) : SlRel E U ρ w O' xs vs := by
  induction h with
  | nil => exact .nil
  | cons h1 _ ih => exact .cons ((Later.of (fun _ h => h) (fun _ _ h => h) (fun _ _ => rfl) hs : Later U E ρ w O U E ρ w O').sv h1) ih

theorem outCells_noP : ∀ {n : Nat} {ks : List Kind} {es : List (Ent C.R)} {cs : List Cell} {en : List (Nat × Ent C.R)} {bs : List (Nat × Option Blk)}, outCells C n ks es = some (cs, en, bs) → ∀ c ∈ cs, isPtr (.c c) = false := by
  intro n ks
  induction ks generalizing n with
  | nil =>
    intro es cs en bs h
    cases es with
    | nil => simp only [outCells, Option.some.injEq, Prod.mk.injEq] at h; rw [← h.1]; intro c hc; cases hc
    | cons _ _ => simp [outCells] at h
  | cons k ks ih =>
    intro es cs en bs h
    cases es with
    | nil => simp [outCells] at h
    | cons e es =>
      simp only [outCells] at h
      split at h
      · cases h
      · rename_i cs1 en1 bs1 h1
        have ih' := ih h1
        split at h
        · split at h
          · rcases bifE h with ⟨_, h⟩ | ⟨_, h⟩
            · simp only [Option.some.injEq, Prod.mk.injEq] at h
              rw [← h.1]
              intro c hc
              rcases List.mem_cons.mp hc with rfl | hc
              · rfl
              · exact ih' c hc
            · cases h
          · cases h
        · rcases bifE h with ⟨_, h⟩ | ⟨_, h⟩
          · simp only [Option.some.injEq, Prod.mk.injEq] at h
            rw [← h.1]
            intro c hc
            rcases List.mem_cons.mp hc with rfl | hc
            · rfl
            · exact ih' c hc
          · cases h
theorem svOf_noP {agg : Bool} {cs : List Cell} (h : ∀ c ∈ cs, isPtr (.c c) = false) : isPtr (svOf agg cs) = false := by
  match agg, cs, h with
  | false, [c], h => exact h c (List.mem_cons_self ..)
  | false, [], _ => rfl
  | false, _ :: _ :: _, _ => rfl
  | true, _, _ => rfl

theorem io_rel {E : Nat → Option (Ent C.R)} {O : Nat → Prop} : ∀ {ps : List PSpec} {n n' : Nat} {ess : List (List (Ent C.R))} {nms : List (Option Nat)} {svs : List SV} {en : List (Nat × Ent C.R)} {bs : List (Nat × Option Blk)} {args : List Value},
    importP C n ps ess nms = some (n', svs, en, bs) → SlRel E U ρ w O svs args → SlRel E U ρ w O (svs.filter isPtr) (ioA ps args) := by
  intro ps
  induction ps with
  | nil =>
    intro n n' ess nms svs en bs args h r
    cases ess with
    | nil => simp only [importP, Option.some.injEq, Prod.mk.injEq] at h; rw [← h.2.1] at r ⊢; cases r; exact .nil
    | cons _ _ => simp [importP] at h
  | cons p ps ih =>
    intro n n' ess nms svs en bs args h r
    cases ess with
    | nil => cases p <;> simp [importP] at h
    | cons es ess =>
      cases p with
      | v agg ks =>
        simp only [importP] at h
        rcases bifE h with ⟨_, h⟩ | ⟨_, h⟩
        · split at h
          · cases h
          · rename_i cs en1 bs1 h1
            split at h
            · cases h
            · rename_i n2 svs2 en2 bs2 h2
              simp only [Option.some.injEq, Prod.mk.injEq] at h
              obtain ⟨_, rfl, _, _⟩ := h
              cases r with
              | cons r1 r2 =>
                rw [List.filter_cons_of_neg (by simp [svOf_noP (outCells_noP h1)])]
                exact ih h2 r2
        · cases h
      | p T ks off =>
        simp only [importP] at h
        split at h
        · cases h
        · rename_i cs en1 bs1 h1
          split at h
          · cases h
          · rename_i n2 svs2 en2 bs2 h2
            simp only [Option.some.injEq, Prod.mk.injEq] at h
            obtain ⟨_, rfl, _, _⟩ := h
            cases r with
            | cons r1 r2 =>
              rw [List.filter_cons_of_pos (by rfl)]
              exact .cons r1 (ih h2 r2)

theorem io_later {E E' : Nat → Option (Ent C.R)} {O O' : Nat → Prop} {U' : Nat → Prop} {ρ' : Nat → Value} {w' : World} (h : ∀ k, U k → U' k ∧ ρ' k = ρ k) : ∀ {xs : List SV} {vs : List Value}, (∀ x ∈ xs, isPtr x = true) → SlRel E U ρ w O xs vs →
    SlRel E' U' ρ' w' O' xs vs := by
  intro xs vs hp r
  induction r with
  | nil => exact .nil
  | cons r1 _ ih =>
    refine .cons ?_ (ih (fun x hx => hp x (List.mem_cons_of_mem _ hx)))
    rename_i s v _ _ _
    have := hp s (List.mem_cons_self ..)
    match s, this, r1 with
    | .c (.p nm off), _, r1 =>
      obtain ⟨hU, b, hb, hv⟩ := r1
      obtain ⟨h1, h2⟩ := h nm hU
      exact ⟨h1, b, by rw [h2]; exact hb, hv⟩

theorem named_none {ps : List PSpec} {args : List Value} {l : List Value} (h : Flat ps args w l) : Named ρ ps args (ps.map fun _ => none) := by
  induction h with
  | nil => exact .nil
  | v _ _ _ ih => exact .v ih
  | p _ _ ih => exact .p (fun k hk => by simp at hk) ih

theorem filterMap_inj {f : Nat → Option Nat} : ∀ {bs : List (Nat × Option Blk)}, (bs.filterMap fun p => f p.1).Nodup → ∀ p ∈ bs, ∀ q ∈ bs, ∀ b, f p.1 = some b → f q.1 = some b → p.1 = q.1 := by
  intro bs
  induction bs with
  | nil => intro _ p hp; cases hp
  | cons x bs ih =>
    intro hn p hp q hq b h1 h2
    simp only [List.filterMap_cons] at hn
    cases hx : f x.1 with
    | none =>
      rw [hx] at hn
      rcases List.mem_cons.mp hp with rfl | hp
      · rw [hx] at h1; cases h1
      · rcases List.mem_cons.mp hq with rfl | hq
        · rw [hx] at h2; cases h2
        · exact ih hn p hp q hq b h1 h2
    | some y =>
      rw [hx] at hn
      simp only [List.nodup_cons] at hn
      rcases List.mem_cons.mp hp with rfl | hp2
      · rcases List.mem_cons.mp hq with rfl | hq
        · rfl
        · exfalso
          rw [hx] at h1
          exact hn.1 (List.mem_filterMap.mpr ⟨q, hq, by rw [h2, h1]⟩)
      · rcases List.mem_cons.mp hq with rfl | hq
        · exfalso
          rw [hx] at h2
          exact hn.1 (List.mem_filterMap.mpr ⟨p, hp2, by rw [h1, h2]⟩)
        · exact ih hn.2 p hp2 q hq b h1 h2

theorem names_nodup {m : St C} (S : Sim w0 O0 X N U m ρ a w) : ∀ (l : List Nat), l.Nodup → (∀ k ∈ l, ∃ B, m.b.get k = some B ∧ B.owned = true) → (l.filterMap fun k => blkOf (ρ k)).Nodup := by
  intro l
  induction l with
  | nil => intro _ _; simp
  | cons k l ih =>
    intro hn ho
    simp only [List.nodup_cons] at hn
    have ih' := ih hn.2 (fun k hk => ho k (by simp [hk]))
    simp only [List.filterMap_cons]
    cases hbk : blkOf (ρ k) with
    | none => exact ih'
    | some b =>
      simp only [List.nodup_cons]
      refine ⟨fun hb => ?_, ih'⟩
      obtain ⟨k', hk', hkb'⟩ := List.mem_filterMap.mp hb
      obtain ⟨B, hB, hBo⟩ := ho k (by simp)
      obtain ⟨B', hB', hBo'⟩ := ho k' (by simp [hk'])
      have := S.disj k k' B B' b hB hB' hBo hBo' hbk hkb'
      subst this
      exact hn.1 hk'

theorem resVars_len {m : Loc} : ∀ {l : List ResultVar} {xs : List SV}, resVars C m l = some xs → xs.length = l.length := by
  intro l
  induction l with
  | nil => intro xs h; simp only [resVars, Option.some.injEq] at h; subst h; rfl
  | cons r l ih =>
    intro xs h
    simp only [resVars] at h
    split at h
    · rename_i h2
      simp only [Option.some.injEq] at h
      subst h
      simp [ih h2]
    · cases h

/-- A function does what its symbolic execution says. -/
theorem fn_ok (Kk : C.Ok) (G0 : GamOK C Γ) {f : FuncId} {fn : Func} {c : Code} {S : FSum C} (hfn : C.P.funcs[f]? = some fn) (hbody : fn.body = some c) (hL : LoopsOK C fn.ntmps L c)
    (h : ∀ x : PsT C S.ps, (∀ b ∈ S.pre (mkP S.ps x), b = true) → ∃ ob, (evFn C Γ L fn S (mkP S.ps x)).pick = some (ob, S.F (mkP S.ps x)) ∧ ∀ b ∈ ob, b = true) : FnOK C f S := by
  intro w X as args Ls hAR hLnd hX hpre
  obtain ⟨x, rfl⟩ := hAR.typed
  obtain ⟨ob, hev, hob⟩ := h x hpre
  unfold evFn at hev
  simp only [hbody] at hev
  split at hev
  · simp [RT.pick] at hev
  rename_i n svs en bs him
  cases hb : (nodupN (bs.map (·.1)) && Nat.ble svs.length fn.ntmps) with
  | false => rw [hb] at hev; simp [RT.pick] at hev
  | true =>
  rw [hb] at hev
  simp only [cond] at hev
  simp only [Bool.and_eq_true, nodupN_iff, Nat.ble_eq] at hb
  obtain ⟨hnd, hlen⟩ := hb
  split at hev
  · simp [RT.pick] at hev
  rename_i e hse
  split at hev
  · simp [RT.pick] at hev
  rename_i o g' hevc
  obtain ⟨xf, mf, rs, r, hpick, hxf, hrs, hrsl, hargs, hnod, hapart, hess⟩ := outRT_pick hev
  have hok := ev_ok Kk G0 2000 hevc hL
  refine callsIn_wide.1 (callsIn_of_wp_marks (F := Fence.wide) (n := 0) hfn hbody trivial ?_ rfl)
  obtain ⟨l, hflat⟩ := hAR.flat
  have hE := setE_get _ _ _ hse
  let ρ : Nat → Value := rhoOf (fun _ => undef) 0 l
  let U : Nat → Prop := fun k => k < n
  have hn : n = 0 + l.length := import_len hAR him hflat
  obtain ⟨_, hSl, hBs, _, hfm⟩ := import_ok (C := C) (E' := e.get) (U' := U) (ρ' := ρ) hAR him hflat (rhoOf_at _ 0 l) (named_none hflat) (fun p hp => hE.2 p hp) (fun i _ hi => hi) (by
    intro k hk j hj
    obtain ⟨_, _, h⟩ := List.mem_map.mp hk
    rw [← h] at hj; cases hj)
  have hslen := slRel_len hSl
  let m0 : Loc := ⟨putSlots 0 svs .nil, setB bs .nil⟩
  let g0 : Env C := ⟨e, n⟩
  have hget : ∀ nm B, (stOf m0 g0).b.get nm = some B → (nm, some B) ∈ bs := by
    intro nm B hB
    by_cases hm : nm ∈ bs.map (·.1)
    · obtain ⟨⟨k, y⟩, hp, rfl⟩ := List.mem_map.mp hm
      have : (setB bs Tr.nil).get k = y := setB_some bs .nil k y hnd hp
      have hB' : (setB bs Tr.nil).get k = some B := hB
      rw [this] at hB'
      subst hB'; exact hp
    · have hB' : (setB bs Tr.nil).get nm = some B := hB
      rw [setB_none bs .nil nm hm] at hB'
      cases hB'
  have hownL : ∀ b, OwnN (stOf m0 g0) ρ b → b ∈ Ls := by
    rintro b ⟨nm, B, h1, _, h2⟩
    rw [← hfm]
    exact List.mem_filterMap.mpr ⟨_, hget nm B h1, h2⟩
  have hst : Stays w (fun b => X b ∨ b ∈ Ls) w (Owns X (stOf m0 g0) ρ) := stays_sub (fun b hb => hb.imp id (hownL b))
  have hSl' := slRel_mono hst hSl
  have hlat : Later (C := C) U e.get ρ w (fun b => X b ∨ b ∈ Ls) U e.get ρ w (Owns X (stOf m0 g0) ρ) := .of (fun _ h => h) (fun _ _ h => h) (fun _ _ => rfl) hst
  have hslot : ∀ t s, (stOf m0 g0).s.get t = some s → ∃ x, svs[t]? = some x ∧ s = ⟨[], x⟩ := by
    intro t s ht
    rcases putSlots_get svs 0 .nil t s ht with ⟨x, h1, _, h2⟩ | h1
    · exact ⟨x, h1, h2⟩
    · cases h1
  let FX : Frm := ⟨fun b => b ∈ Ls, fun k v => U k ∧ ρ k = v, []⟩
  have S0 : Sim w FX X fn.ntmps U (stOf m0 g0) ρ { tmps := args.toArray ++ Array.replicate (fn.ntmps - args.toArray.size) undef, defers := [] } w := by
    refine ⟨by simp; omega, rfl, ?_, ?_, ?_, ?_, ?_, ?_, hX, rfl, rfl, rfl, Nat.le_refl _, fun k v hk => hk, fun b _ _ => rfl⟩
    · intro t s ht p hp
      obtain ⟨x, _, rfl⟩ := hslot t s ht
      cases hp
    · intro t s ht _
      obtain ⟨x, hx, rfl⟩ := hslot t s ht
      obtain ⟨v, h1, h2⟩ := slRel_get hSl' hx
      refine ⟨v, ?_, h2⟩
      have hlt : t < args.length := by
        rcases Nat.lt_or_ge t args.length with h | h
        · exact h
        · rw [List.getElem?_eq_none h] at h1; cases h1
      rw [Array.getElem?_append_left (by simpa using hlt)]
      simpa using h1
    · intro t s ht hx
      obtain ⟨x, _, rfl⟩ := hslot t s ht
      exact absurd (fun p hp => by cases hp) hx
    · intro nm B hB
      obtain ⟨B', h1, h2, _, h4⟩ := hBs _ (hget nm B hB)
      simp only [Option.some.injEq] at h1
      subst h1
      exact ⟨h2, hlat.blk h2 (fun _ _ _ => rfl) h4⟩
    · intro nm nm' B B' b h1 h2 _ _ h3 h4
      exact filterMap_inj (f := fun k => blkOf (ρ k)) (by rw [hfm]; exact hLnd) _ (hget nm B h1) _ (hget nm' B' h2) b h3 h4
    · intro b hb; exact .inl (hownL b hb)
  refine hok.2 ob xf mf hpick hob 0 S0.toM (fun k hk => hk) (fun ρ' U' a' w1 SM _ => ?_)
  obtain ⟨wb, Ob, hbase, S1⟩ := SM
  obtain ⟨Ds, hds, hDn, hDs⟩ := hbase.marks
  have hds' : a'.defers = Ds.map fun D => { target := .collected D, args := #[] } := by rw [S1.defers, hds]; simp [FX]
  have hDw : ∀ D ∈ Ds, w1.heap[D]? = some (.deferred (some [])) := fun D hD => by
    obtain ⟨_, h2, h3, h4⟩ := hDs D hD
    rw [S1.kept D h2 h3, h4]
  have S2 := (hbase.back hX S1).shut Ds hDn (fun D hD => ⟨(hDs D hD).1, hDw D hD⟩)
  generalize hw2 : shutW w1 Ds = w' at S2
  have S' : Sim w ⟨FX.o, FX.fx, Ob.ds⟩ X fn.ntmps U' (stOf mf g') ρ' a' w' := S2
  have hio : SlRel (stOf mf g').e.get U' ρ' w' (Owns X (stOf mf g') ρ') (svs.filter isPtr) (ioA S.ps args) :=
    io_later (fun k hk => S'.fix k (ρ k) ⟨hk, rfl⟩) (fun x hx => (List.mem_filter.mp hx).2) (io_rel him hSl)
  obtain ⟨rvs, hrun, hrel⟩ := resVars_sound S' hrs
  have hall := slRel_append hrel hio
  have hown := (export_ok S' (O' := fun _ => False) (fun b h => h.elim) hargs hall (fun _ _ _ _ _ _ _ h => h)).2.1
  have hL'own : ∀ b ∈ r.2.2.filterMap (fun k => blkOf (ρ' k)), OwnN (stOf mf g') ρ' b := by
    intro b hb
    obtain ⟨k, hk, hkb⟩ := List.mem_filterMap.mp hb
    obtain ⟨B, hB, hBo⟩ := hown k hk
    exact ⟨k, B, hB, hBo, hkb⟩
  obtain ⟨hAR', _⟩ := export_ok S' (O' := fun b => X b ∨ b ∈ r.2.2.filterMap (fun k => blkOf (ρ' k))) (fun b h => h.imp id (hL'own b)) hargs hall (by
    intro nm hnm B b hB hBo hbb hO'
    rcases hO' with h | h
    · exact x_not_own S' h ⟨nm, B, hB, hBo, hbb⟩
    · obtain ⟨k, hk, hkb⟩ := List.mem_filterMap.mp h
      obtain ⟨B', hB', hBo'⟩ := hown k hk
      have := S'.disj nm k B B' b hB hB' hBo hBo' hbb hkb
      subst this
      exact apartN_iff.mp hapart nm hnm hk)
  have hpost : ∃ v, (results fn a'.tmps).run C.P w' = .ok v w' ∧ ∃ rvs L', Ending.returned v = .returned (resV rvs) ∧ rvs.length = S.rs.length ∧
      AR C w' (fun b => X b ∨ b ∈ L') (S.rs ++ ioP S.ps) (S.F (mkP S.ps x)) (rvs ++ ioA S.ps args) L' ∧ L'.Nodup ∧ (∀ b ∈ L', b ∈ Ls ∨ w.heap.size ≤ b) ∧
      w'.os = w.os ∧ w'.tape = w.tape ∧ w'.output = w.output ∧ w.heap.size ≤ w'.heap.size ∧ ∀ b, b < w.heap.size → b ∉ Ls → w'.heap[b]? = w.heap[b]? := by
    refine ⟨_, results_run hrun, rvs, _, rfl, by rw [← slRel_len hrel, hrsl], by rw [hess]; exact hAR', names_nodup S' _ (nodupN_iff.mp hnod) hown, fun b hb => S'.own b (hL'own b hb), S'.os, S'.tape, S'.output, S'.hsize, S'.kept⟩
  have hfin : LeavesInM Fence.wide 0 C.P fn a'.tmps (fun e w' => ∃ rvs L', e = .returned (resV rvs) ∧ rvs.length = S.rs.length ∧
      AR C w' (fun b => X b ∨ b ∈ L') (S.rs ++ ioP S.ps) (S.F (mkP S.ps x)) (rvs ++ ioA S.ps args) L' ∧ L'.Nodup ∧ (∀ b ∈ L', b ∈ Ls ∨ w.heap.size ≤ b) ∧
      w'.os = w.os ∧ w'.tape = w.tape ∧ w'.output = w.output ∧ w.heap.size ≤ w'.heap.size ∧ ∀ b, b < w.heap.size → b ∉ Ls → w'.heap[b]? = w.heap[b]?) a'.defers .returning w1 := by
    rw [hds']
    refine leaves_marks Ds w1 hDn hDw ?_
    rw [hw2]; exact hpost
  rcases hxf with rfl | rfl
  · exact hfin
  · exact hfin
end Go.Sx

/- The symbolic executor: loops: the state at the head of a round. -/
namespace Go.Sx
open Go

/-- A place of a loop's state: a slot; a cell of a variable. -/
inductive Pos where
  | s (t : Nat) | c (nm off : Nat)

namespace Tr
variable {α : Type}
def toL : Tr α → (Nat → Nat) → List (Nat × α)
  | .nil, _ => []
  | .node v l r, f => (match v with | some x => [(f 0, x)] | none => []) ++ l.toL (fun j => f (2 * j + 1)) ++ r.toL (fun j => f (2 * j + 2))
end Tr

def posCell (m : Loc) : Pos → Option Cell
  | .s t => match m.s.get t with | some ⟨[], .c x⟩ => some x | _ => none
  | .c nm off => match m.b.get nm with | some (.c _ cs) => cs[off]? | _ => none
def posCells (m : Loc) : List Pos → Option (List Cell)
  | [] => some []
  | p :: ps => match posCell m p, posCells m ps with
    | some c, some cs => some (c :: cs)
    | _, _ => none

def plainV : SV → Bool
  | .c _ | .g _ => true
  | _ => false
def sameCells : List Cell → List Cell → Bool
  | [], [] => true
  | a :: as, b :: bs => sameCell a b && sameCells as bs
  | _, _ => false
def sameSV : SV → SV → Bool
  | .c a, .c b => sameCell a b
  | .g as, .g bs => sameCells as bs
  | _, _ => false
def isPos (ps : List Pos) (nm j : Nat) : Bool := ps.any fun | .c nm' off => Nat.beq nm nm' && Nat.beq j off | _ => false
def sameBut (ps : List Pos) (nm : Nat) : Nat → List Cell → List Cell → Bool
  | _, [], [] => true
  | j, a :: as, b :: bs => (isPos ps nm j || sameCell a b) && sameBut ps nm (j + 1) as bs
  | _, _, _ => false
def sameBlk (ps : List Pos) (nm : Nat) : Blk → Blk → Bool
  | .c T cs, .c T' cs' => Nat.beq T T' && sameBut ps nm 0 cs cs'
  | .l t i, .l t' i' => Nat.beq t t' && Nat.beq i i'
  | .f t i, .f t' i' => Nat.beq t t' && Nat.beq i i'
  | _, _ => false
/-- The slots and blocks that a loop keeps. -/
structure Kept where
  s : List (Nat × Slot)
  b : List (Nat × Blk)
def keptS (S : List (Nat × Slot)) (m : Loc) : Bool := S.all fun p => match m.s.get p.1 with | some s => p.2.ex.isEmpty && s.ex.isEmpty && plainV s.v && sameSV p.2.v s.v | none => false
def keptB (ps : List Pos) (S : List (Nat × Blk)) (m : Loc) : Bool := S.all fun p => match m.b.get p.1 with | some B => sameBlk ps p.1 p.2 B | none => false
def apartB (S : List (Nat × Blk)) (nms : List Nat) : Bool := S.all fun p => !(nms.any (Nat.beq p.1))

def lookC : List Pos → List Cell → Nat → Nat → Cell → Cell
  | p :: ps, x :: xs, nm, j, c => match p with
    | .c nm' off => bif Nat.beq nm nm' && Nat.beq j off then x else lookC ps xs nm j c
    | .s _ => lookC ps xs nm j c
  | _, _, _, _, c => c
def modC (ps : List Pos) (xs : List Cell) (nm : Nat) : Nat → List Cell → List Cell
  | _, [] => []
  | j, c :: cs => lookC ps xs nm j c :: modC ps xs nm (j + 1) cs
def modB (ps : List Pos) (xs : List Cell) (nm : Nat) : Blk → Blk
  | .c T cs => .c T (modC ps xs nm 0 cs)
  | B => B
def posSlots : List Pos → List Cell → List (Nat × Option Slot)
  | .s t :: ps, x :: xs => (t, some ⟨[], .c x⟩) :: posSlots ps xs
  | .c _ _ :: ps, _ :: xs => posSlots ps xs
  | _, _ => []

variable {C : Cfg}
/-- The state at the head of a round, of contents. -/
def headOf (K : Kept) (ps : List Pos) (ks : List Kind) (g : Env C) (es : List (Ent C.R)) : Option (Loc × Env C) :=
  match outCells C g.n ks es with
  | none => none
  | some (cs, en, bs) => match setE en g.e with
    | none => none
    | some e => bif Nat.ble ks.length stride then some (⟨setS (K.s.map (fun p => (p.1, some p.2)) ++ posSlots ps cs) .nil, setB (bs ++ K.b.map fun p => (p.1, some (modB ps cs p.1 p.2))) .nil⟩, ⟨e, g.n + stride⟩) else none
/-- The contents at a state that may be at the head. -/
def backOf (K : Kept) (ps : List Pos) (ks : List Kind) (m : Loc) (g : Env C) : Option (List (Ent C.R)) :=
  match posCells m ps with
  | none => none
  | some cs => match (inOut C ks cs).run (stOf m g) with
    | none => none
    | some (es, nms) => bif nodupN nms && keptS K.s m && keptB ps K.b m && apartB K.b nms then some es else none

theorem setS_get : ∀ (l : List (Nat × Option Slot)) (t : Tr Slot) (k : Nat) (s : Slot), (setS l t).get k = some s → (k, some s) ∈ l ∨ t.get k = some s := by
  intro l
  induction l with
  | nil => intro t k s h; exact .inr h
  | cons p l ih =>
    intro t k s h
    obtain ⟨j, x⟩ := p
    simp only [setS] at h
    rcases ih _ _ _ h with h1 | h1
    · exact .inl (List.mem_cons_of_mem _ h1)
    · rw [Tr.get_set] at h1
      split at h1
      · rename_i he; subst he; rw [h1]; exact .inl (List.mem_cons_self ..)
      · exact .inr h1
theorem setB_get : ∀ (l : List (Nat × Option Blk)) (t : Tr Blk) (k : Nat) (s : Blk), (setB l t).get k = some s → (k, some s) ∈ l ∨ t.get k = some s := by
  intro l
  induction l with
  | nil => intro t k s h; exact .inr h
  | cons p l ih =>
    intro t k s h
    obtain ⟨j, x⟩ := p
    simp only [setB] at h
    rcases ih _ _ _ h with h1 | h1
    · exact .inl (List.mem_cons_of_mem _ h1)
    · rw [Tr.get_set] at h1
      split at h1
      · rename_i he; subst he; rw [h1]; exact .inl (List.mem_cons_self ..)
      · exact .inr h1

theorem sameCells_eq : ∀ {as bs : List Cell}, sameCells as bs = true → as = bs
  | [], [], _ => rfl
  | a :: as, b :: bs, h => by
    simp only [sameCells, Bool.and_eq_true] at h
    rw [sameCell_eq h.1, sameCells_eq h.2]
theorem sameSV_eq {x y : SV} (h : sameSV x y = true) : x = y := by
  cases x <;> cases y <;> simp only [sameSV] at h <;> first | (cases h; done) | (rw [sameCell_eq h]; done) | (rw [sameCells_eq h]; done)

section back
variable {w0 : World} {O0 : Frm} {X : Nat → Prop} {N : Nat} {w : World} {a : Act} {U : Nat → Prop} {ρ : Nat → Value} {m : Loc} {g : Env C}
/-- What lies at a place. -/
def PosV (ρ : Nat → Value) (a : Act) (w : World) : Pos → Value → Prop
  | .s t, v => a.tmps[t]? = some v
  | .c nm off, v => ∃ b vs T, ρ nm = .pointer (some ⟨b, 0, none⟩) ∧ w.heap[b]? = some (.cells vs T (0, 0)) ∧ vs.toList[off]? = some v
inductive PosVs (ρ : Nat → Value) (a : Act) (w : World) : List Pos → List Value → Prop
  | nil : PosVs ρ a w [] []
  | cons {p : Pos} {v : Value} {ps : List Pos} {vs : List Value} : PosV ρ a w p v → PosVs ρ a w ps vs → PosVs ρ a w (p :: ps) (v :: vs)

theorem pos_vals (S : Sim w0 O0 X N U (stOf m g) ρ a w) : ∀ {ps : List Pos} {cs : List Cell}, posCells m ps = some cs →
    ∃ vs, CsRel C U (stOf m g).e.get ρ w (Owns X (stOf m g) ρ) cs vs ∧ PosVs ρ a w ps vs := by
  intro ps
  induction ps with
  | nil => intro cs h; simp only [posCells, Option.some.injEq] at h; subst h; exact ⟨[], .nil, .nil⟩
  | cons p ps ih =>
    intro cs h
    simp only [posCells] at h
    split at h
    · rename_i c cs' h1 h2
      simp only [Option.some.injEq] at h
      subst h
      obtain ⟨vs, h3, h4⟩ := ih h2
      cases p with
      | s t =>
        simp only [posCell] at h1
        split at h1
        · rename_i x hs
          simp only [Option.some.injEq] at h1
          subst h1
          obtain ⟨v, h5, h6⟩ := S.slots t _ hs (fun p hp => by cases hp)
          exact ⟨v :: vs, .cons h6 h3, .cons h5 h4⟩
        · cases h1
      | c nm off =>
        simp only [posCell] at h1
        split at h1
        · rename_i T cs0 hb
          obtain ⟨b, us, h5, h6, h7⟩ := (S.blocks nm _ hb).2
          obtain ⟨v, h8, h9⟩ := csRel_get h7 h1
          exact ⟨v :: vs, .cons h9 h3, .cons ⟨b, us, T, h5, h6, h8⟩ h4⟩
        · cases h1
    · cases h

/-- What stays the same may be said of the earlier contents. -/
theorem cell_back {U0 UT U' : Nat → Prop} {E0 ET E' : Nat → Option (Ent C.R)} {ρ0 ρT ρ' : Nat → Value} {w1 w' : World} {P0 OT O' : Nat → Prop} (hE : ∀ id x, E0 id = some x → E' id = some x) (hET : ∀ id x, E0 id = some x → ET id = some x)
    (hU : ∀ k, U0 k → UT k) (hρ : ∀ k, U0 k → ρT k = ρ' k) (hs : Stays w' O' w' OT) {c : Cell} {v0 v : Value} (h0 : CRel C U0 E0 ρ0 w1 P0 c v0) (h : CRel C U' E' ρ' w' O' c v) : CRel C UT ET ρT w' OT c v := by
  cases c with
  | k l => exact h
  | v id =>
    obtain ⟨e, h1, _⟩ := h0
    obtain ⟨e', h2, h3⟩ := h
    rw [hE _ _ h1] at h2
    simp only [Option.some.injEq] at h2
    subst h2
    exact ⟨e, hET _ _ h1, h3.mono C hs⟩
  | p nm off => obtain ⟨h1, _⟩ := h0; obtain ⟨_, b, h2, h3⟩ := h; exact ⟨hU _ h1, b, by rw [hρ _ h1]; exact h2, h3⟩
  | pn => exact h
  | o nm => obtain ⟨h1, _⟩ := h0; obtain ⟨_, h2, h3⟩ := h; exact ⟨hU _ h1, by rw [hρ _ h1]; exact h2, by rw [hρ _ h1]; exact h3⟩
  | z => exact h
  | f _ => exact h
  | u => exact h
theorem cells_back {U0 UT U' : Nat → Prop} {E0 ET E' : Nat → Option (Ent C.R)} {ρ0 ρT ρ' : Nat → Value} {w1 w' : World} {P0 OT O' : Nat → Prop} (hE : ∀ id x, E0 id = some x → E' id = some x) (hET : ∀ id x, E0 id = some x → ET id = some x)
    (hU : ∀ k, U0 k → UT k) (hρ : ∀ k, U0 k → ρT k = ρ' k) (hs : Stays w' O' w' OT) : ∀ {cs : List Cell} {vs0 vs : List Value}, CsRel C U0 E0 ρ0 w1 P0 cs vs0 → CsRel C U' E' ρ' w' O' cs vs → CsRel C UT ET ρT w' OT cs vs := by
  intro cs
  induction cs with
  | nil => intro vs0 vs _ h; cases h; exact .nil
  | cons c cs ih => intro vs0 vs h0 h; cases h0 with | cons a1 a2 => cases h with | cons b1 b2 => exact .cons (cell_back hE hET hU hρ hs a1 b1) (ih a2 b2)
end back
end Go.Sx

/- The symbolic executor: loops: back to the head. -/
namespace Go.Sx
open Go
variable {C : Cfg} {w0 : World} {O0 : Frm} {X : Nat → Prop} {N : Nat}

theorem outCells_names : ∀ {n : Nat} {ks : List Kind} {es : List (Ent C.R)} {cs : List Cell} {en : List (Nat × Ent C.R)} {bs : List (Nat × Option Blk)}, outCells C n ks es = some (cs, en, bs) → cs.length = ks.length ∧ (bs.map (·.1)).Nodup ∧ ∀ p ∈ bs, n ≤ p.1 := by
  intro n ks
  induction ks generalizing n with
  | nil =>
    intro es cs en bs h
    cases es with
    | nil => simp only [outCells, Option.some.injEq, Prod.mk.injEq] at h; obtain ⟨rfl, rfl, rfl⟩ := h; simp
    | cons _ _ => simp [outCells] at h
  | cons k ks ih =>
    intro es cs en bs h
    cases es with
    | nil => simp [outCells] at h
    | cons e es =>
      simp only [outCells] at h
      split at h
      · cases h
      · rename_i cs1 en1 bs1 h1
        obtain ⟨i1, i2, i3⟩ := ih h1
        split at h
        · split at h
          · rcases bifE h with ⟨_, h⟩ | ⟨_, h⟩
            · simp only [Option.some.injEq, Prod.mk.injEq] at h
              obtain ⟨rfl, rfl, rfl⟩ := h
              refine ⟨by simp [i1], ?_, ?_⟩
              · simp only [List.map_cons]
                refine List.nodup_cons.mpr ⟨fun hm => ?_, i2⟩
                obtain ⟨p, hp, hpe⟩ := List.mem_map.mp hm
                have := i3 p hp
                omega
              · intro p hp
                rcases List.mem_cons.mp hp with rfl | hp
                · exact Nat.le_refl _
                · have := i3 p hp; omega
            · cases h
          · cases h
        · rcases bifE h with ⟨_, h⟩ | ⟨_, h⟩
          · simp only [Option.some.injEq, Prod.mk.injEq] at h
            obtain ⟨rfl, rfl, rfl⟩ := h
            exact ⟨by simp [i1], i2, fun p hp => by have := i3 p hp; omega⟩
          · cases h

theorem posSlots_mem {ρ : Nat → Value} {a : Act} {w : World} {P : Cell → Value → Prop} : ∀ {ps : List Pos} {cs : List Cell} {vs : List Value}, PosVs ρ a w ps vs → (∀ (j : Nat) (c : Cell), cs[j]? = some c → ∃ v, vs[j]? = some v ∧ P c v) →
    ∀ t s, (t, some s) ∈ posSlots ps cs → ∃ c v, s = ⟨[], .c c⟩ ∧ a.tmps[t]? = some v ∧ P c v := by
  intro ps
  induction ps with
  | nil => intro cs vs _ _ t s h; cases cs <;> cases h
  | cons p ps ih =>
    intro cs vs hp hc t s h
    cases hp with
    | cons h1 h2 =>
      rename_i v vs'
      cases cs with
      | nil => cases p <;> cases h
      | cons c cs =>
        have hc' : ∀ (j : Nat) (d : Cell), cs[j]? = some d → ∃ v, vs'[j]? = some v ∧ P d v := fun j d hj => by
          obtain ⟨u, h3, h4⟩ := hc (j + 1) d (by simpa using hj)
          exact ⟨u, by simpa using h3, h4⟩
        cases p with
        | c _ _ => exact ih h2 hc' t s h
        | s t' =>
          simp only [posSlots] at h
          rcases List.mem_cons.mp h with h | h
          · simp only [Prod.mk.injEq, Option.some.injEq] at h
            obtain ⟨rfl, rfl⟩ := h
            obtain ⟨u, h3, h4⟩ := hc 0 c (by simp)
            simp only [List.getElem?_cons_zero, Option.some.injEq] at h3
            subst h3
            exact ⟨c, v, rfl, h1, h4⟩
          · exact ih h2 hc' t s h

theorem lookC_rel {ρ : Nat → Value} {a : Act} {w : World} {P : Cell → Value → Prop} {nm j b : Nat} {T : TypeId} {us : Array Value} {c : Cell} {u : Value} (hr : ρ nm = .pointer (some ⟨b, 0, none⟩)) (hh : w.heap[b]? = some (.cells us T (0, 0))) (hu : us.toList[j]? = some u) :
    ∀ {ps : List Pos} {cs : List Cell} {vs : List Value}, PosVs ρ a w ps vs → cs.length = vs.length → (∀ (j : Nat) (c : Cell), cs[j]? = some c → ∃ v, vs[j]? = some v ∧ P c v) → (isPos ps nm j = false → P c u) → P (lookC ps cs nm j c) u := by
  intro ps
  induction ps with
  | nil => intro cs vs _ _ _ h; cases cs <;> exact h rfl
  | cons p ps ih =>
    intro cs vs hp hl hc h
    cases hp with
    | cons h1 h2 =>
      rename_i v vs'
      cases cs with
      | nil => simp at hl
      | cons d cs =>
        have hc' : ∀ (j : Nat) (d : Cell), cs[j]? = some d → ∃ v, vs'[j]? = some v ∧ P d v := fun j d hj => by
          obtain ⟨u, h3, h4⟩ := hc (j + 1) d (by simpa using hj)
          exact ⟨u, by simpa using h3, h4⟩
        have hl' : cs.length = vs'.length := by simpa using hl
        cases p with
        | s t => exact ih h2 hl' hc' (fun hn => h (by simpa [isPos] using hn))
        | c nm' off =>
          simp only [lookC]
          cases hb : (Nat.beq nm nm' && Nat.beq j off) with
          | true =>
            simp only [Bool.and_eq_true] at hb
            obtain rfl := Nat.beq_eq.mp hb.1
            obtain rfl := Nat.beq_eq.mp hb.2
            obtain ⟨b', us', T', q1, q2, q3⟩ := h1
            rw [hr] at q1
            simp only [Value.pointer.injEq, Option.some.injEq, Addr.mk.injEq, and_true] at q1
            subst q1
            rw [hh] at q2
            cases Option.some.inj q2
            rw [hu] at q3
            simp only [Option.some.injEq] at q3
            subst q3
            obtain ⟨u', h3, h4⟩ := hc 0 d (by simp)
            simp only [List.getElem?_cons_zero, Option.some.injEq] at h3
            subst h3
            exact h4
          | false =>
            refine ih h2 hl' hc' (fun hn => h ?_)
            simp only [isPos, List.any_cons, hb, Bool.false_or]
            exact hn

theorem sameBut_iff {ps : List Pos} {nm : Nat} : ∀ {cs cs' : List Cell} {j : Nat}, sameBut ps nm j cs cs' = true → cs.length = cs'.length ∧ ∀ i c, cs[i]? = some c → isPos ps nm (j + i) = true ∨ cs'[i]? = some c := by
  intro cs
  induction cs with
  | nil => intro cs' j h; cases cs' with | nil => exact ⟨rfl, fun i c h => by simp at h⟩ | cons _ _ => cases h
  | cons a cs ih =>
    intro cs' j h
    cases cs' with
    | nil => cases h
    | cons b cs' =>
      simp only [sameBut, Bool.and_eq_true, Bool.or_eq_true] at h
      obtain ⟨h1, h2⟩ := ih h.2
      refine ⟨by simp [h1], fun i c hi => ?_⟩
      cases i with
      | zero =>
        simp only [List.getElem?_cons_zero, Option.some.injEq] at hi
        subst hi
        rcases h.1 with h3 | h3
        · exact .inl h3
        · rw [sameCell_eq h3]; exact .inr rfl
      | succ i =>
        simp only [List.getElem?_cons_succ] at hi ⊢
        have := h2 i c hi
        rw [show j + 1 + i = j + (i + 1) by omega] at this
        exact this
theorem modC_get {ps : List Pos} {xs : List Cell} {nm : Nat} : ∀ {cs : List Cell} {j i : Nat}, (modC ps xs nm j cs)[i]? = cs[i]?.map (lookC ps xs nm (j + i)) := by
  intro cs
  induction cs with
  | nil => intro j i; simp [modC]
  | cons c cs ih =>
    intro j i
    simp only [modC]
    cases i with
    | zero => simp
    | succ i => simp only [List.getElem?_cons_succ, ih]; rw [show j + 1 + i = j + (i + 1) by omega]
theorem csRel_of_get {E : Nat → Option (Ent C.R)} {U : Nat → Prop} {ρ : Nat → Value} {w : World} {O : Nat → Prop} : ∀ {cs : List Cell} {vs : List Value}, cs.length = vs.length → (∀ (j : Nat) (c : Cell) (v : Value), cs[j]? = some c → vs[j]? = some v → CRel C U E ρ w O c v) → CsRel C U E ρ w O cs vs := by
  intro cs
  induction cs with
  | nil => intro vs hl _; cases vs with | nil => exact .nil | cons _ _ => simp at hl
  | cons c cs ih =>
    intro vs hl h
    cases vs with
    | nil => simp at hl
    | cons v vs => exact .cons (h 0 c v (by simp) (by simp)) (ih (by simpa using hl) (fun j d u hd hu => h (j + 1) d u (by simpa using hd) (by simpa using hu)))

/-- Back to the head of a round. -/
theorem head_sim {U0 U' P0 : Nat → Prop} {ρ0 ρ' : Nat → Value} {a' : Act} {w1 w' : World} {m' mT : Loc} {g g' gT : Env C} {K : Kept} {ps : List Pos} {ks : List Kind} {es : List (Ent C.R)}
    (hB : Below U0 g.n) (hKs : ∀ p ∈ K.s, ∃ v0, SRel C U0 g.e.get ρ0 w1 P0 p.2.v v0) (hKb : ∀ p ∈ K.b, U0 p.1 ∧ BRel C U0 g.e.get ρ0 w1 P0 p.1 p.2) (hKf : ∀ k v, O0.fx k v → U0 k)
    (S' : Sim w0 O0 X N U' (stOf m' g') ρ' a' w') (hle : ∀ id x, g.e.get id = some x → g'.e.get id = some x) (hback : backOf K ps ks m' g' = some es) (hhead : headOf K ps ks g es = some (mT, gT)) :
    g.Le gT ∧ ∃ ρT UT, Sim w0 O0 X N UT (stOf mT gT) ρT a' w' ∧ Below UT gT.n := by
  unfold backOf at hback
  split at hback
  · cases hback
  rename_i cs hcs
  split at hback
  · cases hback
  rename_i es' nms hio
  obtain ⟨hchk, hback⟩ : (nodupN nms && keptS K.s m' && keptB ps K.b m' && apartB K.b nms) = true ∧ some es' = some es := by
    rcases bifE hback with h | ⟨_, h⟩
    · exact h
    · cases h
  simp only [Option.some.injEq] at hback
  subst hback
  simp only [Bool.and_eq_true] at hchk
  obtain ⟨⟨⟨hnd, hks⟩, hkb⟩, hap⟩ := hchk
  unfold headOf at hhead
  split at hhead
  · cases hhead
  rename_i csT en bs hout
  split at hhead
  · cases hhead
  rename_i eT hse
  replace hhead := (bifE hhead).resolve_right (fun h => by cases h.2)
  obtain ⟨hlen, hhead⟩ := hhead
  simp only [Option.some.injEq, Prod.mk.injEq] at hhead
  obtain ⟨rfl, rfl⟩ := hhead
  have hlen := Nat.ble_eq.mp hlen
  have hE := setE_get _ _ _ hse
  obtain ⟨vs, hvs, hpv⟩ := pos_vals S' hcs
  obtain ⟨hVF, hown, hnmo⟩ := inOut_sound S' (O' := fun _ => False) (fun b h => h.elim) hio hvs
  obtain ⟨hl1, hl2⟩ := hVF.len
  simp only at hl1
  have hU0 : ∀ k, U0 k → k < g.n := hB
  let ρT : Nat → Value := rhoOf ρ' g.n vs
  let UT : Nat → Prop := fun k => U0 k ∨ (g.n ≤ k ∧ k < g.n + ks.length)
  let mT : Loc := ⟨setS (K.s.map (fun p => (p.1, some p.2)) ++ posSlots ps csT) .nil, setB (bs ++ K.b.map fun p => (p.1, some (modB ps csT p.1 p.2))) .nil⟩
  let gT : Env C := ⟨eT, g.n + stride⟩
  show g.Le gT ∧ ∃ ρT UT, Sim w0 O0 X N UT (stOf mT gT) ρT a' w' ∧ Below UT gT.n
  have hρ : ∀ k, U0 k → ρT k = ρ' k := fun k hk => rhoOf_old _ _ _ (by have := hU0 k hk; omega)
  obtain ⟨hn1, hn2, hn3⟩ := outCells_names hout
  obtain ⟨_, _, hbr, hfm, _⟩ := import_cells (E' := eT.get) (U' := UT) (ρ' := ρT) hout hVF (fun p hp => hE.2 p hp) (fun i h1 h2 => .inr ⟨h1, by omega⟩) (rhoOf_at _ _ _)
  have hblk : ∀ nm B, (stOf mT gT).b.get nm = some B → (nm, some B) ∈ bs ∨ ∃ B0 B', (nm, B0) ∈ K.b ∧ B = modB ps csT nm B0 ∧ m'.b.get nm = some B' ∧ sameBlk ps nm B0 B' = true := by
    intro nm B hB
    rcases setB_get _ _ _ _ hB with h | h
    · rcases List.mem_append.mp h with h | h
      · exact .inl h
      · obtain ⟨⟨nm', B0⟩, h1, h2⟩ := List.mem_map.mp h
        simp only [Prod.mk.injEq, Option.some.injEq] at h2
        obtain ⟨rfl, rfl⟩ := h2
        have := List.all_eq_true.mp hkb _ h1
        split at this
        · rename_i B' hB'
          exact .inr ⟨B0, B', h1, rfl, hB', this⟩
        · cases this
    · cases h
  have howned : ∀ {nm B0 B'}, sameBlk ps nm B0 B' = true → (modB ps csT nm B0).owned = B'.owned := by
    intro nm B0 B' h
    cases B0 <;> cases B' <;> first | rfl | (simp [sameBlk] at h)
  have hbsO : ∀ nm B b, (nm, some B) ∈ bs → blkOf (ρT nm) = some b → ∃ k ∈ nms, ∃ B', m'.b.get k = some B' ∧ B'.owned = true ∧ blkOf (ρ' k) = some b := by
    intro nm B b h1 h2
    have : b ∈ ownV ks vs := by rw [← hfm]; exact List.mem_filterMap.mpr ⟨_, h1, h2⟩
    rw [← hown] at this
    obtain ⟨k, hk, hkb'⟩ := List.mem_filterMap.mp this
    obtain ⟨B', hB', hBo⟩ := hnmo k hk
    exact ⟨k, hk, B', hB', hBo, hkb'⟩
  have hKU : ∀ nm B0, (nm, B0) ∈ K.b → U0 nm := fun nm B0 h => (hKb _ h).1
  have hownT : ∀ b, OwnN (stOf mT gT) ρT b → OwnN (stOf m' g') ρ' b := by
    rintro b ⟨nm, B, h1, h2, h3⟩
    rcases hblk nm B h1 with h | ⟨B0, B', h4, rfl, h5, h6⟩
    · obtain ⟨k, _, B', q1, q2, q3⟩ := hbsO nm B b h h3
      exact ⟨k, B', q1, q2, q3⟩
    · rw [hρ nm (hKU nm B0 h4)] at h3
      exact ⟨nm, B', h5, by rw [← howned h6]; exact h2, h3⟩
  let OT : Nat → Prop := Owns X (stOf mT gT) ρT
  have hOT : ∀ b, OT b → Owns X (stOf m' g') ρ' b := fun b h => h.imp id (hownT b)
  have hst : Stays w' (Owns X (stOf m' g') ρ') w' OT := stays_sub hOT
  obtain ⟨hV, _, _⟩ := inOut_sound S' (O' := OT) hOT hio hvs
  obtain ⟨hcsT, hBsT, _, _, _⟩ := import_cells (E' := eT.get) (U' := UT) (ρ' := ρT) hout hV (fun p hp => hE.2 p hp) (fun i h1 h2 => .inr ⟨h1, by omega⟩) (rhoOf_at _ _ _)
  have hUT : ∀ k, U0 k → UT k := fun k hk => .inl hk
  have hcell : ∀ {c : Cell} {v0 v : Value} {P0 : Nat → Prop}, CRel C U0 g.e.get ρ0 w1 P0 c v0 → CRel C U' g'.e.get ρ' w' (Owns X (stOf m' g') ρ') c v → CRel C UT eT.get ρT w' OT c v := fun h1 h2 => cell_back hle hE.1 hUT hρ hst h1 h2
  have hslot : ∀ t s, (stOf mT gT).s.get t = some s → s.ex = [] ∧ ∃ v, a'.tmps[t]? = some v ∧ SRel C UT eT.get ρT w' OT s.v v := by
    intro t s ht
    rcases setS_get _ _ _ _ ht with h | h
    · rcases List.mem_append.mp h with h | h
      · obtain ⟨⟨t', s0⟩, h1, h2⟩ := List.mem_map.mp h
        simp only [Prod.mk.injEq, Option.some.injEq] at h2
        obtain ⟨rfl, rfl⟩ := h2
        have := List.all_eq_true.mp hks _ h1
        split at this
        · rename_i s' hs'
          simp only [Bool.and_eq_true, List.isEmpty_iff] at this
          obtain ⟨⟨⟨c1, c2⟩, c3⟩, c4⟩ := this
          have hsv := sameSV_eq c4
          obtain ⟨v0, p2⟩ := hKs _ h1
          obtain ⟨v, q1, q2⟩ := S'.slots t' s' hs' (by rw [c2]; intro p hp; cases hp)
          refine ⟨c1, v, q1, ?_⟩
          simp only at p2
          rw [← hsv] at q2 c3
          cases hv : s0.v with
          | c c => rw [hv] at p2 q2; exact hcell p2 q2
          | g cs =>
            rw [hv] at p2 q2
            obtain ⟨us0, _, r2⟩ := p2
            obtain ⟨us, r3, r4⟩ := q2
            exact ⟨us, r3, cells_back hle hE.1 hUT hρ hst r2 r4⟩
          | t _ => rw [hv] at c3; cases c3
          | e _ _ _ _ => rw [hv] at c3; cases c3
        · cases this
      · obtain ⟨c, v, rfl, h2, h3⟩ := posSlots_mem (P := CRel C UT eT.get ρT w' OT) hpv (fun j c hj => csRel_get hcsT hj) t s h
        exact ⟨rfl, v, h2, h3⟩
    · cases h
  refine ⟨⟨hE.1, Nat.le_add_right _ _⟩, ρT, UT, ?_, fun k hk => ?_⟩
  case' refine_2 =>
    rcases hk with hk | hk
    · have := hU0 k hk; show k < g.n + stride; omega
    · show k < g.n + stride; omega
  refine ⟨S'.size, S'.defers, ?_, ?_, ?_, ?_, ?_, ?_, S'.xok, S'.os, S'.tape, S'.output, S'.hsize, ?_, S'.kept⟩
  · intro t s ht p hp
    rw [(hslot t s ht).1] at hp; cases hp
  · intro t s ht _; exact (hslot t s ht).2
  · intro t s ht hx
    exact absurd (by rw [(hslot t s ht).1]; intro p hp; cases hp) hx
  · intro nm B hBn
    rcases hblk nm B hBn with h | ⟨B0, B', h4, rfl, h5, h6⟩
    · obtain ⟨B2, q1, q2, _, q4⟩ := hBsT _ h
      simp only [Option.some.injEq] at q1
      subst q1
      exact ⟨q2, q4⟩
    · have hu := hKU nm B0 h4
      have hr0 := (hKb _ h4).2
      have hr' := (S'.blocks nm B' h5).2
      refine ⟨hUT _ hu, ?_⟩
      cases B0 with
      | c T cs0 =>
        cases B' with
        | c T' cs' =>
          simp only [sameBlk, Bool.and_eq_true] at h6
          obtain rfl := Nat.beq_eq.mp h6.1
          obtain ⟨s1, s2⟩ := sameBut_iff h6.2
          obtain ⟨b0, us0, _, _, z3⟩ := hr0
          obtain ⟨b, us, z4, z5, z6⟩ := hr'
          have hln := csRel_length z6
          refine ⟨b, us, by rw [hρ nm hu]; exact z4, z5, csRel_of_get ?_ ?_⟩
          · have : (modC ps csT nm 0 cs0).length = cs0.length := by
              have : ∀ (cs : List Cell) (j : Nat), (modC ps csT nm j cs).length = cs.length := by
                intro cs
                induction cs with
                | nil => intro j; rfl
                | cons c cs ih => intro j; simp [modC, ih]
              exact this _ _
            rw [this, s1, hln]
          · intro j c u hc hu'
            rw [modC_get, Nat.zero_add] at hc
            cases hcj : cs0[j]? with
            | none => rw [hcj] at hc; cases hc
            | some c0 =>
              rw [hcj] at hc
              simp only [Option.map_some, Option.some.injEq] at hc
              subst hc
              refine lookC_rel (P := CRel C UT eT.get ρT w' OT) (ρ := ρ') (a := a') z4 z5 hu' hpv (by rw [hn1, hl2]) (fun j c hj => csRel_get hcsT hj) (fun hnp => ?_)
              rcases s2 j c0 hcj with h7 | h7
              · rw [Nat.zero_add, hnp] at h7; cases h7
              · obtain ⟨v0, _, y2⟩ := csRel_get z3 hcj
                obtain ⟨v1, y3, y4⟩ := csRel_get z6 h7
                rw [hu'] at y3
                simp only [Option.some.injEq] at y3
                subst y3
                exact hcell y2 y4
        | l _ _ => simp [sameBlk] at h6
        | f _ _ => simp [sameBlk] at h6
      | l t id =>
        cases B' with
        | l t' id' =>
          simp only [sameBlk, Bool.and_eq_true] at h6
          obtain rfl := Nat.beq_eq.mp h6.1
          obtain rfl := Nat.beq_eq.mp h6.2
          obtain ⟨xs0, _, z1, _, _⟩ := hr0
          obtain ⟨xs, vals, z4, z5, z6⟩ := hr'
          have : xs0 = xs := by
            have := hle _ _ z1
            rw [z4] at this
            simp only [Option.some.injEq, Ent.ro.injEq, heq_eq_eq, true_and] at this
            exact this.symm
          subst this
          exact ⟨xs0, vals, hE.1 _ _ z1, fun i x hi j e hj => by obtain ⟨v, y1, y2⟩ := z5 i x hi j e hj; exact ⟨v, y1, y2.mono C hst⟩, by rw [hρ nm hu]; exact z6⟩
        | c _ _ => simp [sameBlk] at h6
        | f _ _ => simp [sameBlk] at h6
      | f t id =>
        cases B' with
        | f t' id' =>
          simp only [sameBlk, Bool.and_eq_true] at h6
          obtain rfl := Nat.beq_eq.mp h6.1
          obtain rfl := Nat.beq_eq.mp h6.2
          obtain ⟨xs0, z1, _⟩ := hr0
          obtain ⟨xs, z4, z5⟩ := hr'
          have : xs0 = xs := by
            have := hle _ _ z1
            rw [z4] at this
            simp only [Option.some.injEq, Ent.ro.injEq, heq_eq_eq, true_and] at this
            exact this.symm
          subst this
          exact ⟨xs0, hE.1 _ _ z1, by rw [hρ nm hu]; exact z5.mono C hst⟩
        | c _ _ => simp [sameBlk] at h6
        | l _ _ => simp [sameBlk] at h6
  · intro nm nm' B B' b h1 h2 o1 o2 h3 h4
    have hmix : ∀ {nm nm' B B'}, (nm, some B) ∈ bs → (∃ B0 B2, (nm', B0) ∈ K.b ∧ B' = modB ps csT nm' B0 ∧ m'.b.get nm' = some B2 ∧ sameBlk ps nm' B0 B2 = true) → B'.owned = true → blkOf (ρT nm) = some b → blkOf (ρT nm') = some b → False := by
      rintro nm nm' B B' hb ⟨B0, B2, k1, rfl, k3, k4⟩ ho hb1 hb2
      obtain ⟨k, hk, B3, q1, q2, q3⟩ := hbsO nm B b hb hb1
      rw [hρ nm' (hKU nm' B0 k1)] at hb2
      have := S'.disj nm' k B2 B3 b k3 q1 (by rw [← howned k4]; exact ho) q2 hb2 q3
      subst this
      have := List.all_eq_true.mp hap _ k1
      simp only [Bool.not_eq_true', List.any_eq_false] at this
      exact this nm' hk (Nat.beq_eq.mpr rfl)
    rcases hblk nm B h1 with p | p <;> rcases hblk nm' B' h2 with q | q
    · exact filterMap_inj (f := fun k => blkOf (ρT k)) (by rw [hfm, ← hown]; exact names_nodup S' nms (nodupN_iff.mp hnd) hnmo) _ p _ q b h3 h4
    · exact (hmix p q o2 h3 h4).elim
    · exact (hmix q p o1 h4 h3).elim
    · obtain ⟨B0, B2, k1, rfl, k3, k4⟩ := p
      obtain ⟨B0', B2', k1', rfl, k3', k4'⟩ := q
      rw [hρ nm (hKU nm B0 k1)] at h3
      rw [hρ nm' (hKU nm' B0' k1')] at h4
      exact S'.disj nm nm' B2 B2' b k3 k3' (by rw [← howned k4]; exact o1) (by rw [← howned k4']; exact o2) h3 h4
  · intro b hb; exact S'.own b (hownT b hb)
  · intro k v hk
    have hu := hKf k v hk
    exact ⟨hUT k hu, by rw [hρ k hu]; exact (S'.fix k v hk).2⟩
end Go.Sx

/- The symbolic executor: the loop rule. -/
namespace Go.Sx
open Go
variable {C : Cfg} {N : Nat} {Γ : Nat → Option (FSum C)} {L : Loops C}

theorem Tr.toL_get {α : Type} : ∀ {t : Tr α} {f : Nat → Nat} {k : Nat} {a : α}, t.get k = some a → (f k, a) ∈ t.toL f := by
  intro t
  induction t with
  | nil => intro f k a h; cases h
  | node v l r ihl ihr =>
    intro f k a h
    rw [Tr.get_node] at h
    simp only [Tr.toL, List.mem_append]
    by_cases h0 : k = 0
    · rw [if_pos h0] at h
      subst h0; subst h
      exact .inl (.inl (by simp))
    · rw [if_neg h0] at h
      by_cases h1 : k % 2 = 1
      · rw [if_pos h1] at h
        have := ihl (f := fun j => f (2 * j + 1)) h
        rw [show 2 * (k / 2) + 1 = k by omega] at this
        exact .inl (.inr this)
      · rw [if_neg h1] at h
        have := ihr (f := fun j => f (2 * j + 2)) h
        rw [show 2 * (k / 2 - 1) + 2 = k by omega] at this
        exact .inr this

/-- What is written down of a loop: the state at its entry: slots and blocks that it keeps, the numbers of their entries; the places of its own state. -/
structure LAnn where
  n : Nat
  s : List (Nat × Slot)
  b : List (Nat × Blk)
  ids : List (Nat × Kind)
  ps : List Pos
  ks : List Kind

def zipIds {R : Nat → Type} : List (Nat × Kind) → List (Ent R) → List (Nat × Ent R)
  | (i, _) :: l, e :: es => (i, e) :: zipIds l es
  | _, _ => []
def takeIds (g : Env C) : List (Nat × Kind) → Option (List (Ent C.R))
  | [] => some []
  | (i, k) :: l => match g.e.get i with
    | some e => bif Kind.same e.kind k then (match takeIds g l with | some es => some (e :: es) | none => none) else none
    | none => none
def baseEnv (A : LAnn) (es : List (Ent C.R)) : Option (Env C) :=
  match setE (zipIds A.ids es) .nil with
  | some e => some ⟨e, A.n⟩
  | none => none
def knownC (ids : List (Nat × Kind)) : Cell → Bool
  | .v id => ids.any fun p => Nat.beq p.1 id
  | _ => true
def knownS (ids : List (Nat × Kind)) : SV → Bool
  | .c c => knownC ids c
  | .g cs => cs.all (knownC ids)
  | _ => false
def knownB (ids : List (Nat × Kind)) : Blk → Bool
  | .c _ cs => cs.all (knownC ids)
  | .l _ i => ids.any fun p => Nat.beq p.1 i
  | .f _ i => ids.any fun p => Nat.beq p.1 i
def sameBlk' : Blk → Blk → Bool
  | .c T cs, .c T' cs' => Nat.beq T T' && sameCells cs cs'
  | .l t i, .l t' i' => Nat.beq t t' && Nat.beq i i'
  | .f t i, .f t' i' => Nat.beq t t' && Nat.beq i i'
  | _, _ => false
def entryOk (A : LAnn) (m : Loc) (g : Env C) : Bool :=
  (A.s.all fun p => knownS A.ids p.2.v && (match m.s.get p.1 with | some s => s.ex.isEmpty && sameSV p.2.v s.v | none => false)) &&
  (A.b.all fun p => knownB A.ids p.2 && (match m.b.get p.1 with | some B => sameBlk' p.2 B | none => false)) && Nat.ble g.n A.n

def endO (id : Nat) : Out → Out
  | .leaf ob x m => match x with
    | .nx => .fail
    | .ex i => bif Nat.beq i id then .leaf ob .nx m else .leaf ob (.ex i) m
    | .rt => .leaf ob .rt m
  | .br c a b => .br c (endO id a) (endO id b)
  | .fail => .fail

/-- A loop, by the state at the head of its last round. -/
def loopF (Γ : Nat → Option (FSum C)) (L : Loops C) (N fuel id : Nat) (body : Code) (A : LAnn) (inv : KsT C (A.ids.map (·.2)) → KsT C A.ks → List Bool)
    (fin : KsT C (A.ids.map (·.2)) → KsT C A.ks → KsT C A.ks) (m : Loc) (g : Env C) : Option (Out × Env C) :=
  match takeIds g A.ids with
  | none => none
  | some κ => match backOf ⟨A.s, A.b⟩ A.ps A.ks m g with
    | none => none
    | some es => bif entryOk A m g then
        match baseEnv A κ with
        | none => none
        | some g0 => match headOf ⟨A.s, A.b⟩ A.ps A.ks g0 (mkK A.ks (fin (unK _ κ) (unK _ es))) with
          | none => none
          | some (mT, gT) => match ev C Γ L N fuel body mT gT with
            | none => none
            | some (o, g') => match setE ((g'.e.toL (fun j => j)).filter fun p => !(A.ids.any fun q => Nat.beq q.1 p.1)) g.e with
              | none => none
              | some e => some (andOb (inv (unK _ κ) (unK _ es)) (endO id o), ⟨e, g'.n⟩)
      else none

theorem endO_pick {id : Nat} : ∀ {o : Out} {ob : List Bool} {x' : Fin} {m : Loc}, (endO id o).pick = some (ob, x', m) → ∃ x, o.pick = some (ob, x, m) ∧ ((x = .ex id ∧ x' = .nx) ∨ (x' = x ∧ ((x = .rt) ∨ ∃ i, x = .ex i ∧ i ≠ id))) := by
  intro o
  induction o with
  | leaf ob1 x m1 =>
    intro ob x' m h
    cases x with
    | nx => simp [endO, Out.pick] at h
    | rt =>
      simp only [endO, Out.pick, Option.some.injEq, Prod.mk.injEq] at h
      obtain ⟨rfl, rfl, rfl⟩ := h
      exact ⟨.rt, rfl, .inr ⟨rfl, .inl rfl⟩⟩
    | ex i =>
      simp only [endO, cbeq] at h
      split at h
      · rename_i he
        subst he
        simp only [Out.pick, Option.some.injEq, Prod.mk.injEq] at h
        obtain ⟨rfl, rfl, rfl⟩ := h
        exact ⟨.ex i, rfl, .inl ⟨rfl, rfl⟩⟩
      · rename_i hne
        simp only [Out.pick, Option.some.injEq, Prod.mk.injEq] at h
        obtain ⟨rfl, rfl, rfl⟩ := h
        exact ⟨.ex i, rfl, .inr ⟨rfl, .inr ⟨i, rfl, hne⟩⟩⟩
  | br c a b iha ihb =>
    intro ob x' m h
    simp only [endO, Out.pick] at h ⊢
    cases c with
    | true => exact iha h
    | false => exact ihb h
  | fail => intro ob x' m h; simp [endO, Out.pick] at h

theorem takeIds_ok {g : Env C} : ∀ {ids : List (Nat × Kind)} {κ : List (Ent C.R)}, takeIds g ids = some κ → κ.map Ent.kind = ids.map (·.2) ∧ ∀ p ∈ zipIds ids κ, g.e.get p.1 = some p.2 := by
  intro ids
  induction ids with
  | nil => intro κ h; simp only [takeIds, Option.some.injEq] at h; subst h; exact ⟨rfl, fun p hp => by cases hp⟩
  | cons q ids ih =>
    intro κ h
    obtain ⟨i, k⟩ := q
    simp only [takeIds] at h
    split at h
    · rename_i e he
      obtain ⟨hk, h⟩ := (bifE h).resolve_right (fun h => by cases h.2)
      split at h
      · rename_i es hes
        simp only [Option.some.injEq] at h
        subst h
        obtain ⟨h1, h2⟩ := ih hes
        refine ⟨by simp [h1, Kind.same_iff.mp hk], fun p hp => ?_⟩
        rcases List.mem_cons.mp hp with rfl | hp
        · exact he
        · exact h2 p hp
      · cases h
    · cases h
theorem zip_mem {R : Nat → Type} : ∀ {ids : List (Nat × Kind)} {κ : List (Ent R)}, κ.map Ent.kind = ids.map (·.2) → ∀ i, (ids.any fun p => Nat.beq p.1 i) = true → ∃ e, (i, e) ∈ zipIds ids κ := by
  intro ids
  induction ids with
  | nil => intro κ _ i h; cases h
  | cons q ids ih =>
    intro κ hk i h
    obtain ⟨j, k⟩ := q
    cases κ with
    | nil => simp at hk
    | cons e κ =>
      simp only [List.map_cons, List.cons.injEq] at hk
      simp only [List.any_cons, Bool.or_eq_true] at h
      rcases h with h | h
      · rw [← Nat.beq_eq.mp h]; exact ⟨e, List.mem_cons_self ..⟩
      · obtain ⟨e', he⟩ := ih hk.2 i h; exact ⟨e', List.mem_cons_of_mem _ he⟩
theorem kinds_typed : ∀ {ks : List Kind} {es : List (Ent C.R)}, es.map Ent.kind = ks → mkK ks (unK ks es) = es := by
  intro ks
  induction ks with
  | nil => intro es h; cases es with | nil => rfl | cons _ _ => simp at h
  | cons k ks ih =>
    intro es h
    cases es with
    | nil => simp at h
    | cons e es =>
      simp only [List.map_cons, List.cons.injEq] at h
      show mkE k (unE k e) :: mkK ks (unK ks es) = e :: es
      rw [ih h.2]
      congr 1
      rw [← h.1]
      cases e with
      | b v => rfl
      | i k n => rfl
      | s v => rfl
      | ro t xs => show Ent.ro t (unE (.ro t) (.ro t xs)) = _; congr 1; exact dif_pos rfl

theorem least_of {p : Nat → Prop} (h : ∃ k, p k) : ∃ k, p k ∧ ∀ j, p j → k ≤ j := by
  obtain ⟨k, hk⟩ := h
  induction k using Nat.strongRecOn with
  | _ k ih =>
    by_cases hj : ∃ j, j < k ∧ p j
    · obtain ⟨j, h1, h2⟩ := hj; exact ih j h1 h2
    · exact ⟨k, hk, fun j hp => Nat.le_of_not_lt (fun hlt => hj ⟨j, hlt, hp⟩)⟩

/-- A loop whose rounds are by numbers. -/
theorem wp_loop_by {σ : Type} {F : Fence} {kk : Nat} {P : Program} {c : Code} {Q : Exit → Act → World → Prop} {a : Act} {w : World} (I : σ → Act → World → Prop) (μ : σ → Nat) (s0 : σ) (h0 : I s0 a w)
    (round : ∀ s a w, I s a w → c.wpIn F kk P (Exit.then (fun a' w' => ∃ s', I s' a' w' ∧ μ s' < μ s) Q) a w) : (Code.loop c).wpIn F kk P Q a w := by
  classical
  let p : Act → World → Nat → Prop := fun a w k => ∃ s, I s a w ∧ μ s = k
  let M : Act → World → Nat := fun a w => if h : ∃ k, p a w k then (least_of h).choose else 0
  have hM : ∀ a w s, I s a w → M a w ≤ μ s ∧ ∃ s', I s' a w ∧ μ s' = M a w := by
    intro a w s hs
    have h : ∃ k, p a w k := ⟨μ s, s, hs, rfl⟩
    have hc := (least_of h).choose_spec
    have e : M a w = (least_of h).choose := dif_pos h
    rw [e]
    exact ⟨hc.2 _ ⟨s, hs, rfl⟩, hc.1⟩
  refine wpIn_loop (fun a w => ∃ s, I s a w) M ⟨s0, h0⟩ ?_
  rintro a w ⟨s, hs⟩
  obtain ⟨_, s', hs', he⟩ := hM a w s hs
  refine wpIn_mono (round s' a w hs') ?_
  intro e a' w' h
  cases e with
  | normal =>
    obtain ⟨s2, h1, h2⟩ := h
    have := (hM a' w' s2 h1).1
    exact ⟨⟨s2, h1⟩, by omega⟩
  | exit id => exact h
  | goto l => exact h
  | ret => exact h
  | panic c => exact h
  | outgrown => exact h
end Go.Sx

/- The symbolic executor: the loop rule, proved. -/
namespace Go.Sx
open Go
variable {C : Cfg} {N : Nat} {Γ : Nat → Option (FSum C)} {L : Loops C}

/-- What a round does: it goes on, nearer to the end, or it ends. -/
def RoundOK (C : Cfg) (Γ : Nat → Option (FSum C)) (L : Loops C) (N fuel : Nat) (body : Code) (A : LAnn) (inv : KsT C (A.ids.map (·.2)) → KsT C A.ks → List Bool)
    (fin : KsT C (A.ids.map (·.2)) → KsT C A.ks → KsT C A.ks) (μ : KsT C (A.ids.map (·.2)) → KsT C A.ks → Nat) : Prop :=
  ∀ κ σ, (∀ b ∈ inv κ σ, b = true) → ∃ g0 mT gT o g', baseEnv A (mkK _ κ) = some g0 ∧ headOf ⟨A.s, A.b⟩ A.ps A.ks g0 (mkK A.ks σ) = some (mT, gT) ∧ ev C Γ L N fuel body mT gT = some (o, g') ∧
    ∃ ob x m1, o.pick = some (ob, x, m1) ∧ (∀ b ∈ ob, b = true) ∧
      ((x = .nx ∧ ∃ σ', backOf ⟨A.s, A.b⟩ A.ps A.ks m1 g' = some (mkK A.ks σ') ∧ (∀ b ∈ inv κ σ', b = true) ∧ μ κ σ' < μ κ σ ∧ fin κ σ' = fin κ σ) ∨ (x ≠ .nx ∧ fin κ σ = σ))

theorem known_cell {g0 g : Env C} {ids : List (Nat × Kind)} (hsub : ∀ id x, g0.e.get id = some x → g.e.get id = some x) (hids : ∀ i, (ids.any fun p => Nat.beq p.1 i) = true → ∃ e, g0.e.get i = some e)
    {U O : Nat → Prop} {ρ : Nat → Value} {w : World} {c : Cell} {v : Value} (hk : knownC ids c = true) (h : CRel C U g.e.get ρ w O c v) : CRel C U g0.e.get ρ w O c v := by
  cases c with
  | v id =>
    obtain ⟨e, h1, h2⟩ := h
    obtain ⟨e', h3⟩ := hids id hk
    have := hsub _ _ h3
    rw [h1] at this
    simp only [Option.some.injEq] at this
    subst this
    exact ⟨e, h3, h2⟩
  | _ => exact h
theorem known_cells {g0 g : Env C} {ids : List (Nat × Kind)} (hsub : ∀ id x, g0.e.get id = some x → g.e.get id = some x) (hids : ∀ i, (ids.any fun p => Nat.beq p.1 i) = true → ∃ e, g0.e.get i = some e)
    {U O : Nat → Prop} {ρ : Nat → Value} {w : World} : ∀ {cs : List Cell} {vs : List Value}, cs.all (knownC ids) = true → CsRel C U g.e.get ρ w O cs vs → CsRel C U g0.e.get ρ w O cs vs := by
  intro cs
  induction cs with
  | nil => intro vs _ h; cases h; exact .nil
  | cons c cs ih =>
    intro vs hk h
    simp only [List.all_cons, Bool.and_eq_true] at hk
    cases h with | cons h1 h2 => exact .cons (known_cell hsub hids hk.1 h1) (ih hk.2 h2)
theorem sameBlk'_eq {x y : Blk} (h : sameBlk' x y = true) : x = y := by
  cases x <;> cases y <;> simp only [sameBlk', Bool.and_eq_true] at h <;> first | (cases h; done) | (rw [Nat.beq_eq.mp h.1, sameCells_eq h.2]; done) | (rw [Nat.beq_eq.mp h.1, Nat.beq_eq.mp h.2]; done)

theorem loop_ok {ro : Option Nat} (Kk : C.Ok) (G0 : GamOK C Γ) {fuel id : Nat} {body : Code} {A : LAnn} {inv : KsT C (A.ids.map (·.2)) → KsT C A.ks → List Bool}
    {fin : KsT C (A.ids.map (·.2)) → KsT C A.ks → KsT C A.ks} (μ : KsT C (A.ids.map (·.2)) → KsT C A.ks → Nat) (hL : LoopsK C N ro L body) (hR : RoundOK C Γ L N fuel body A inv fin μ) :
    ∀ m g r, loopF Γ L N fuel id body A inv fin m g = some r → OutK C N ro (.block id (.loop body)) m g r := by
  intro m g r h
  unfold loopF at h
  split at h
  · cases h
  rename_i κ hκ
  split at h
  · cases h
  rename_i es hes
  obtain ⟨hent, h⟩ := (bifE h).resolve_right (fun h => by cases h.2)
  split at h
  · cases h
  rename_i g0 hg0
  split at h
  · cases h
  rename_i mF gF hhF
  split at h
  · cases h
  rename_i oF gE hevF
  split at h
  · cases h
  rename_i eE hseE
  simp only [Option.some.injEq] at h
  subst h
  obtain ⟨hκk, hκg⟩ := takeIds_ok hκ
  have hκt : mkK _ (unK (A.ids.map (·.2)) κ) = κ := kinds_typed hκk
  have hg0' := hg0
  obtain ⟨e0, hse0, rfl⟩ : ∃ e0, setE (zipIds A.ids κ) .nil = some e0 ∧ (⟨e0, A.n⟩ : Env C) = g0 := by
    unfold baseEnv at hg0
    split at hg0
    · rename_i e0 hse0
      exact ⟨e0, hse0, Option.some.inj hg0⟩
    · cases hg0
  have hE0 := setE_get _ _ _ hse0
  have hEE := setE_get _ _ _ hseE
  -- the entries of the base are those of the entry
  have hsub : ∀ i x, e0.get i = some x → g.e.get i = some x := by
    intro i x hx
    have : ∀ {l : List (Nat × Ent C.R)} {t t' : Tr (Ent C.R)}, setE l t = some t' → ∀ i x, t'.get i = some x → (i, x) ∈ l ∨ t.get i = some x := by
      intro l
      induction l with
      | nil => intro t t' h i x hx; simp only [setE, Option.some.injEq] at h; subst h; exact .inr hx
      | cons p l ih =>
        intro t t' h i x hx
        obtain ⟨k, y⟩ := p
        simp only [setE] at h
        split at h
        · cases h
        · rcases ih h i x hx with h1 | h1
          · exact .inl (List.mem_cons_of_mem _ h1)
          · rw [Tr.get_set] at h1
            split at h1
            · rename_i he; subst he; simp only [Option.some.injEq] at h1; subst h1; exact .inl (List.mem_cons_self ..)
            · exact .inr h1
    rcases this hse0 i x hx with h1 | h1
    · exact hκg _ h1
    · cases h1
  have hids : ∀ i, (A.ids.any fun p => Nat.beq p.1 i) = true → ∃ e, e0.get i = some e := by
    intro i hi
    obtain ⟨e, he⟩ := zip_mem hκk i hi
    exact ⟨e, hE0.2 _ he⟩
  obtain ⟨hev1, hev2⟩ := ev_ok Kk G0 fuel hevF hL
  simp only [entryOk, Bool.and_eq_true, Nat.ble_eq] at hent
  obtain ⟨⟨hKs, hKb⟩, hnA⟩ := hent
  have hgE : gE.Le ⟨eE, gE.n⟩ := by
    refine ⟨fun i x hx => ?_, Nat.le_refl _⟩
    by_cases hi : (A.ids.any fun q => Nat.beq q.1 i) = true
    · obtain ⟨e, he⟩ := hids i hi
      have h1 : gE.e.get i = some e := by
        refine hev1.e i e ?_
        unfold headOf at hhF
        split at hhF
        · cases hhF
        · split at hhF
          · cases hhF
          · rename_i hse
            obtain ⟨_, hhF⟩ := (bifE hhF).resolve_right (fun h => by cases h.2)
            simp only [Option.some.injEq, Prod.mk.injEq] at hhF
            obtain ⟨_, rfl⟩ := hhF
            exact (setE_get _ _ _ hse).1 i e he
      rw [h1] at hx
      simp only [Option.some.injEq] at hx
      subst hx
      exact hEE.1 i e (hsub i e he)
    · refine hEE.2 (i, x) (List.mem_filter.mpr ⟨Tr.toL_get (f := fun j => j) hx, ?_⟩)
      show (!(A.ids.any fun q => Nat.beq q.1 i)) = true
      cases hq : (A.ids.any fun q => Nat.beq q.1 i) with
      | false => rfl
      | true => exact absurd hq hi
  have hgr : g.Le ⟨eE, gE.n⟩ := by
    refine ⟨hEE.1, ?_⟩
    have : A.n ≤ gF.n := by
      unfold headOf at hhF
      split at hhF
      · cases hhF
      · split at hhF
        · cases hhF
        · obtain ⟨_, hhF⟩ := (bifE hhF).resolve_right (fun h => by cases h.2)
          simp only [Option.some.injEq, Prod.mk.injEq] at hhF
          obtain ⟨_, rfl⟩ := hhF
          exact Nat.le_add_right _ _
    exact Nat.le_trans hnA (Nat.le_trans this hev1.n)
  refine ⟨hgr, fun ob x mf hp hob w0 O0 X U0 ρ0 a w Q kk SM hB hQ => ?_⟩
  obtain ⟨wb, Ob, hbase, S⟩ := SM
  obtain ⟨ob1, hp1, rfl⟩ := andOb_pick hp
  have hinv : ∀ b ∈ inv (unK _ κ) (unK _ es), b = true := fun b hb => hob b (List.mem_append_left _ hb)
  have hob1 : ∀ b ∈ ob1, b = true := fun b hb => hob b (List.mem_append_right _ hb)
  -- the state's contents at the entry
  have hest : mkK A.ks (unK A.ks es) = es := by
    have hes2 := hes
    unfold backOf at hes2
    split at hes2
    · cases hes2
    · rename_i cs hcs
      split at hes2
      · cases hes2
      · rename_i es' nms hio
        obtain ⟨_, hes2⟩ := (bifE hes2).resolve_right (fun h => by cases h.2)
        simp only [Option.some.injEq] at hes2
        subst hes2
        obtain ⟨vs, hvs, _⟩ := pos_vals S hcs
        obtain ⟨hV, _, _⟩ := inOut_sound S (O' := fun _ => False) (fun b h => h.elim) hio hvs
        obtain ⟨y, hy⟩ := vrs_typed hV
        simp only at hy
        rw [hy, unK_mk]
  have hKs' : ∀ p ∈ A.s, ∃ v0, SRel C U0 e0.get ρ0 w (Owns X (stOf m g) ρ0) p.2.v v0 := by
    intro p hpm
    have := List.all_eq_true.mp hKs p hpm
    simp only [Bool.and_eq_true] at this
    obtain ⟨k1, k2⟩ := this
    split at k2
    · rename_i s hs
      simp only [Bool.and_eq_true, List.isEmpty_iff] at k2
      obtain ⟨v, _, h2⟩ := S.slots p.1 s hs (by rw [k2.1]; intro p hp; cases hp)
      rw [← sameSV_eq k2.2] at h2
      refine ⟨v, ?_⟩
      cases hv : p.2.v with
      | c c => rw [hv] at h2 k1; exact known_cell (g0 := ⟨e0, A.n⟩) hsub hids k1 h2
      | g cs => rw [hv] at h2 k1; obtain ⟨us, r1, r2⟩ := h2; exact ⟨us, r1, known_cells (g0 := ⟨e0, A.n⟩) hsub hids k1 r2⟩
      | t _ => rw [hv] at k1; cases k1
      | e _ _ _ _ => rw [hv] at k1; cases k1
    · cases k2
  have hKb' : ∀ p ∈ A.b, U0 p.1 ∧ BRel C U0 e0.get ρ0 w (Owns X (stOf m g) ρ0) p.1 p.2 := by
    intro p hpm
    have := List.all_eq_true.mp hKb p hpm
    simp only [Bool.and_eq_true] at this
    obtain ⟨k1, k2⟩ := this
    split at k2
    · rename_i B hB'
      obtain ⟨hu, hr⟩ := S.blocks p.1 B hB'
      rw [← sameBlk'_eq k2] at hr
      refine ⟨hu, ?_⟩
      cases hv : p.2 with
      | c T cs => rw [hv] at hr k1; obtain ⟨b, vs, r1, r2, r3⟩ := hr; exact ⟨b, vs, r1, r2, known_cells (g0 := ⟨e0, A.n⟩) hsub hids k1 r3⟩
      | l t i =>
        rw [hv] at hr k1
        obtain ⟨xs, vals, r1, r2⟩ := hr
        obtain ⟨e, he⟩ := hids i k1
        have := hsub i e he
        have r1' : g.e.get i = some (.ro t xs) := r1
        rw [r1'] at this
        simp only [Option.some.injEq] at this
        subst this
        exact ⟨xs, vals, he, r2⟩
      | f t i =>
        rw [hv] at hr k1
        obtain ⟨xs, r1, r2⟩ := hr
        obtain ⟨e, he⟩ := hids i k1
        have := hsub i e he
        have r1' : g.e.get i = some (.ro t xs) := r1
        rw [r1'] at this
        simp only [Option.some.injEq] at this
        subst this
        exact ⟨xs, he, r2⟩
    · cases k2
  have hB0 : Below U0 A.n := below_le hB hnA
  have hKf : ∀ k v, O0.fx k v → U0 k := fun k v hk => (S.fix k v (by rw [hbase.fx]; exact hk)).1
  -- the rounds
  let σf := fin (unK _ κ) (unK _ es)
  let Fits : KsT C A.ks → Act → World → Prop := fun σ a w => (∀ b ∈ inv (unK _ κ) σ, b = true) ∧ fin (unK _ κ) σ = σf ∧ ∃ mT gT ρT UT, headOf ⟨A.s, A.b⟩ A.ps A.ks ⟨e0, A.n⟩ (mkK A.ks σ) = some (mT, gT) ∧
    SimM w0 O0 X N UT (stOf mT gT) ρT a w ∧ Below UT gT.n
  have hstart : Fits (unK _ es) a w := by
    obtain ⟨g1, mT, gT, _, _, h1, h2, _⟩ := hR (unK _ κ) (unK _ es) hinv
    rw [hκt, hg0'] at h1
    simp only [Option.some.injEq] at h1
    subst h1
    obtain ⟨_, ρT, UT, h3, h4⟩ := head_sim (K := ⟨A.s, A.b⟩) (g := ⟨e0, A.n⟩) hB0 hKs' hKb' (fun k v hk => hKf k v (by rw [← hbase.fx]; exact hk)) S hsub hes (by rw [← hest]; exact h2)
    exact ⟨hinv, rfl, mT, gT, ρT, UT, h2, ⟨wb, Ob, hbase, h3⟩, h4⟩
  refine wpIn_block (wp_loop_by Fits (μ (unK _ κ)) (unK _ es) hstart ?_)
  rintro σ a1 w1 ⟨f1, f2, mT, gT, ρT, UT, f3, f4, f5⟩
  obtain ⟨g1, mT', gT', o, g', h1, h2, h3, ob2, x2, m2, h4, h5, h6⟩ := hR (unK _ κ) σ f1
  rw [hκt, hg0'] at h1
  simp only [Option.some.injEq] at h1
  subst h1
  rw [f3] at h2
  simp only [Option.some.injEq, Prod.mk.injEq] at h2
  obtain ⟨rfl, rfl⟩ := h2
  obtain ⟨hle, hround⟩ := ev_ok Kk G0 fuel h3 hL
  refine hround ob2 x2 m2 h4 h5 kk f4 f5 (fun ρ' U' a' w' SM' hB' => ?_)
  rcases h6 with ⟨rfl, σ', q1, q2, q3, q4⟩ | ⟨hx, hfin⟩
  · -- on to the next round
    obtain ⟨wc, Oc, hbase', S'⟩ := SM'
    obtain ⟨g1, mT2, gT2, _, _, p1, p2, _⟩ := hR (unK _ κ) σ' q2
    rw [hκt, hg0'] at p1
    simp only [Option.some.injEq] at p1
    subst p1
    have hsub' : ∀ i x, e0.get i = some x → g'.e.get i = some x := by
      intro i x hx
      refine hle.e i x ?_
      unfold headOf at f3
      split at f3
      · cases f3
      · split at f3
        · cases f3
        · rename_i hse
          obtain ⟨_, f3⟩ := (bifE f3).resolve_right (fun h => by cases h.2)
          simp only [Option.some.injEq, Prod.mk.injEq] at f3
          obtain ⟨_, rfl⟩ := f3
          exact (setE_get _ _ _ hse).1 i x hx
    obtain ⟨_, ρT2, UT2, h7, h8⟩ := head_sim (K := ⟨A.s, A.b⟩) (g := ⟨e0, A.n⟩) hB0 hKs' hKb' (fun k v hk => hKf k v (by rw [← hbase'.fx]; exact hk)) S' hsub' q1 p2
    exact ⟨σ', ⟨q2, by rw [q4, f2], mT2, gT2, ρT2, UT2, p2, ⟨wc, Oc, hbase', h7⟩, h8⟩, q3⟩
  · -- the end
    have hσ : σ = σf := by rw [← f2, hfin]
    subst hσ
    rw [hhF] at f3
    simp only [Option.some.injEq, Prod.mk.injEq] at f3
    obtain ⟨rfl, rfl⟩ := f3
    rw [hevF] at h3
    simp only [Option.some.injEq, Prod.mk.injEq] at h3
    obtain ⟨rfl, rfl⟩ := h3
    obtain ⟨x3, r1, r2⟩ := endO_pick hp1
    rw [h4] at r1
    simp only [Option.some.injEq, Prod.mk.injEq] at r1
    obtain ⟨rfl, rfl, rfl⟩ := r1
    have hend := hQ ρ' U' a' w' (SM'.more hgE) hB'
    rcases r2 with ⟨rfl, rfl⟩ | ⟨rfl, rfl | ⟨i, rfl, hi⟩⟩
    · show Exit.inBlock id Q (.exit id) a' w'
      show if id = id then Q .normal a' w' else Q (.exit id) a' w'
      rw [if_pos rfl]; exact hend
    · exact hend
    · show if i = id then Q .normal a' w' else Q (.exit i) a' w'
      rw [if_neg hi]; exact hend
end Go.Sx

/- The symbolic executor: structs compared cell by cell. -/
namespace Go.Sx
open Go

def eqFsG (f : TypeId → List Kind → Bool) (sz : TypeId → Nat) : List Field → Nat → List Kind → Bool
  | [], _, ks => ks.isEmpty
  | fl :: fs, off, ks => (fl.name != "_") && Nat.beq fl.offset off && Nat.ble (sz fl.type) ks.length && f fl.type (ks.take (sz fl.type)) && eqFsG f sz fs (off + sz fl.type) (ks.drop (sz fl.type))
/-- A type whose values are compared cell by cell. -/
def eqShape (C : Cfg) : Nat → TypeId → List Kind → Bool
  | 0, _, _ => false
  | d + 1, T, ks => match C.P.underlying T with
    | some (.struct fs) => !C.P.stoodInHeld T && eqFsG (eqShape C d) (sizeT C) fs.toList 0 ks
    | some .bool => match ks with | [.b] => true | _ => false
    | some (.int _) => match ks with | [.i _] => true | _ => false
    | _ => false

variable {C : Cfg}
abbrev Lit.kd (C : Cfg) (l : Lit) : Kind := (Lit.ent (R := C.R) l).kind
/-- The value of a type, of its cells. -/
def valOf (C : Cfg) (T : TypeId) (p : List Lit) : Value := bif isAggB C T then .agg (p.map Lit.val).toArray else (p.headD (.b false)).val

theorem litsEq_app : ∀ {p q p' q' : List Lit}, p.length = q.length → litsEq (p ++ p') (q ++ q') = (litsEq p q && litsEq p' q')
  | [], [], _, _, _ => by simp [litsEq]
  | x :: p, y :: q, p', q', h => by
    simp only [List.cons_append, litsEq]
    rw [litsEq_app (by simpa using h), Bool.and_assoc]

theorem part_ok {w : World} {T : TypeId} {pre p : List Lit} (hd : ∃ d, C.P.underlying T = some d) (hsz : sizeT C T ≤ p.length) (hone : isAggB C T = false → sizeT C T = 1) (hi : ∃ i, C.P.info? T = some i) :
    (part T ((pre ++ p).map Lit.val).toArray pre.length).run C.P w = .ok (valOf C T (p.take (sizeT C T))) w := by
  obtain ⟨d, hd⟩ := hd
  obtain ⟨i, hi⟩ := hi
  have hs : sizeT C T = i.size := sizeT_of hi
  unfold part valOf
  simp only [Sem.run_bind, isAgg_run hd, Result.andThen]
  cases ha : isAggB C T with
  | true =>
    simp only [if_true, cond, sizeOf, typeInfo]
    simp only [hs]
    simp [hi, sub_extract, sub]
  | false =>
    have h1 := hone ha
    simp only [Bool.false_eq_true, if_false, cond]
    cases p with
    | nil => simp at hsz; omega
    | cons x p =>
      rw [h1]
      simp

theorem eqIn_ok : ∀ (d : Nat) {T : TypeId} {ks : List Kind}, eqShape C d T ks = true → ∀ {p q : List Lit}, p.map (Lit.kd C) = ks → q.map (Lit.kd C) = ks → ∀ (w : World), (Op.equalIn d T (valOf C T p) (valOf C T q)).run C.P w = .ok (litsEq p q) w := by
  intro d
  induction d with
  | zero => intro T ks h; cases h
  | succ d ih =>
    intro T ks h p q hp hq w
    unfold eqShape at h
    split at h
    · rename_i fs hu
      simp only [Bool.and_eq_true, Bool.not_eq_true'] at h
      obtain ⟨hst, hfs⟩ := h
      have ha : isAggB C T = true := by simp [isAggB, hu]
      have hfo : C.P.fieldsOf T = fs := by simp [Program.fieldsOf, hu]
      have hv : ∀ p, valOf C T p = .agg (p.map Lit.val).toArray := fun p => by simp [valOf, ha]
      rw [hv, hv, run_equalIn_struct w d T _ _ (by rw [hfo]; exact hu) hst, hfo]
      have key : ∀ (l : List Field) (off : Nat) (ks : List Kind) (pre1 pre2 p q : List Lit), eqFsG (eqShape C d) (sizeT C) l off ks = true → pre1.length = off → pre2.length = off → p.map (Lit.kd C) = ks → q.map (Lit.kd C) = ks →
          (Op.eqFields d ((pre1 ++ p).map Lit.val).toArray ((pre2 ++ q).map Lit.val).toArray l).run C.P w = .ok (litsEq p q) w := by
        intro l
        induction l with
        | nil =>
          intro off ks pre1 pre2 p q h h1 h2 h3 h4
          simp only [eqFsG, List.isEmpty_iff] at h
          subst h
          simp only [List.map_eq_nil_iff] at h3 h4
          subst h3; subst h4
          simp [Op.eqFields, litsEq]
        | cons fl l ihl =>
          intro off ks pre1 pre2 p q h h1 h2 h3 h4
          simp only [eqFsG, Bool.and_eq_true, bne_iff_ne, ne_eq, Nat.ble_eq] at h
          obtain ⟨⟨⟨⟨g1, g2⟩, g3⟩, g4⟩, g5⟩ := h
          have g2 := Nat.beq_eq.mp g2
          have hlp : p.length = ks.length := by rw [← h3]; simp
          have hlq : q.length = ks.length := by rw [← h4]; simp
          have hund : ∃ d, C.P.underlying fl.type = some d := by
            cases d with
            | zero => cases g4
            | succ d =>
              unfold eqShape at g4
              cases hc : C.P.underlying fl.type with
              | none => rw [hc] at g4; cases g4
              | some x => exact ⟨x, rfl⟩
          have hinf : ∃ i, C.P.info? fl.type = some i := by obtain ⟨x, hx⟩ := hund; exact info_of_underlying hx
          have hone : isAggB C fl.type = false → sizeT C fl.type = 1 := by
            intro hna
            cases d with
            | zero => cases g4
            | succ d =>
              unfold eqShape at g4
              have hlen : (ks.take (sizeT C fl.type)).length = sizeT C fl.type := by rw [List.length_take]; omega
              split at g4
              · rename_i hc; simp [isAggB, hc] at hna
              · split at g4
                · rename_i he; rw [he] at hlen; exact hlen.symm
                · cases g4
              · split at g4
                · rename_i he; rw [he] at hlen; exact hlen.symm
                · cases g4
              · cases g4
          have e1 : (part fl.type ((pre1 ++ p).map Lit.val).toArray fl.offset).run C.P w = .ok (valOf C fl.type (p.take (sizeT C fl.type))) w := by
            rw [g2, ← h1]; exact part_ok hund (by omega) hone hinf
          have e2 : (part fl.type ((pre2 ++ q).map Lit.val).toArray fl.offset).run C.P w = .ok (valOf C fl.type (q.take (sizeT C fl.type))) w := by
            rw [g2, ← h2]; exact part_ok hund (by omega) hone hinf
          have e3 := ih g4 (p := p.take (sizeT C fl.type)) (q := q.take (sizeT C fl.type)) (by rw [List.map_take, h3]) (by rw [List.map_take, h4]) w
          have e4 := ihl (off + sizeT C fl.type) (ks.drop (sizeT C fl.type)) (pre1 ++ p.take (sizeT C fl.type)) (pre2 ++ q.take (sizeT C fl.type)) (p.drop (sizeT C fl.type)) (q.drop (sizeT C fl.type)) g5
            (by simp [h1]; omega) (by simp [h2]; omega) (by rw [List.map_drop, h3]) (by rw [List.map_drop, h4])
          rw [List.append_assoc, List.append_assoc, List.take_append_drop, List.take_append_drop] at e4
          have e5 : litsEq p q = (litsEq (p.take (sizeT C fl.type)) (q.take (sizeT C fl.type)) && litsEq (p.drop (sizeT C fl.type)) (q.drop (sizeT C fl.type))) := by
            rw [← litsEq_app (by simp [hlp, hlq]), List.take_append_drop, List.take_append_drop]
          simp only [Op.eqFields, ne_eq, g1, not_false_eq_true, if_true, Sem.run_bind, e1, e2, e3, Result.andThen]
          rw [e5]
          cases litsEq (p.take (sizeT C fl.type)) (q.take (sizeT C fl.type)) with
          | true => simp only [Bool.not_true, Bool.false_eq_true, if_false, Bool.true_and]; exact e4
          | false => simp
      exact key fs.toList 0 ks [] [] p q hfs rfl rfl hp hq
    · rename_i hu
      have ha : isAggB C T = false := by simp [isAggB, hu]
      have hv : ∀ p, valOf C T p = (p.headD (.b false)).val := fun p => by simp [valOf, ha]
      rw [hv, hv]
      split at h
      · match p, q, hp, hq with
        | [.b x], [.b y], _, _ => simpa [Lit.val, litsEq, litEq] using run_equalIn_bool' w d T x y hu
      · cases h
    · rename_i k hu
      have ha : isAggB C T = false := by simp [isAggB, hu]
      have hv : ∀ p, valOf C T p = (p.headD (.b false)).val := fun p => by simp [valOf, ha]
      rw [hv, hv]
      split at h
      · match p, q, hp, hq with
        | [.i k1 x], [.i k2 y], hp, hq =>
          simp only [List.map, Lit.kd, Lit.ent, Ent.kind, List.cons.injEq, Kind.i.injEq, and_true] at hp hq
          subst hp; subst hq
          simpa [Lit.val, litsEq, litEq] using run_equalIn_int w d T _ k x y hu
      · cases h
    · cases h

theorem eql_of {T : TypeId} {ks : List Kind} (hs : eqShape C 10000 T ks = true) (ha : isAggB C T = true) (hg : C.P.eqGuardType C.P.depth T = false) :
    ∀ (p q : List Lit), p.map (fun l => (Lit.ent (R := C.R) l).kind) = ks → q.map (fun l => (Lit.ent (R := C.R) l).kind) = ks → ∀ (w : World) (x y : Operand),
    (eqGuard .eql T x y (.agg (p.map Lit.val).toArray) (.agg (q.map Lit.val).toArray)).run C.P w = .ok () w ∧ (eqGuard .neq T x y (.agg (p.map Lit.val).toArray) (.agg (q.map Lit.val).toArray)).run C.P w = .ok () w ∧
    (Op.equal T (.agg (p.map Lit.val).toArray) (.agg (q.map Lit.val).toArray)).run C.P w = .ok (litsEq p q) w := by
  intro p q hp hq w x y
  refine ⟨run_eqGuard_agg w _ _ _ _ _ _ hg, run_eqGuard_agg w _ _ _ _ _ _ hg, ?_⟩
  have := eqIn_ok 10000 hs hp hq w
  have hv : ∀ p, valOf C T p = .agg (p.map Lit.val).toArray := fun p => by simp [valOf, ha]
  rw [hv, hv] at this
  exact this
end Go.Sx

/- The symbolic executor: a round as a small tree. -/
namespace Go.Sx
open Go
variable {C : Cfg} {N : Nat} {Γ : Nat → Option (FSum C)} {L : Loops C}
inductive RR (C : Cfg) where
  | next (ob : List Bool) (es : List (Ent C.R))
  | stop (ob : List Bool)
  | br (c : Bool) (a b : RR C)
  | fail
def RR.pick : RR C → Option (List Bool × Option (List (Ent C.R)))
  | .next ob es => some (ob, some es)
  | .stop ob => some (ob, none)
  | .br c a b => bif c then a.pick else b.pick
  | .fail => none
def toRR (A : LAnn) (g : Env C) : Out → RR C
  | .leaf ob x m => match x with
    | .nx => match backOf ⟨A.s, A.b⟩ A.ps A.ks m g with
      | some es => .next ob es
      | none => .fail
    | _ => .stop ob
  | .br c a b => .br c (toRR A g a) (toRR A g b)
  | .fail => .fail
/-- A round, from the head's contents. -/
def roundF (Γ : Nat → Option (FSum C)) (L : Loops C) (N fuel : Nat) (body : Code) (A : LAnn) (κ : KsT C (A.ids.map (·.2))) (σ : KsT C A.ks) : RR C :=
  match baseEnv A (mkK _ κ) with
  | none => .fail
  | some g0 => match headOf ⟨A.s, A.b⟩ A.ps A.ks g0 (mkK A.ks σ) with
    | none => .fail
    | some (mT, gT) => match ev C Γ L N fuel body mT gT with
      | none => .fail
      | some (o, g') => toRR A g' o

theorem toRR_pick {A : LAnn} {g : Env C} {ob : List Bool} {r : Option (List (Ent C.R))} : ∀ {o : Out}, (toRR A g o).pick = some (ob, r) →
    ∃ x m, o.pick = some (ob, x, m) ∧ ((x = .nx ∧ ∃ es, r = some es ∧ backOf ⟨A.s, A.b⟩ A.ps A.ks m g = some es) ∨ (x ≠ .nx ∧ r = none)) := by
  intro o
  induction o with
  | leaf ob1 x m =>
    intro h
    cases x with
    | nx =>
      simp only [toRR] at h
      split at h
      · rename_i es hes
        simp only [RR.pick, Option.some.injEq, Prod.mk.injEq] at h
        obtain ⟨rfl, rfl⟩ := h
        exact ⟨.nx, m, rfl, .inl ⟨rfl, es, rfl, hes⟩⟩
      · cases h
    | rt =>
      simp only [toRR, RR.pick, Option.some.injEq, Prod.mk.injEq] at h
      obtain ⟨rfl, rfl⟩ := h
      exact ⟨.rt, m, rfl, .inr ⟨by simp, rfl⟩⟩
    | ex i =>
      simp only [toRR, RR.pick, Option.some.injEq, Prod.mk.injEq] at h
      obtain ⟨rfl, rfl⟩ := h
      exact ⟨.ex i, m, rfl, .inr ⟨by simp, rfl⟩⟩
  | br c a b iha ihb =>
    intro h
    simp only [toRR, RR.pick, Out.pick] at h ⊢
    cases c with
    | true => exact iha h
    | false => exact ihb h
  | fail => intro h; cases h

theorem round_of {fuel : Nat} {body : Code} {A : LAnn} {inv : KsT C (A.ids.map (·.2)) → KsT C A.ks → List Bool} {fin : KsT C (A.ids.map (·.2)) → KsT C A.ks → KsT C A.ks} {μ : KsT C (A.ids.map (·.2)) → KsT C A.ks → Nat}
    (h : ∀ κ σ, (∀ b ∈ inv κ σ, b = true) → ∃ ob r, (roundF Γ L N fuel body A κ σ).pick = some (ob, r) ∧ (∀ b ∈ ob, b = true) ∧
      ((∃ σ', r = some (mkK A.ks σ') ∧ (∀ b ∈ inv κ σ', b = true) ∧ μ κ σ' < μ κ σ ∧ fin κ σ' = fin κ σ) ∨ (r = none ∧ fin κ σ = σ))) : RoundOK C Γ L N fuel body A inv fin μ := by
  intro κ σ hinv
  obtain ⟨ob, r, h1, h2, h3⟩ := h κ σ hinv
  unfold roundF at h1
  split at h1
  · cases h1
  · rename_i g0 hg0
    split at h1
    · cases h1
    · rename_i mT gT hT
      split at h1
      · cases h1
      · rename_i o g' hev
        obtain ⟨x, m, p1, p2⟩ := toRR_pick h1
        refine ⟨g0, mT, gT, o, g', hg0, hT, hev, ob, x, m, p1, h2, ?_⟩
        rcases p2 with ⟨rfl, es, rfl, q⟩ | ⟨hx, rfl⟩
        · rcases h3 with ⟨σ', e, h4⟩ | ⟨e, _⟩
          · simp only [Option.some.injEq] at e
            subst e
            exact .inl ⟨rfl, σ', q, h4⟩
          · cases e
        · rcases h3 with ⟨_, e, _⟩ | ⟨_, e⟩
          · cases e
          · exact .inr ⟨hx, e⟩
end Go.Sx

/- The symbolic executor: the loops of a piece of code. -/
namespace Go.Sx
open Go
/-- The loops of a piece of code (and the ranges over functions), by their blocks' numbers. -/
def loopsIn : Code → List (Nat × Code)
  | .seq a b => match rangeSeq a b with
    | some id => [(id, .seq a b)]
    | none => loopsIn a ++ loopsIn b
  | .cond _ a b => loopsIn a ++ loopsIn b
  | .block id (.loop body) => (id, .block id (.loop body)) :: loopsIn body
  | .block _ a => loopsIn a
  | .loop a => loopsIn a
  | _ => []
theorem loops_of {C : Cfg} {N : Nat} {ro : Option Nat} {L : Loops C} : ∀ {c : Code}, (∀ id b, ∀ F, L id = some F → (id, b) ∈ loopsIn c → ∀ m g r, F m g = some r → OutK C N ro b m g r) → LoopsK C N ro L c := by
  intro c
  induction c with
  | seq a b iha ihb =>
    intro h
    simp only [loopsIn] at h
    simp only [LoopsK]
    cases hrs : rangeSeq a b with
    | some id => rw [hrs] at h; exact fun F hF => h id _ F hF (List.mem_singleton.mpr rfl)
    | none => rw [hrs] at h; exact ⟨iha fun id b F hF hp => h id b F hF (List.mem_append_left _ hp), ihb fun id b F hF hp => h id b F hF (List.mem_append_right _ hp)⟩
  | cond _ a b iha ihb => intro h; exact ⟨iha fun id b F hF hp => h id b F hF (List.mem_append_left _ hp), ihb fun id b F hF hp => h id b F hF (List.mem_append_right _ hp)⟩
  | block id a ih =>
    intro h
    cases a with
    | loop b =>
      simp only [LoopsK]
      cases hF : L id with
      | some F => exact h id (.block id (.loop b)) F hF (by simp [loopsIn])
      | none => exact ih fun i b' F hF' hp => h i b' F hF' (by simp only [loopsIn, List.mem_cons] at hp ⊢; exact .inr hp)
    | _ => exact ih h
  | loop b ih => intro h; exact ih h
  | _ => intro _; trivial
theorem loops_none {C : Cfg} {N : Nat} {ro : Option Nat} {c : Code} : LoopsK C N ro (fun _ => none) c := loops_of fun _ _ _ h => by cases h
end Go.Sx

/- The symbolic executor: loops whose rounds are steps of a plain function; tables of contracts. -/
namespace Go.Sx
open Go
variable {C : Cfg} {N : Nat} {Γ : Nat → Option (FSum C)} {L : Loops C}

/-- The body of a loop. -/
def loopBody : Nat → Code → Option Code
  | i, .seq a b => match loopBody i a with | some c => some c | none => loopBody i b
  | i, .cond _ a b => match loopBody i a with | some c => some c | none => loopBody i b
  | i, .block j (.loop b) => bif Nat.beq i j then some b else loopBody i b
  | i, .block _ a => loopBody i a
  | i, .loop a => loopBody i a
  | _, _ => none
def bodyOf (fn : Func) (i : Nat) : Code := (fn.body.bind (loopBody i)).getD .skip
/-- A loop, or a range over a function, by its block's number. -/
def stmtOf : Nat → Code → Option Code
  | i, .seq a b => match rangeSeq a b with
    | some j => bif Nat.beq i j then some (.seq a b) else none
    | none => match stmtOf i a with | some c => some c | none => stmtOf i b
  | i, .cond _ a b => match stmtOf i a with | some c => some c | none => stmtOf i b
  | i, .block j (.loop b) => bif Nat.beq i j then some (.block j (.loop b)) else stmtOf i b
  | i, .block _ a => stmtOf i a
  | i, .loop a => stmtOf i a
  | _, _ => none
def stmtFn (fn : Func) (i : Nat) : Code := (fn.body.bind (stmtOf i)).getD .skip

/-- Steps, until there is none. -/
def iterS {T : Type} (step : T → Option T) : Nat → T → T
  | 0, σ => σ
  | f + 1, σ => match step σ with | some σ' => iterS step f σ' | none => σ
theorem iterS_none {T : Type} {step : T → Option T} {σ : T} (h : step σ = none) : ∀ f, iterS step f σ = σ
  | 0 => rfl
  | f + 1 => by simp only [iterS, h]
theorem iterS_some {T : Type} {step : T → Option T} {σ σ' : T} (h : step σ = some σ') (f : Nat) : iterS step (f + 1) σ = iterS step f σ' := by simp only [iterS, h]
/-- By a measure. -/
def stepFin {T : Type} (step : T → Option T) (μ : T → Nat) (σ : T) : T := iterS step (μ σ) σ
section
variable {T : Type} {step : T → Option T} {μ : T → Nat} {I : T → Prop}
theorem iterS_enough (hp : ∀ σ, I σ → ∀ σ', step σ = some σ' → I σ' ∧ μ σ' < μ σ) : ∀ (f : Nat) (σ : T), I σ → μ σ ≤ f → iterS step f σ = stepFin step μ σ := by
  have key : ∀ (k : Nat) (σ : T), μ σ = k → I σ → ∀ f, μ σ ≤ f → iterS step f σ = stepFin step μ σ := by
    intro k
    induction k using Nat.strongRecOn with
    | _ k ih =>
      intro σ hk hI f hf
      unfold stepFin
      cases hs : step σ with
      | none => rw [iterS_none hs, iterS_none hs]
      | some σ' =>
        obtain ⟨h1, h2⟩ := hp σ hI σ' hs
        obtain ⟨f', rfl⟩ : ∃ f', f = f' + 1 := ⟨f - 1, by omega⟩
        obtain ⟨k', hk'⟩ : ∃ k', μ σ = k' + 1 := ⟨μ σ - 1, by omega⟩
        rw [hk', iterS_some hs, iterS_some hs, ih (μ σ') (by omega) σ' rfl h1 f' (by omega), ih (μ σ') (by omega) σ' rfl h1 k' (by omega)]
  exact fun f σ hI hf => key _ σ rfl hI f hf
theorem stepFin_next (hp : ∀ σ, I σ → ∀ σ', step σ = some σ' → I σ' ∧ μ σ' < μ σ) {σ σ' : T} (hI : I σ) (hs : step σ = some σ') : stepFin step μ σ = stepFin step μ σ' := by
  obtain ⟨h1, h2⟩ := hp σ hI σ' hs
  obtain ⟨k', hk'⟩ : ∃ k', μ σ = k' + 1 := ⟨μ σ - 1, by omega⟩
  conv => lhs; unfold stepFin
  rw [hk', iterS_some hs]
  exact iterS_enough hp _ _ h1 (by omega)
theorem stepFin_stop {σ : T} (hs : step σ = none) : stepFin step μ σ = σ := iterS_none hs _
theorem stepFin_end (hp : ∀ σ, I σ → ∀ σ', step σ = some σ' → I σ' ∧ μ σ' < μ σ) {σ : T} (hI : I σ) : step (stepFin step μ σ) = none ∧ I (stepFin step μ σ) := by
  have key : ∀ (k : Nat) (σ : T), μ σ = k → I σ → step (stepFin step μ σ) = none ∧ I (stepFin step μ σ) := by
    intro k
    induction k using Nat.strongRecOn with
    | _ k ih =>
      intro σ hk hI
      cases hs : step σ with
      | none => rw [stepFin_stop hs]; exact ⟨hs, hI⟩
      | some σ' =>
        obtain ⟨h1, h2⟩ := hp σ hI σ' hs
        rw [stepFin_next hp hI hs]
        exact ih (μ σ') (by omega) σ' rfl h1
  exact key _ σ rfl hI
/-- What a function of the state that no step turns says at the end. -/
theorem stepFin_eq (hp : ∀ σ, I σ → ∀ σ', step σ = some σ' → I σ' ∧ μ σ' < μ σ) {G : T → T} (hs : ∀ σ, I σ → step σ = none → G σ = σ) (hn : ∀ σ, I σ → ∀ σ', step σ = some σ' → G σ' = G σ) {σ : T} (hI : I σ) : stepFin step μ σ = G σ := by
  have key : ∀ (k : Nat) (σ : T), μ σ = k → I σ → stepFin step μ σ = G σ := by
    intro k
    induction k using Nat.strongRecOn with
    | _ k ih =>
      intro σ hk hI
      cases h : step σ with
      | none => rw [stepFin_stop h, hs σ hI h]
      | some σ' =>
        obtain ⟨h1, h2⟩ := hp σ hI σ' h
        rw [stepFin_next hp hI h, ih (μ σ') (by omega) σ' rfl h1, hn σ hI σ' h]
  exact key _ σ rfl hI
end

abbrev LAnn.K (C : Cfg) (A : LAnn) : Type := KsT C (A.ids.map (·.2))
abbrev LAnn.T (C : Cfg) (A : LAnn) : Type := KsT C A.ks
def allT (l : List Bool) : Prop := ∀ b ∈ l, b = true

noncomputable def dec (p : Prop) : Bool := @decide p (Classical.propDecidable p)
theorem dec_iff {p : Prop} : dec p = true ↔ p := by unfold dec; exact @decide_eq_true_iff p (Classical.propDecidable p)
theorem allT_dec {p : Prop} : allT [dec p] ↔ p := by simp [allT, dec_iff]
theorem allT_nil : allT [] ↔ True := ⟨fun _ => trivial, (fun _ b h => by cases h)⟩
theorem allT_cons {b : Bool} {l : List Bool} : allT (b :: l) ↔ b = true ∧ allT l := by simp [allT]
theorem allT_app {l l' : List Bool} : allT (l ++ l') ↔ allT l ∧ allT l' := by
  simp only [allT, List.mem_append]
  exact ⟨fun h => ⟨fun b hb => h b (.inl hb), fun b hb => h b (.inr hb)⟩, fun h b hb => hb.elim (h.1 b) (h.2 b)⟩

/-- Each way of a round leads to X, and what it asks holds. -/
def RR.ok (X : Option (List (Ent C.R))) : RR C → Prop
  | .next ob es => some es = X ∧ allT ob
  | .stop ob => none = X ∧ allT ob
  | .br c a b => (c = true → a.ok X) ∧ (c = false → b.ok X)
  | .fail => False
theorem RR.ok_pick {X : Option (List (Ent C.R))} {t t' : RR C} (e : t = t') (h : t'.ok X) : ∃ ob, t.pick = some (ob, X) ∧ allT ob := by
  subst e
  induction t with
  | next ob es => obtain ⟨h1, h2⟩ := h; subst h1; exact ⟨ob, rfl, h2⟩
  | stop ob => obtain ⟨h1, h2⟩ := h; subst h1; exact ⟨ob, rfl, h2⟩
  | br c a b iha ihb =>
    cases c with
    | true => exact iha (h.1 rfl)
    | false => exact ihb (h.2 rfl)
  | fail => exact h.elim
/-- Each way of a function leads to X, and what it asks holds. -/
def RT.ok (X : List (List (Ent C.R))) : RT C → Prop
  | .ret ob rs => rs = X ∧ allT ob
  | .br c a b => (c = true → a.ok X) ∧ (c = false → b.ok X)
  | .fail => False
theorem RT.ok_pick {X : List (List (Ent C.R))} {t t' : RT C} (e : t = t') (h : t'.ok X) : ∃ ob, t.pick = some (ob, X) ∧ allT ob := by
  subst e
  induction t with
  | ret ob rs => obtain ⟨h1, h2⟩ := h; subst h1; exact ⟨ob, rfl, h2⟩
  | br c a b iha ihb =>
    cases c with
    | true => exact iha (h.1 rfl)
    | false => exact ihb (h.2 rfl)
  | fail => exact h.elim

/-- A loop's entry in the table: I: what holds at the head of each round; step: a round that goes on (none: it ends the loop); μ: what goes down. -/
noncomputable def stepL (Γ : Nat → Option (FSum C)) (L : Loops C) (N id : Nat) (body : Code) (A : LAnn) (I : A.K C → A.T C → Prop) (step : A.K C → A.T C → Option (A.T C)) (μ : A.K C → A.T C → Nat) :
    Loc → Env C → Option (Out × Env C) := loopF Γ L N 2000 id body A (fun κ σ => [dec (I κ σ)]) (fun κ => stepFin (step κ) (μ κ))

theorem stmt_loop {ro : Option Nat} {fn : Func} {i : Nat} (e : stmtFn fn i = .block i (.loop (bodyOf fn i))) {m : Loc} {g : Env C} {r : Out × Env C} (h : OutK C N ro (.block i (.loop (bodyOf fn i))) m g r) : OutK C N ro (stmtFn fn i) m g r := by
  rw [e]; exact h
theorem stepL_ok {ro : Option Nat} (Kk : C.Ok) (G0 : GamOK C Γ) {id : Nat} {body : Code} {A : LAnn} {I : A.K C → A.T C → Prop} {step : A.K C → A.T C → Option (A.T C)} {μ : A.K C → A.T C → Nat} (hL : LoopsK C N ro L body)
    (hp : ∀ κ σ, I κ σ → ∀ σ', step κ σ = some σ' → I κ σ' ∧ μ κ σ' < μ κ σ)
    {tree : A.K C → A.T C → RR C} (he : ∀ κ σ, roundF Γ L N 2000 body A κ σ = tree κ σ) (hr : ∀ κ σ, I κ σ → (tree κ σ).ok ((step κ σ).map (mkK A.ks))) :
    ∀ m g r, stepL Γ L N id body A I step μ m g = some r → OutK C N ro (.block id (.loop body)) m g r := by
  refine loop_ok Kk G0 μ hL (round_of fun κ σ hinv => ?_)
  have hI := allT_dec.mp hinv
  obtain ⟨ob, h1, h2⟩ := RR.ok_pick (he κ σ) (hr κ σ hI)
  refine ⟨ob, _, h1, h2, ?_⟩
  cases hs : step κ σ with
  | none => exact .inr ⟨rfl, stepFin_stop hs⟩
  | some σ' =>
    obtain ⟨h3, h4⟩ := hp κ σ hI σ' hs
    exact .inl ⟨σ', rfl, allT_dec.mpr h3, h4, (stepFin_next (I := I κ) (hp κ) hI hs).symm⟩

/-- Tables of contracts. -/
def gamL : List (Nat × FSum C) → Nat → Option (FSum C)
  | [], _ => none
  | (g, S) :: l, k => bif Nat.beq k g then some S else gamL l k
theorem gamL_nil : GamOK C (gamL []) := fun _ _ h => by cases h
theorem gamL_cons {g : Nat} {S : FSum C} {l : List (Nat × FSum C)} (he : Enters C.P g) (h : FnOK C g S) (hl : GamOK C (gamL l)) : GamOK C (gamL ((g, S) :: l)) := by
  intro k S' hk
  simp only [gamL, cbeq] at hk
  split at hk
  · rename_i he'
    subst he'
    simp only [Option.some.injEq] at hk
    subst hk
    exact ⟨he, h⟩
  · exact hl k S' hk
/-- Tables of loops. -/
def loopsL (C : Cfg) : List (Nat × (Loc → Env C → Option (Out × Env C))) → Loops C
  | [], _ => none
  | (i, F) :: l, k => bif Nat.beq k i then some F else loopsL C l k
theorem stmtOf_mem : ∀ {c : Code} {i : Nat}, (∀ b, stmtOf i c = some b → (i, b) ∈ loopsIn c) ∧ (stmtOf i c = none → ∀ b, (i, b) ∉ loopsIn c) := by
  intro c i
  induction c with
  | seq a b iha ihb =>
    simp only [stmtOf, loopsIn]
    cases hrs : rangeSeq a b with
    | some j =>
      simp only [cbeq, List.mem_singleton]
      by_cases hij : i = j
      · rw [if_pos hij]
        exact ⟨fun b' hb => by simp only [Option.some.injEq] at hb; subst hb; rw [hij], (fun hb => by cases hb)⟩
      · rw [if_neg hij]
        exact ⟨(fun b' hb => by cases hb), fun _ b' hm => by simp only [Prod.mk.injEq] at hm; exact hij hm.1⟩
    | none =>
      simp only [List.mem_append]
      cases h : stmtOf i a with
      | some x => exact ⟨fun b hb => by simp only [Option.some.injEq] at hb; subst hb; exact .inl (iha.1 _ h), fun hb => by cases hb⟩
      | none => exact ⟨fun b hb => .inr (ihb.1 _ hb), fun hb b hm => hm.elim (iha.2 h b) (ihb.2 hb b)⟩
  | cond _ a b iha ihb =>
    simp only [stmtOf, loopsIn, List.mem_append]
    cases h : stmtOf i a with
    | some x => exact ⟨fun b hb => by simp only [Option.some.injEq] at hb; subst hb; exact .inl (iha.1 _ h), fun hb => by cases hb⟩
    | none => exact ⟨fun b hb => .inr (ihb.1 _ hb), fun hb b hm => hm.elim (iha.2 h b) (ihb.2 hb b)⟩
  | block j a ih =>
    cases a with
    | loop b =>
      simp only [stmtOf, loopsIn, cbeq, List.mem_cons]
      by_cases hij : i = j
      · rw [if_pos hij]
        exact ⟨fun b' hb => by simp only [Option.some.injEq] at hb; subst hb; exact .inl (by rw [hij]), fun hb => by cases hb⟩
      · rw [if_neg hij]
        refine ⟨fun b' hb => .inr ?_, fun hb b' hm => ?_⟩
        · exact ih.1 b' hb
        · rcases hm with hm | hm
          · simp only [Prod.mk.injEq] at hm; exact hij hm.1
          · exact ih.2 hb b' hm
    | _ => exact ih
  | loop a ih => exact ih
  | _ => exact ⟨(fun b h => by cases h), (fun _ b hm => by cases hm)⟩
theorem stmtOf_of {c : Code} (hn : nodupN ((loopsIn c).map (·.1)) = true) {i : Nat} {b : Code} (h : (i, b) ∈ loopsIn c) : stmtOf i c = some b := by
  cases hb : stmtOf i c with
  | none => exact absurd h (stmtOf_mem.2 hb b)
  | some b' =>
    have h' := stmtOf_mem.1 b' hb
    have hnd : ((loopsIn c).map (·.1)).Nodup := nodupN_iff.mp hn
    have key : ∀ {l : List (Nat × Code)}, (l.map (·.1)).Nodup → (i, b) ∈ l → (i, b') ∈ l → b' = b := by
      intro l
      induction l with
      | nil => intro _ h; cases h
      | cons p l ih =>
        intro hn h1 h2
        simp only [List.map_cons, List.nodup_cons] at hn
        rcases List.mem_cons.mp h1 with rfl | h3
        · rcases List.mem_cons.mp h2 with h4 | h4
          · simp only [Prod.mk.injEq, true_and] at h4; exact h4
          · exact (hn.1 (List.mem_map.mpr ⟨(i, b'), h4, rfl⟩)).elim
        · rcases List.mem_cons.mp h2 with rfl | h4
          · exact (hn.1 (List.mem_map.mpr ⟨(i, b), h3, rfl⟩)).elim
          · exact ih hn.2 h3 h4
    rw [key hnd h h']
theorem loopsL_ok {ro : Option Nat} {c : Code} : ∀ {l : List (Nat × (Loc → Env C → Option (Out × Env C)))}, nodupN ((loopsIn c).map (·.1)) = true → (∀ p ∈ l, ∀ m g r, p.2 m g = some r → OutK C N ro ((stmtOf p.1 c).getD .skip) m g r) → LoopsK C N ro (loopsL C l) c := by
  intro l hn h
  refine loops_of ?_
  intro id b F hF hm
  have : ∃ p ∈ l, p.1 = id ∧ p.2 = F := by
    clear h
    induction l with
    | nil => cases hF
    | cons p l ih =>
      obtain ⟨i, G⟩ := p
      simp only [loopsL, cbeq] at hF
      split at hF
      · rename_i he
        subst he
        simp only [Option.some.injEq] at hF
        exact ⟨(id, G), by simp, rfl, hF⟩
      · obtain ⟨q, h1, h2⟩ := ih hF
        exact ⟨q, by simp [h1], h2⟩
  obtain ⟨p, h1, rfl, rfl⟩ := this
  have := h p h1
  rw [stmtOf_of hn hm] at this
  exact this
/-- A function: its loops by a table. -/
theorem fn_loops {l : List (Nat × (Loc → Env C → Option (Out × Env C)))} (Kk : C.Ok) (G0 : GamOK C Γ) {f : FuncId} {fn : Func} {S : FSum C} (hfn : C.P.funcs[f]? = some fn) (hbody : fn.body.isSome = true)
    (hn : nodupN ((loopsIn (fn.body.getD .skip)).map (·.1)) = true) (hl : ∀ p ∈ l, ∀ m g r, p.2 m g = some r → OutOK C fn.ntmps (stmtFn fn p.1) m g r)
    {tree : PsT C S.ps → RT C} (he : ∀ x : PsT C S.ps, evFn C Γ (loopsL C l) fn S (mkP S.ps x) = tree x) (h : ∀ x : PsT C S.ps, allT (S.pre (mkP S.ps x)) → (tree x).ok (S.F (mkP S.ps x))) : FnOK C f S := by
  cases hb : fn.body with
  | none => rw [hb] at hbody; cases hbody
  | some c =>
    rw [hb] at hn
    refine fn_ok (L := loopsL C l) Kk G0 hfn hb (loopsL_ok hn fun p hp => ?_) fun x hx => RT.ok_pick (he x) (h x hx)
    have := hl p hp
    unfold stmtFn at this
    rw [hb] at this
    exact this
end Go.Sx

namespace Go.Sx
open Go
/-- The greatest length of a list that comes in. -/
def topLen : Nat := 140737488355328
theorem wrap_i64 {n : Int} (h1 : -9223372036854775808 ≤ n) (h2 : n ≤ 9223372036854775807) : IntKind.i64.wrap n = n := by
  simp [IntKind.wrap, IntKind.bits, IntKind.signed]
  omega
theorem wrap_next {i : Int} (h1 : i < 1000000000000000000) (h2 : 0 ≤ i) : IntKind.i64.wrap (i + 1) = i + 1 := wrap_i64 (by omega) (by omega)
end Go.Sx
