/- 11 texts in one: the symbolic executor and the contracts of functions. -/
import Derived.Orders
import Derived.OrdersIn
import Derived.Test.YtbdgnghllalbgaaMA
/- The symbolic executor: what a function's contract says of real values; contents taken out of a state and into one. -/
namespace Go.Sx
open Go
variable {C : Cfg}

/-- The elements of a list of the call's own, as its cells. -/
def RowsR (C : Cfg) (w : World) (O : Nat → Prop) (t : Nat) (xs : List (C.R t)) (vals : List Value) : Prop :=
  ∀ (i : Nat) (x : C.R t), xs[i]? = some x → ∀ (j : Nat) (e : Ent C.R), (C.enc t x)[j]? = some e → ∃ v, vals[i * (C.kinds t).length + j]? = some v ∧ Rel C w O e v

/-- A cell's value and its content, by its kind. -/
def VR (C : Cfg) (w : World) (O : Nat → Prop) (k : Kind) (e : Ent C.R) (v : Value) : Prop :=
  match k with
  | .ow t => ∃ xs vals, e = .ro t xs ∧ RowsR C w O t xs vals ∧ w.ownsRow 0 (C.elT t) (C.kinds t).length v xs.length vals
  | k => e.kind = k ∧ Rel C w O e v

inductive VRs (C : Cfg) (w : World) (O : Nat → Prop) : List Kind → List (Ent C.R) → List Value → Prop
  | nil : VRs C w O [] [] []
  | cons {k : Kind} {e : Ent C.R} {v : Value} {ks : List Kind} {es : List (Ent C.R)} {vs : List Value} : VR C w O k e v → VRs C w O ks es vs → VRs C w O (k :: ks) (e :: es) (v :: vs)

/-- The blocks of the lists of the call's own. -/
def ownV : List Kind → List Value → List Nat
  | k :: ks, v :: vs => match k with
    | .ow _ => v.ownBlock.toList ++ ownV ks vs
    | _ => ownV ks vs
  | _, _ => []

/-- Values and their contents; the blocks that go with them. -/
inductive AR (C : Cfg) (w : World) (O : Nat → Prop) : List PSpec → List (List (Ent C.R)) → List Value → List Nat → Prop
  | nil : AR C w O [] [] [] []
  | v {agg : Bool} {ks : List Kind} {es : List (Ent C.R)} {vs : List Value} {v : Value} {ps : List PSpec} {ess : List (List (Ent C.R))} {args : List Value} {L : List Nat} :
      VRs C w O ks es vs → noOwB ks = true → (agg = true → v = .agg vs.toArray) → (agg = false → vs = [v]) → AR C w O ps ess args L → AR C w O (.v agg ks :: ps) (es :: ess) (v :: args) L
  | p {T : TypeId} {ks : List Kind} {off b : Nat} {es : List (Ent C.R)} {vs : Array Value} {ps : List PSpec} {ess : List (List (Ent C.R))} {args : List Value} {L : List Nat} :
      w.heap[b]? = some (.cells vs T (0, 0)) → VRs C w O ks es vs.toList → AR C w O ps ess args L →
      AR C w O (.p T ks off :: ps) (es :: ess) (.pointer (some ⟨b, off, none⟩) :: args) (b :: ownV ks vs.toList ++ L)

/-- The pointers among the arguments. -/
def ioA : List PSpec → List Value → List Value
  | p :: ps, v :: vs => bif p.isP then v :: ioA ps vs else ioA ps vs
  | _, _ => []

def resV : List Value → Value
  | [v] => v
  | vs => .tuple vs.toArray

/-- The contract of a function. -/
def FnOK (C : Cfg) (f : FuncId) (S : FSum C) : Prop :=
  ∀ (w : World) (X : Nat → Prop) (as : List (List (Ent C.R))) (args : List Value) (L : List Nat),
    AR C w (fun b => X b ∨ b ∈ L) S.ps as args L → L.Nodup → (∀ b, X b → b < w.heap.size ∧ b ∉ L) → (∀ x ∈ S.pre as, x = true) →
    Calls C.P f args.toArray w fun e w' => ∃ rvs L', e = .returned (resV rvs) ∧ rvs.length = S.rs.length ∧
      AR C w' (fun b => X b ∨ b ∈ L') (S.rs ++ ioP S.ps) (S.F as) (rvs ++ ioA S.ps args) L' ∧ L'.Nodup ∧ (∀ b ∈ L', b ∈ L ∨ w.heap.size ≤ b) ∧
      w'.os = w.os ∧ w'.tape = w.tape ∧ w'.output = w.output ∧ w.heap.size ≤ w'.heap.size ∧ ∀ b, b < w.heap.size → b ∉ L → w'.heap[b]? = w.heap[b]?

section
variable {O : Nat → Prop} {w : World}
theorem VRs.len {ks : List Kind} {es : List (Ent C.R)} {vs : List Value} (h : VRs C w O ks es vs) : es.length = ks.length ∧ vs.length = ks.length := by
  induction h with
  | nil => exact ⟨rfl, rfl⟩
  | cons _ _ ih => exact ⟨by simp [ih.1], by simp [ih.2]⟩
theorem RowsR.mono {w' : World} {O' : Nat → Prop} (hs : Stays w O w' O') {t : Nat} {xs : List (C.R t)} {vals : List Value} (h : RowsR C w O t xs vals) : RowsR C w' O' t xs vals := by
  intro i x hi j e he
  obtain ⟨v, h1, h2⟩ := h i x hi j e he
  exact ⟨v, h1, h2.mono C hs⟩
theorem VR_ro {k : Kind} (hk : ∀ t, k ≠ .ow t) {e : Ent C.R} {v : Value} : VR C w O k e v ↔ e.kind = k ∧ Rel C w O e v := by
  cases k <;> first | exact Iff.rfl | exact absurd rfl (hk _)
theorem noOwB_ne {ks : List Kind} (h : noOwB ks = true) : ∀ k ∈ ks, ∀ t, k ≠ .ow t := by
  intro k hk t he
  simp only [noOwB, List.all_eq_true] at h
  have := h k hk
  rw [he] at this
  cases this
theorem AR.bound {ps : List PSpec} {ess : List (List (Ent C.R))} {args : List Value} {L : List Nat} (h : AR C w O ps ess args L) : ∀ b ∈ L, b < w.heap.size := by
  have hv : ∀ {ks : List Kind} {es : List (Ent C.R)} {vs : List Value}, VRs C w O ks es vs → ∀ b ∈ ownV ks vs, b < w.heap.size := by
    intro ks es vs h
    induction h with
    | nil => intro b hb; cases hb
    | @cons k e v ks es vs h1 _ ih =>
      intro b hb
      cases k with
      | ow t =>
        simp only [ownV, List.mem_append, Option.mem_toList] at hb
        rcases hb with hb | hb
        · obtain ⟨xs, vals, _, _, h2⟩ := h1
          exact (h2.lt b hb).2
        · exact ih b hb
      | b => exact ih b hb
      | i _ => exact ih b hb
      | s => exact ih b hb
      | ro _ => exact ih b hb
  induction h with
  | nil => intro b hb; cases hb
  | v _ _ _ _ _ ih => exact ih
  | p h1 h2 _ ih =>
    intro b hb
    simp only [List.cons_append, List.mem_cons, List.mem_append] at hb
    rcases hb with rfl | hb | hb
    · exact (Array.getElem?_eq_some_iff.mp h1).1
    · exact hv h2 b hb
    · exact ih b hb
end

/-! Contents taken in. -/
section
variable {U' : Nat → Prop} {E' : Nat → Option (Ent C.R)} {ρ' : Nat → Value} {w' : World} {O' : Nat → Prop}

/-- Values by their numbers. -/
def At (ρ' : Nat → Value) (n : Nat) (vs : List Value) : Prop := ∀ (i : Nat) (v : Value), vs[i]? = some v → ρ' (n + i) = v
theorem At.tail {n : Nat} {v : Value} {vs : List Value} (h : At ρ' n (v :: vs)) : ρ' n = v ∧ At ρ' (n + 1) vs :=
  ⟨by simpa using h 0 v rfl, fun i u hu => by have := h (i + 1) u (by simpa using hu); rw [← this]; congr 1; omega⟩
theorem At.app {n : Nat} {vs us : List Value} (h : At ρ' n (vs ++ us)) : At ρ' n vs ∧ At ρ' (n + vs.length) us := by
  refine ⟨fun i v hi => h i v (by rw [List.getElem?_append_left (List.getElem?_eq_some_iff.mp hi).1]; exact hi), fun i v hi => ?_⟩
  have := h (vs.length + i) v (by rw [List.getElem?_append_right (by omega)]; rw [Nat.add_sub_cancel_left]; exact hi)
  rw [← this]; congr 1; omega

/-- What is known of the new blocks: each is as its name says, each lies where the values say. -/
def BsOK (C : Cfg) (U' : Nat → Prop) (E' : Nat → Option (Ent C.R)) (ρ' : Nat → Value) (w' : World) (O' : Nat → Prop) (bs : List (Nat × Option Blk)) : Prop :=
  ∀ p ∈ bs, ∃ B, p.2 = some B ∧ U' p.1 ∧ B.owned = true ∧ BRel C U' E' ρ' w' O' p.1 B

theorem import_cells : ∀ {ks : List Kind} {es : List (Ent C.R)} {n : Nat} {cs : List Cell} {en : List (Nat × Ent C.R)} {bs : List (Nat × Option Blk)} {vs : List Value},
    outCells C n ks es = some (cs, en, bs) → VRs C w' O' ks es vs → (∀ p ∈ en, E' p.1 = some p.2) → (∀ i, n ≤ i → i < n + es.length → U' i) → At ρ' n vs →
    CsRel C U' E' ρ' w' O' cs vs ∧ BsOK C U' E' ρ' w' O' bs ∧ (∀ p ∈ bs, n ≤ p.1 ∧ p.1 < n + es.length) ∧ bs.filterMap (fun p => blkOf (ρ' p.1)) = ownV ks vs ∧ (noOwB ks = true → bs = []) := by
  intro ks
  induction ks with
  | nil =>
    intro es n cs en bs vs h hv hE hU hA
    cases es with
    | nil =>
      simp only [outCells, Option.some.injEq, Prod.mk.injEq] at h
      obtain ⟨rfl, rfl, rfl⟩ := h
      cases hv
      exact ⟨.nil, (by intro p hp; cases hp), (by intro p hp; cases hp), rfl, fun _ => rfl⟩
    | cons e es => simp [outCells] at h
  | cons k ks ih =>
    intro es n cs en bs vs h hv hE hU hA
    cases es with
    | nil => simp [outCells] at h
    | cons e es =>
      cases hv with
      | @cons _ _ v _ _ vs h1 h2 =>
      simp only [outCells] at h
      split at h
      · cases h
      · rename_i cs' en' bs' hrec
        obtain ⟨hat, hA'⟩ := hA.tail
        simp only [List.length_cons] at hU
        have hUn : U' n := hU n (by omega) (by omega)
        split at h
        · rename_i t
          split at h
          · rename_i t' xs
            cases hb : Nat.beq t t' with
            | false => rw [hb] at h; cases h
            | true =>
              rw [hb] at h
              obtain rfl := Nat.beq_eq.mp hb
              simp only [cond, Option.some.injEq, Prod.mk.injEq] at h
              obtain ⟨rfl, rfl, rfl⟩ := h
              obtain ⟨r1, r2, r3, r4, r5⟩ := ih hrec h2 (fun p hp => hE p (by simp [hp])) (fun i hi hi' => hU i (by omega) (by omega)) hA'
              obtain ⟨ys, vals, q1, q2, q3⟩ := h1
              simp only [Ent.ro.injEq, heq_eq_eq, true_and] at q1
              subst q1
              have hsl : ∃ a l c, ρ' n = .slice a l c := by
                rw [hat]
                rcases q3.2 with ⟨q4, _⟩ | ⟨g, cap, cur, q4, _⟩
                · exact ⟨none, 0, 0, q4⟩
                · exact ⟨_, _, _, q4⟩
              refine ⟨.cons ⟨hUn, hat.symm, hsl⟩ r1, ?_, ?_, ?_, ?_⟩
              · intro p hp
                cases hp with
                | head => exact ⟨_, rfl, hUn, rfl, xs, vals, hE (n, .ro t xs) (by simp), q2, by rw [hat]; exact q3⟩
                | tail _ hp => exact r2 p hp
              · intro p hp
                cases hp with
                | head => simp
                | tail _ hp => have := r3 p hp; simp; omega
              · simp only [ownV]
                rw [← r4]
                have hb : blkOf (ρ' n) = v.ownBlock := by rw [hat]; exact ownBlock_blkOf q3
                cases hvb : v.ownBlock with
                | none => rw [hvb] at hb; simp [List.filterMap_cons, hb]
                | some g => rw [hvb] at hb; simp [List.filterMap_cons, hb]
              · intro hn; simp [noOwB] at hn
          · cases h
        · rename_i k' hk'
          have hk : ∀ t, k ≠ .ow t := fun t he => hk' t he
          cases hb : Kind.same e.kind k with
          | false => rw [hb] at h; cases h
          | true =>
            rw [hb] at h
            simp only [cond, Option.some.injEq, Prod.mk.injEq] at h
            obtain ⟨rfl, rfl, rfl⟩ := h
            obtain ⟨r1, r2, r3, r4, r5⟩ := ih hrec h2 (fun p hp => hE p (by simp [hp])) (fun i hi hi' => hU i (by omega) (by omega)) hA'
            refine ⟨.cons ⟨e, hE (n, e) (by simp), ((VR_ro hk).mp h1).2⟩ r1, r2, ?_, ?_, ?_⟩
            · intro p hp
              have := r3 p hp; simp; omega
            · rw [r4]
              cases k <;> first | rfl | exact absurd rfl (hk _)
            · intro hn
              refine r5 ?_
              simp only [noOwB, List.all_cons, Bool.and_eq_true] at hn ⊢
              exact hn.2

/-- The values of contents that are taken in, by their numbers. -/
inductive Flat : List PSpec → List Value → World → List Value → Prop
  | nil {w : World} : Flat [] [] w []
  | v {agg : Bool} {ks : List Kind} {v : Value} {vs : List Value} {ps : List PSpec} {args : List Value} {w : World} {l : List Value} : (agg = true → v = .agg vs.toArray) → (agg = false → vs = [v]) → Flat ps args w l → Flat (.v agg ks :: ps) (v :: args) w (vs ++ l)
  | p {T : TypeId} {ks : List Kind} {off b : Nat} {vs : Array Value} {ps : List PSpec} {args : List Value} {w : World} {l : List Value} : w.heap[b]? = some (.cells vs T (0, 0)) → Flat ps args w l →
      Flat (.p T ks off :: ps) (.pointer (some ⟨b, off, none⟩) :: args) w (.pointer (some ⟨b, 0, none⟩) :: vs.toList ++ l)

theorem AR.flat {O : Nat → Prop} {w : World} {ps : List PSpec} {ess : List (List (Ent C.R))} {args : List Value} {L : List Nat} (h : AR C w O ps ess args L) : ∃ l, Flat ps args w l := by
  induction h with
  | nil => exact ⟨[], .nil⟩
  | v _ _ h1 h2 _ ih => obtain ⟨l, hl⟩ := ih; exact ⟨_, .v h1 h2 hl⟩
  | p h1 _ _ ih => obtain ⟨l, hl⟩ := ih; exact ⟨_, .p h1 hl⟩

/-- The names that are given for variables are those of the pointers' blocks. -/
inductive Named (ρ' : Nat → Value) : List PSpec → List Value → List (Option Nat) → Prop
  | nil {nms : List (Option Nat)} : Named ρ' [] [] nms
  | v {agg : Bool} {ks : List Kind} {v : Value} {ps : List PSpec} {args : List Value} {nms : List (Option Nat)} : Named ρ' ps args nms.tail → Named ρ' (.v agg ks :: ps) (v :: args) nms
  | p {T : TypeId} {ks : List Kind} {off b : Nat} {ps : List PSpec} {args : List Value} {nms : List (Option Nat)} : (∀ k, nms.head?.join = some k → ρ' k = .pointer (some ⟨b, 0, none⟩)) → Named ρ' ps args nms.tail →
      Named ρ' (.p T ks off :: ps) (.pointer (some ⟨b, off, none⟩) :: args) nms

theorem import_ok {ps : List PSpec} {ess : List (List (Ent C.R))} {args : List Value} {L : List Nat} (h : AR C w' O' ps ess args L) :
    ∀ {n n' : Nat} {nms : List (Option Nat)} {svs : List SV} {en : List (Nat × Ent C.R)} {bs : List (Nat × Option Blk)} {l : List Value},
      importP C n ps ess nms = some (n', svs, en, bs) → Flat ps args w' l → At ρ' n l → Named ρ' ps args nms → (∀ p ∈ en, E' p.1 = some p.2) → (∀ i, n ≤ i → i < n' → U' i) → (∀ k ∈ nms, ∀ j, k = some j → U' j) →
      n' = n + l.length ∧ SlRel E' U' ρ' w' O' svs args ∧ BsOK C U' E' ρ' w' O' bs ∧ (∀ p ∈ bs, (n ≤ p.1 ∧ p.1 < n') ∨ some p.1 ∈ nms) ∧ bs.filterMap (fun p => blkOf (ρ' p.1)) = L := by
  induction h with
  | nil =>
    intro n n' nms svs en bs l hi hf hA hN hE hU hnm
    simp only [importP, Option.some.injEq, Prod.mk.injEq] at hi
    obtain ⟨rfl, rfl, rfl, rfl⟩ := hi
    cases hf
    exact ⟨by simp, .nil, (by intro p hp; cases hp), (by intro p hp; cases hp), rfl⟩
  | @v agg ks es vs v ps ess args L h1 h2 h3 h4 _ ih =>
    intro n n' nms svs en bs l hi hf hA hN hE hU hnm
    simp only [importP] at hi
    cases hc : (noOwB ks && (bif agg then true else Nat.beq es.length 1)) with
    | false => rw [hc] at hi; cases hi
    | true =>
      rw [hc] at hi
      simp only [cond] at hi
      split at hi
      · cases hi
      · rename_i cs en1 bs1 ho
        split at hi
        · cases hi
        · rename_i n2 svs2 en2 bs2 hr
          simp only [Option.some.injEq, Prod.mk.injEq] at hi
          obtain ⟨rfl, rfl, rfl, rfl⟩ := hi
          cases hf with
          | @v _ _ _ vs' _ _ _ l' f1 f2 f3 =>
          have hvv : vs' = vs := by
            cases agg with
            | true =>
              have := (f1 rfl).symm.trans (h3 rfl)
              simpa using this
            | false => rw [f2 rfl, h4 rfl]
          subst hvv
          cases hN with
          | v hN' =>
          obtain ⟨hA1, hA2⟩ := hA.app
          have hlen := h1.len
          have hel : es.length = vs'.length := by omega
          rw [← hel] at hA2
          obtain ⟨r0, r1, r2, r3, r4⟩ := ih hr f3 hA2 hN' (fun p hp => hE p (by simp [hp])) (fun i hi hi' => hU i (by omega) hi') (fun k hk => hnm k (List.mem_of_mem_tail hk))
          have hUc : ∀ i, n ≤ i → i < n + es.length → U' i := fun i hi hi' => hU i hi (by omega)
          obtain ⟨c1, c2, c3, c4, c5⟩ := import_cells ho h1 (fun p hp => hE p (by simp [hp])) hUc hA1
          refine ⟨by rw [r0, List.length_append]; omega, .cons ?_ r1, r2, ?_, r4⟩
          · cases agg with
            | true =>
              have hsv : svOf true cs = .g cs := by cases cs with
                | nil => rfl
                | cons c cs => cases cs <;> rfl
              rw [hsv, h3 rfl]
              exact ⟨vs', rfl, c1⟩
            | false =>
              have hvs := h4 rfl
              subst hvs
              cases c1 with
              | cons q1 q2 => cases q2; exact q1
          · intro p hp
            rcases r3 p hp with h | h
            · exact .inl ⟨by omega, h.2⟩
            · exact .inr (List.mem_of_mem_tail h)
  | @p T ks off b es vs ps ess args L h1 h2 _ ih =>
    intro n n' nms svs en bs l hi hf hA hN hE hU hnm
    simp only [importP] at hi
    split at hi
    · cases hi
    · rename_i cs en1 bs1 ho
      split at hi
      · cases hi
      · rename_i n2 svs2 en2 bs2 hr
        simp only [Option.some.injEq, Prod.mk.injEq] at hi
        obtain ⟨rfl, rfl, rfl, rfl⟩ := hi
        cases hf with
        | @p _ _ _ _ vs' _ _ _ l' f1 f2 =>
        rw [h1] at f1
        simp only [Option.some.injEq, Obj.cells.injEq, and_true] at f1
        subst f1
        cases hN with
        | p hN1 hN' =>
        rw [List.cons_append] at hA
        obtain ⟨hA0, hA'⟩ := hA.tail
        obtain ⟨hA1, hA2⟩ := hA'.app
        have hlen := h2.len
        have hel : es.length = vs.toList.length := by omega
        rw [← hel] at hA2
        obtain ⟨r0, r1, r2, r3, r4⟩ := ih hr f2 hA2 hN' (fun p hp => hE p (by simp [hp])) (fun i hi hi' => hU i (by omega) hi') (fun k hk => hnm k (List.mem_of_mem_tail hk))
        have hUc : ∀ i, n + 1 ≤ i → i < n + 1 + es.length → U' i := fun i hi hi' => hU i (by omega) (by omega)
        obtain ⟨c1, c2, c3, c4, c5⟩ := import_cells ho h2 (fun p hp => hE p (by simp [hp])) hUc hA1
        have hk : ρ' (nms.head?.join.getD n) = .pointer (some ⟨b, 0, none⟩) ∧ U' (nms.head?.join.getD n) := by
          cases hj : nms.head?.join with
          | none => exact ⟨hA0, hU n (by omega) (by omega)⟩
          | some k =>
            refine ⟨hN1 k hj, hnm (some k) ?_ k rfl⟩
            cases nms with
            | nil => simp at hj
            | cons x l => simp at hj; simp [hj]
        refine ⟨by rw [r0]; simp only [List.cons_append, List.length_cons, List.length_append]; omega, .cons ⟨hk.2, b, hk.1, rfl⟩ r1, ?_, ?_, ?_⟩
        · intro p hp
          simp only [List.cons_append, List.mem_cons, List.mem_append] at hp
          rcases hp with rfl | hp | hp
          · exact ⟨_, rfl, hk.2, rfl, b, vs, hk.1, h1, c1⟩
          · exact c2 p hp
          · exact r2 p hp
        · intro p hp
          simp only [List.cons_append, List.mem_cons, List.mem_append] at hp
          rcases hp with rfl | hp | hp
          · cases hj : nms.head?.join with
            | none => exact .inl ⟨Nat.le_refl _, by simp only [Option.getD_none]; omega⟩
            | some k =>
              refine .inr ?_
              cases nms with
              | nil => simp at hj
              | cons x l => simp at hj; simp [hj]
          · have := c3 p hp
            exact .inl ⟨by omega, by omega⟩
          · rcases r3 p hp with h | h
            · exact .inl ⟨by omega, h.2⟩
            · exact .inr (List.mem_of_mem_tail h)
        · have e0 : blkOf (ρ' (nms.head?.join.getD n)) = some b := by rw [hk.1]; rfl
          rw [List.cons_append, List.filterMap_cons]
          simp only [e0, List.filterMap_append, c4, r4]
          rfl
end
end Go.Sx

/- The symbolic executor: contents taken out of a state; calls. -/
namespace Go.Sx
open Go
variable {C : Cfg} {O : Nat → Prop} {w0 : World} {O0 : Frm} {X : Nat → Prop} {N : Nat} {U : Nat → Prop} {m : St C} {ρ : Nat → Value} {a : Act} {w : World}
variable {o : Oper} {ex : Ex} {f : Eff C} {n : Nat}

theorem stays_sub {O' : Nat → Prop} (h : ∀ b, O' b → O b) : Stays w O w O' := ⟨Nat.le_refl _, fun b _ hO => ⟨rfl, fun h' => hO (h b h')⟩⟩

theorem rel_of_rows {O' : Nat → Prop} {t : Nat} {xs : List (C.R t)} {vals : List Value} {v : Value} (hr : RowsR C w O' t xs vals) (ho : w.ownsRow 0 (C.elT t) (C.kinds t).length v xs.length vals)
    (hb : ∀ b, blkOf v = some b → ¬ O' b) : Rel C w O' (.ro t xs) v := by
  rcases ho.2 with ⟨q4, q5⟩ | ⟨g, cap, cur, q4, _, q5, q6, q7, q8, q9⟩
  · have hx : xs = [] := List.eq_nil_of_length_eq_zero q5
    subst hx
    rw [q4]; exact .nil t none 0
  · by_cases hx : xs = []
    · subst hx
      rw [q4]; exact .nil t _ _
    · rw [q4]
      refine .ro t xs g 0 cap (fun i j => (vals[i * (C.kinds t).length + j]?).getD undef) hx q6 (hb g (by rw [q4]; rfl)) (Array.getElem?_eq_some_iff.mp q5).1 ?_ ?_
      · intro i x hi j e he
        obtain ⟨u, hu, _⟩ := hr i x hi j e he
        have := ho.cells (g := g) (by rw [q4]; rfl) _ u hu
        rw [Addr.add_lit] at this
        rw [this, hu]; rfl
      · intro i x hi j e he
        obtain ⟨u, hu, h2⟩ := hr i x hi j e he
        rw [hu]; exact h2

theorem entArg_sound (S : Sim w0 O0 X N U m ρ a w) {O' : Nat → Prop} (hO : ∀ b, O' b → Owns X m ρ b) {k : Kind} {c : Cell} {e : Ent C.R} (h : (entAs C true k c).run m = some e) {v : Value}
    (r : CRel C U m.e.get ρ w (Owns X m ρ) c v) (hn : ∀ nm, c = .o nm → ∀ B b, m.b.get nm = some B → B.owned = true → blkOf (ρ nm) = some b → ¬ O' b) : Rel C w O' e v ∧ e.kind = k := by
  have strict : (entAs C false k c).run m = some e → Rel C w O' e v ∧ e.kind = k := by
    intro h'
    obtain ⟨h1, h2⟩ := entAs_sound S h' r
    exact ⟨h1.mono C (stays_sub hO), h2⟩
  cases c with
  | k l => exact strict h
  | v id => exact strict h
  | z => exact strict h
  | p _ _ => simp [entAs] at h
  | pn => simp [entAs] at h
  | f _ => simp [entAs] at h
  | u => simp [entAs] at h
  | o nm =>
    have h0 := h
    simp only [entAs] at h
    split at h
    · rename_i t
      obtain ⟨B, h1, h2⟩ := Prg.run_getB_some h
      cases B with
      | c _ _ => simp at h2
      | f t2 id =>
        refine strict ?_
        simp only [entAs, Prg.run, h1]
        exact h2
      | l t2 id =>
        simp only [Bool.true_and] at h2
        cases hb : Nat.beq t t2 with
        | false => rw [hb] at h2; simp at h2
        | true =>
          rw [hb] at h2
          simp only [cond] at h2
          obtain rfl := Nat.beq_eq.mp hb
          obtain ⟨e', h3, h4⟩ := Prg.run_getE_some h2
          cases hk : Kind.same e'.kind (.ro t) with
          | false => rw [hk] at h4; simp at h4
          | true =>
            rw [hk] at h4
            simp only [cond, Prg.run_ret, Option.some.injEq] at h4
            subst h4
            obtain ⟨_, xs, vals, q1, q2, q3⟩ := S.blocks nm _ h1
            rw [h3] at q1
            simp only [Option.some.injEq] at q1
            subst q1
            obtain ⟨_, hv, _⟩ := r
            subst hv
            refine ⟨rel_of_rows (RowsR.mono (stays_sub hO) q2) q3 (fun b hb => hn nm rfl _ b h1 rfl hb), rfl⟩
    · simp at h

theorem entsArg_sound (S : Sim w0 O0 X N U m ρ a w) {O' : Nat → Prop} (hO : ∀ b, O' b → Owns X m ρ b) : ∀ {ks : List Kind} {cs : List Cell} {es : List (Ent C.R)} {vs : List Value},
    (entsAs C true ks cs).run m = some es → noOwB ks = true → CsRel C U m.e.get ρ w (Owns X m ρ) cs vs → (∀ nm ∈ cellNames cs, ∀ B b, m.b.get nm = some B → B.owned = true → blkOf (ρ nm) = some b → ¬ O' b) → VRs C w O' ks es vs := by
  intro ks
  induction ks with
  | nil =>
    intro cs es vs h _ r _
    cases cs with
    | nil => simp only [entsAs, Prg.run_ret, Option.some.injEq] at h; subst h; cases r; exact .nil
    | cons c cs => simp [entsAs] at h
  | cons k ks ih =>
    intro cs es vs h hno r hn
    cases cs with
    | nil => simp [entsAs] at h
    | cons c cs =>
      simp only [entsAs] at h
      obtain ⟨e, h1, h2⟩ := Prg.run_bind_some h
      obtain ⟨es', h3, h4⟩ := Prg.run_bind_some h2
      simp only [Prg.run_ret, Option.some.injEq] at h4
      subst h4
      cases r with
      | cons r1 r2 =>
        have hk := noOwB_ne hno
        obtain ⟨p1, p2⟩ := entArg_sound S hO h1 r1 (fun nm hc => by subst hc; exact hn nm (by simp [cellNames]))
        refine .cons ((VR_ro (hk k (by simp))).mpr ⟨p2, p1⟩) (ih h3 ?_ r2 (fun nm hnm => hn nm ?_))
        · simp only [noOwB, List.all_cons, Bool.and_eq_true] at hno ⊢; exact hno.2
        · cases c <;> simp [cellNames, hnm]

theorem inOut_sound (S : Sim w0 O0 X N U m ρ a w) {O' : Nat → Prop} (hO : ∀ b, O' b → Owns X m ρ b) : ∀ {ks : List Kind} {cs : List Cell} {r : List (Ent C.R) × List Nat} {vs : List Value},
    (inOut C ks cs).run m = some r → CsRel C U m.e.get ρ w (Owns X m ρ) cs vs → VRs C w O' ks r.1 vs ∧ r.2.filterMap (fun k => blkOf (ρ k)) = ownV ks vs ∧ ∀ k ∈ r.2, ∃ B, m.b.get k = some B ∧ B.owned = true := by
  intro ks
  induction ks with
  | nil =>
    intro cs r vs h hr
    cases cs with
    | nil => simp only [inOut, Prg.run_ret, Option.some.injEq] at h; subst h; cases hr; exact ⟨.nil, rfl, (by intro k hk; cases hk)⟩
    | cons c cs => simp [inOut] at h
  | cons k ks ih =>
    intro cs r vs h hr
    cases cs with
    | nil => simp [inOut] at h
    | cons c cs =>
      cases hr with
      | @cons _ v _ vs r1 r2 =>
      simp only [inOut] at h
      split at h
      · rename_i t
        split at h
        · obtain ⟨q, h1, h2⟩ := Prg.run_bind_some h
          simp only [Prg.run_ret, Option.some.injEq] at h2
          subst h2
          obtain ⟨p1, p2, p3⟩ := ih h1 r2
          have hv : v = .slice none 0 0 := r1
          subst hv
          refine ⟨.cons ⟨[], [], rfl, (by intro i x hi; simp at hi), World.ownsRow_nil _ _ _ _⟩ p1, ?_, p3⟩
          simpa [ownV, Value.ownBlock] using p2
        · rename_i nm
          obtain ⟨l, h1, h2⟩ := Prg.run_bind_some h
          obtain ⟨q, h3, h4⟩ := Prg.run_bind_some h2
          simp only [Prg.run_ret, Option.some.injEq] at h4
          subst h4
          obtain ⟨p1, p2, p3⟩ := ih h3 r2
          obtain ⟨id, g1, g2⟩ := listOwn_sound h1
          obtain ⟨_, xs, vals, q1, q2, q3⟩ := S.blocks nm _ g1
          rw [g2] at q1
          simp only [Option.some.injEq, Ent.ro.injEq, heq_eq_eq, true_and] at q1
          subst q1
          obtain ⟨_, hv, _⟩ := r1
          subst hv
          refine ⟨.cons ⟨l, vals, rfl, RowsR.mono (stays_sub hO) q2, q3⟩ p1, ?_, ?_⟩
          · simp only [ownV, List.filterMap_cons, ownBlock_blkOf q3]
            cases hob : (ρ nm).ownBlock <;> simp [p2]
          · intro k hk
            cases hk with
            | head => exact ⟨_, g1, rfl⟩
            | tail _ hk => exact p3 k hk
        · simp at h
      · rename_i k' hk'
        have hk : ∀ t, k ≠ .ow t := fun t he => hk' t he
        obtain ⟨e, h1, h2⟩ := Prg.run_bind_some h
        obtain ⟨q, h3, h4⟩ := Prg.run_bind_some h2
        simp only [Prg.run_ret, Option.some.injEq] at h4
        subst h4
        obtain ⟨p1, p2, p3⟩ := ih h3 r2
        obtain ⟨e1, e2⟩ := entAs_sound S h1 r1
        refine ⟨.cons ((VR_ro hk).mpr ⟨e2, e1.mono C (stays_sub hO)⟩) p1, ?_, p3⟩
        rw [p2]
        cases k <;> first | rfl | exact absurd rfl (hk _)

theorem export_ok (S : Sim w0 O0 X N U m ρ a w) {O' : Nat → Prop} (hO : ∀ b, O' b → Owns X m ρ b) : ∀ {ps : List PSpec} {xs : List SV} {vals : List Value} {r : List (List (Ent C.R)) × List Nat × List Nat},
    (argsOf C ps xs).run m = some r → SlRel m.e.get U ρ w (Owns X m ρ) xs vals → (∀ nm ∈ roOf ps xs, ∀ B b, m.b.get nm = some B → B.owned = true → blkOf (ρ nm) = some b → ¬ O' b) →
    AR C w O' ps r.1 vals (r.2.2.filterMap fun k => blkOf (ρ k)) ∧ (∀ k ∈ r.2.2, ∃ B, m.b.get k = some B ∧ B.owned = true) ∧ Named ρ (ioP ps) (ioA ps vals) (r.2.1.map some) ∧ (∀ k ∈ r.2.1, k ∈ r.2.2) ∧ r.2.1.length = (ioP ps).length ∧
      (ioP ps).length = (ioA ps vals).length := by
  intro ps
  induction ps with
  | nil =>
    intro xs vals r h hs _
    cases xs with
    | nil =>
      simp only [argsOf, Prg.run_ret, Option.some.injEq] at h
      subst h
      cases hs
      exact ⟨.nil, (by intro k hk; cases hk), .nil, (by intro k hk; cases hk), rfl, rfl⟩
    | cons x xs => simp [argsOf] at h
  | cons p ps ih =>
    intro xs vals r h hs hro
    cases xs with
    | nil => cases p <;> simp [argsOf] at h
    | cons x xs =>
      cases hs with
      | @cons _ v _ vals s1 s2 =>
      cases p with
      | v agg ks =>
        simp only [argsOf] at h
        split at h
        · rename_i g cs hcs
          cases hb : ((bif agg then g else !g) && noOwB ks) with
          | false => rw [hb] at h; simp at h
          | true =>
            rw [hb] at h
            simp only [Bool.and_eq_true] at hb
            simp only [cond] at h
            obtain ⟨es, h1, h2⟩ := Prg.run_bind_some h
            obtain ⟨q, h3, h4⟩ := Prg.run_bind_some h2
            simp only [Prg.run_ret, Option.some.injEq] at h4
            subst h4
            have hro1 : ∀ nm ∈ cellNames cs, ∀ B b, m.b.get nm = some B → B.owned = true → blkOf (ρ nm) = some b → ¬ O' b := fun nm hnm => hro nm (by simp [roOf, hcs, hnm])
            obtain ⟨p1, p2, p3, p4, p5, p6⟩ := ih h3 s2 (fun nm hnm => hro nm (by simp [roOf, hnm]))
            obtain ⟨vs, v1, v2, v3⟩ := svCells_rel hcs s1
            refine ⟨.v (entsArg_sound S hO h1 hb.2 v1 hro1) hb.2 ?_ ?_ p1, p2, ?_, p4, ?_, ?_⟩
            · intro ha; subst ha; exact v2 hb.1
            · intro ha; subst ha; exact v3 (by have := hb.1; simpa using this)
            · simpa [ioP, ioA, PSpec.isP] using p3
            · simpa [ioP, PSpec.isP] using p5
            · simpa [ioP, ioA, PSpec.isP] using p6
        · simp at h
      | p T ks off =>
        cases x with
        | g _ => simp [argsOf] at h
        | t _ => simp [argsOf] at h
        | e _ _ _ _ => simp [argsOf] at h
        | c c =>
          cases c with
          | k _ => simp [argsOf] at h
          | v _ => simp [argsOf] at h
          | pn => simp [argsOf] at h
          | o _ => simp [argsOf] at h
          | z => simp [argsOf] at h
          | f _ => simp [argsOf] at h
          | u => simp [argsOf] at h
          | p nm off' =>
            simp only [argsOf] at h
            cases hb : Nat.beq off off' with
            | false => rw [hb] at h; simp at h
            | true =>
              rw [hb] at h
              obtain rfl := Nat.beq_eq.mp hb
              simp only [cond] at h
              obtain ⟨B, h1, h2⟩ := Prg.run_getB_some h
              cases B with
              | l _ _ => simp at h2
              | f _ _ => simp at h2
              | c T' cs =>
                simp only at h2
                cases hT : Nat.beq T T' with
                | false => rw [hT] at h2; simp at h2
                | true =>
                  rw [hT] at h2
                  obtain rfl := Nat.beq_eq.mp hT
                  simp only at h2
                  obtain ⟨q, h3, h4⟩ := Prg.run_bind_some h2
                  obtain ⟨q', h5, h6⟩ := Prg.run_bind_some h4
                  simp only [Prg.run_ret, Option.some.injEq] at h6
                  subst h6
                  obtain ⟨hUn, b, hb1, hv⟩ := s1
                  obtain ⟨_, b', vs, q1, q2, q3⟩ := S.blocks nm _ h1
                  rw [hb1] at q1
                  simp only [Value.pointer.injEq, Option.some.injEq, Addr.mk.injEq, and_true] at q1
                  obtain rfl := q1
                  subst hv
                  obtain ⟨i1, i2, i3⟩ := inOut_sound S hO h3 q3
                  obtain ⟨p1, p2, p3, p4, p5, p6⟩ := ih h5 s2 (fun nm hnm => hro nm (by simp [roOf, hnm]))
                  have e0 : blkOf (ρ nm) = some b := by rw [hb1]; rfl
                  refine ⟨?_, ?_, ?_, ?_, ?_, ?_⟩
                  · simp only [List.cons_append, List.filterMap_cons, e0, List.filterMap_append, i2]
                    exact .p q2 i1 p1
                  · intro k hk
                    simp only [List.cons_append, List.mem_cons, List.mem_append] at hk
                    rcases hk with rfl | hk | hk
                    · exact ⟨_, h1, rfl⟩
                    · exact i3 k hk
                    · exact p2 k hk
                  · have : Named ρ (.p T ks off :: ioP ps) (.pointer (some ⟨b, off, none⟩) :: ioA ps vals) (some nm :: q'.2.1.map some) := .p (fun k hk => by simp at hk; rw [← hk]; exact hb1) p3
                    exact this
                  · intro k hk
                    simp only [List.cons_append, List.mem_cons, List.mem_append] at hk ⊢
                    rcases hk with rfl | hk
                    · exact .inl rfl
                    · exact .inr (.inr (p4 k hk))
                  · exact congrArg Nat.succ p5
                  · exact congrArg Nat.succ p6
end Go.Sx

/- The symbolic executor: calls by their contracts. -/
namespace Go.Sx
open Go
variable {C : Cfg} {O : Nat → Prop} {w0 : World} {O0 : Frm} {X : Nat → Prop} {N : Nat} {U : Nat → Prop} {m : St C} {ρ : Nat → Value} {a : Act} {w : World}
variable {o : Oper} {ex : Ex} {f : Eff C} {n : Nat}

theorem nodupN_iff {l : List Nat} : nodupN l = true ↔ l.Nodup := by
  induction l with
  | nil => simp [nodupN]
  | cons x l ih =>
    simp only [nodupN, Bool.and_eq_true, Bool.not_eq_true', List.any_eq_false, List.nodup_cons, ih]
    constructor
    · rintro ⟨h1, h2⟩
      exact ⟨fun hx => by have := h1 x hx; simp at this, h2⟩
    · rintro ⟨h1, h2⟩
      exact ⟨fun y hy => by simp; rintro rfl; exact h1 hy, h2⟩
theorem apartN_iff {xs ys : List Nat} : apartN xs ys = true ↔ ∀ x ∈ xs, x ∉ ys := by
  simp only [apartN, List.all_eq_true, Bool.not_eq_true', List.any_eq_false]
  constructor
  · intro h x hx hy; have := h x hx x hy; simp at this
  · intro h x hx y hy; simp; rintro rfl; exact h x hx hy

theorem setB_none : ∀ (l : List (Nat × Option Blk)) (t : Tr Blk) (k : Nat), k ∉ l.map (·.1) → (setB l t).get k = t.get k := by
  intro l
  induction l with
  | nil => intro t k _; rfl
  | cons p l ih =>
    intro t k h
    obtain ⟨j, x⟩ := p
    simp only [List.map_cons, List.mem_cons, not_or] at h
    simp only [setB]
    rw [ih _ _ h.2, Tr.get_set, if_neg h.1]
theorem setB_some : ∀ (l : List (Nat × Option Blk)) (t : Tr Blk) (k : Nat) (x : Option Blk), (l.map (·.1)).Nodup → (k, x) ∈ l → (setB l t).get k = x := by
  intro l
  induction l with
  | nil => intro t k x _ h; cases h
  | cons p l ih =>
    intro t k x hn h
    obtain ⟨j, y⟩ := p
    simp only [List.map_cons, List.nodup_cons] at hn
    simp only [setB]
    cases h with
    | head => rw [setB_none _ _ _ hn.1, Tr.get_set, if_pos rfl]
    | tail _ h => exact ih _ _ _ hn.2 h

theorem frz_sound : ∀ {l : List Nat} {fz : List (Nat × Option Blk)}, (frz C l).run m = some fz →
    (∀ p ∈ fz, ∃ t id, p.2 = some (.f t id) ∧ m.b.get p.1 = some (.l t id) ∧ p.1 ∈ l) ∧ ∀ nm ∈ l, (∃ t id, m.b.get nm = some (.f t id)) ∨ nm ∈ fz.map (·.1) := by
  intro l
  induction l with
  | nil =>
    intro fz h
    simp only [frz, Prg.run_ret, Option.some.injEq] at h
    subst h
    exact ⟨(by intro p hp; cases hp), (by intro p hp; cases hp)⟩
  | cons nm l ih =>
    intro fz h
    simp only [frz] at h
    obtain ⟨B, h1, h2⟩ := Prg.run_getB_some h
    cases B with
    | c _ _ => simp at h2
    | l t id =>
      obtain ⟨r, h3, h4⟩ := Prg.run_bind_some h2
      simp only [Prg.run_ret, Option.some.injEq] at h4
      subst h4
      obtain ⟨q1, q2⟩ := ih h3
      refine ⟨?_, ?_⟩
      · intro p hp
        cases hp with
        | head => exact ⟨t, id, rfl, h1, by simp⟩
        | tail _ hp => obtain ⟨t, id, e1, e2, e3⟩ := q1 p hp; exact ⟨t, id, e1, e2, by simp [e3]⟩
      · intro k hk
        cases hk with
        | head => exact .inr (by simp)
        | tail _ hk => rcases q2 k hk with h | h
                       · exact .inl h
                       · exact .inr (by simp at h ⊢; exact .inr h)
    | f t id =>
      obtain ⟨q1, q2⟩ := ih h2
      refine ⟨fun p hp => ?_, ?_⟩
      · obtain ⟨t, id, e1, e2, e3⟩ := q1 p hp; exact ⟨t, id, e1, e2, by simp [e3]⟩
      · intro k hk
        cases hk with
        | head => exact .inl ⟨t, id, h1⟩
        | tail _ hk => exact q2 k hk

theorem Rel.scalar {O' : Nat → Prop} {w' : World} {e : Ent C.R} {v : Value} (h : Rel C w O e v) (hk : ∀ t, e.kind ≠ .ro t) : Rel C w' O' e v := by
  cases h with
  | b v => exact .b v
  | i k n => exact .i k n
  | s v => exact .s v
  | nil t _ _ => exact absurd rfl (hk t)
  | ro t _ _ _ _ _ _ _ _ _ _ _ => exact absurd rfl (hk t)
/-- Scalars alone: nothing of memory is known. -/
theorem VRs_scalar {O' : Nat → Prop} {w' : World} : ∀ {ks : List Kind} {es : List (Ent C.R)} {vs : List Value}, VRs C w O ks es vs → (ks.any fun | .ro _ | .ow _ => true | _ => false) = false → VRs C w' O' ks es vs := by
  intro ks es vs h
  induction h with
  | nil => intro _; exact .nil
  | @cons k e v ks es vs h1 _ ih =>
    intro hn
    simp only [List.any_cons, Bool.or_eq_false_iff] at hn
    refine .cons ?_ (ih hn.2)
    cases k with
    | ro _ => simp at hn
    | ow _ => simp at hn
    | b => obtain ⟨h2, h3⟩ := h1; exact ⟨h2, h3.scalar (fun t => by rw [h2]; simp)⟩
    | i _ => obtain ⟨h2, h3⟩ := h1; exact ⟨h2, h3.scalar (fun t => by rw [h2]; simp)⟩
    | s => obtain ⟨h2, h3⟩ := h1; exact ⟨h2, h3.scalar (fun t => by rw [h2]; simp)⟩
theorem VR_mono {w' : World} {O' : Nat → Prop} (hs : Stays w O w' O') (hw : w' = w) {k : Kind} {e : Ent C.R} {v : Value} (h : VR C w O k e v) : VR C w' O' k e v := by
  subst hw
  cases k with
  | ow t => obtain ⟨xs, vals, h1, h2, h3⟩ := h; exact ⟨xs, vals, h1, RowsR.mono hs h2, h3⟩
  | b => exact ⟨h.1, h.2.mono C hs⟩
  | i _ => exact ⟨h.1, h.2.mono C hs⟩
  | s => exact ⟨h.1, h.2.mono C hs⟩
  | ro _ => exact ⟨h.1, h.2.mono C hs⟩
theorem VRs_mono {O' : Nat → Prop} (hs : Stays w O w O') {ks : List Kind} {es : List (Ent C.R)} {vs : List Value} (h : VRs C w O ks es vs) : VRs C w O' ks es vs := by
  induction h with
  | nil => exact .nil
  | cons h1 _ ih => exact .cons (VR_mono hs rfl h1) ih
theorem AR_mono {O' : Nat → Prop} {ps : List PSpec} {ess : List (List (Ent C.R))} {args : List Value} {L : List Nat} (h : AR C w O ps ess args L) (hs : Stays w O w O' ∨ hasRo ps = false) : AR C w O' ps ess args L := by
  induction h with
  | nil => exact .nil
  | v h1 h2 h3 h4 _ ih =>
    rcases hs with hs | hs
    · exact .v (VRs_mono hs h1) h2 h3 h4 (ih (.inl hs))
    · simp only [hasRo, List.any_cons, Bool.or_eq_false_iff] at hs
      exact .v (VRs_scalar h1 hs.1) h2 h3 h4 (ih (.inr hs.2))
  | p h1 h2 _ ih =>
    rcases hs with hs | hs
    · exact .p h1 (VRs_mono hs h2) (ih (.inl hs))
    · simp only [hasRo, List.any_cons, Bool.or_eq_false_iff] at hs
      exact .p h1 (VRs_scalar h2 hs.1) (ih (.inr hs.2))

theorem slRel_len {E : Nat → Option (Ent C.R)} {xs : List SV} {vs : List Value} (h : SlRel E U ρ w O xs vs) : xs.length = vs.length := by
  induction h with
  | nil => rfl
  | cons _ _ ih => simp [ih]
theorem slRel_take {E : Nat → Option (Ent C.R)} {xs : List SV} {vs : List Value} (h : SlRel E U ρ w O xs vs) : ∀ k, SlRel E U ρ w O (xs.take k) (vs.take k) := by
  induction h with
  | nil => intro k; simp; exact .nil
  | cons h1 _ ih => intro k; cases k with
    | zero => exact .nil
    | succ k => exact .cons h1 (ih k)
/-- Each is one cell, or several. -/
def plainSV : SV → Prop
  | .c _ | .g _ => True
  | _ => False
theorem importP_plain : ∀ {ps : List PSpec} {n n' : Nat} {ess : List (List (Ent C.R))} {nms : List (Option Nat)} {svs : List SV} {en : List (Nat × Ent C.R)} {bs : List (Nat × Option Blk)},
    importP C n ps ess nms = some (n', svs, en, bs) → ∀ s ∈ svs, plainSV s := by
  intro ps
  induction ps with
  | nil =>
    intro n n' ess nms svs en bs h
    cases ess with
    | nil => simp only [importP, Option.some.injEq, Prod.mk.injEq] at h; obtain ⟨_, rfl, _⟩ := h; intro s hs; cases hs
    | cons _ _ => simp [importP] at h
  | cons p ps ih =>
    intro n n' ess nms svs en bs h
    cases ess with
    | nil => cases p <;> simp [importP] at h
    | cons es ess =>
      cases p with
      | v agg ks =>
        simp only [importP] at h
        cases hc : (noOwB ks && (bif agg then true else Nat.beq es.length 1)) with
        | false => rw [hc] at h; cases h
        | true =>
          rw [hc] at h
          simp only [cond] at h
          split at h
          · cases h
          · split at h
            · cases h
            · rename_i cs _ _ _ _ _ _ _ hr
              simp only [Option.some.injEq, Prod.mk.injEq] at h
              obtain ⟨_, rfl, _⟩ := h
              intro s hs
              cases hs with
              | head => unfold svOf; split <;> trivial
              | tail _ hs => exact ih hr s hs
      | p T ks off =>
        simp only [importP] at h
        split at h
        · cases h
        · split at h
          · cases h
          · rename_i hr
            simp only [Option.some.injEq, Prod.mk.injEq] at h
            obtain ⟨_, rfl, _⟩ := h
            intro s hs
            cases hs with
            | head => trivial
            | tail _ hs => exact ih hr s hs
theorem res_rel {E : Nat → Option (Ent C.R)} {xs : List SV} {vs : List Value} (h : SlRel E U ρ w O xs vs) (hp : ∀ s ∈ xs, plainSV s) : SRel C U E ρ w O (resSV xs) (resV vs) := by
  have tup : ∀ {xs : List SV} {vs : List Value}, SlRel E U ρ w O xs vs → (∀ s ∈ xs, plainSV s) → PsRel C U E ρ w O (xs.map fun x => (svCells x).getD (false, [])) vs := by
    intro xs vs h
    induction h with
    | nil => intro _; exact .nil
    | @cons s v l r h1 _ ih =>
      intro hp
      refine .cons ?_ (ih (fun s hs => hp s (by simp [hs])))
      have := hp s (by simp)
      cases s with
      | c c => exact h1
      | g cs => exact h1
      | t _ => exact this.elim
      | e _ _ _ _ => exact this.elim
  cases h with
  | nil => exact ⟨[], rfl, .nil⟩
  | cons h1 h2 =>
    cases h2 with
    | nil => exact h1
    | cons h2 h3 => exact ⟨_, rfl, tup (.cons h1 (.cons h2 h3)) hp⟩

/-- A function that is entered when it is called. -/
def Enters (P : Program) (g : FuncId) : Prop := ∃ fn, P.funcs[g]? = some fn ∧ (fn.name == "runtime.NumGoroutine") = false ∧ fn.body.isNone = false
def GamOK (C : Cfg) (Γ : Nat → Option (FSum C)) : Prop := ∀ g S, Γ g = some S → Enters C.P g ∧ FnOK C g S

/-- The values of new numbers. -/
def rhoOf (ρ : Nat → Value) (n : Nat) (l : List Value) : Nat → Value := fun k => if n ≤ k ∧ k < n + l.length then l.getD (k - n) undef else ρ k
theorem rhoOf_at (ρ : Nat → Value) (n : Nat) (l : List Value) : At (rhoOf ρ n l) n l := by
  intro i v hi
  have hl := (List.getElem?_eq_some_iff.mp hi).1
  simp only [rhoOf]
  rw [if_pos ⟨by omega, by omega⟩, Nat.add_sub_cancel_left, List.getD, hi]
  rfl
theorem rhoOf_old (ρ : Nat → Value) (n : Nat) (l : List Value) {k : Nat} (h : ¬ (n ≤ k ∧ k < n + l.length)) : rhoOf ρ n l k = ρ k := by simp only [rhoOf]; rw [if_neg h]
end Go.Sx

/- The symbolic executor: a call. -/
namespace Go.Sx
open Go
variable {C : Cfg} {O : Nat → Prop} {w0 : World} {O0 : Frm} {X : Nat → Prop} {N : Nat} {U : Nat → Prop} {m : St C} {ρ : Nat → Value} {a : Act} {w : World}
variable {o : Oper} {ex : Ex} {f : Eff C} {n : Nat}

theorem named_rhoOf {l : List Value} (hn : ∀ k, U k → ¬ (n ≤ k ∧ k < n + l.length)) : ∀ {ps : List PSpec} {args : List Value} {nms : List Nat}, Named ρ ps args (nms.map some) → (∀ k ∈ nms, U k) → Named (rhoOf ρ n l) ps args (nms.map some) := by
  intro ps args nms h
  generalize hg : nms.map some = q at h
  induction h generalizing nms with
  | nil => intro _; exact .nil
  | v _ ih =>
    intro hU
    exact .v (ih (nms := nms.tail) (by rw [← hg, List.map_tail]) (fun k hk => hU k (List.mem_of_mem_tail hk)))
  | p h1 _ ih =>
    intro hU
    refine .p (fun k hk => ?_) (ih (nms := nms.tail) (by rw [← hg, List.map_tail]) (fun k hk => hU k (List.mem_of_mem_tail hk)))
    rw [rhoOf_old _ _ _ (hn k (hU k ?_))]
    · exact h1 k hk
    · rw [← hg] at hk
      cases nms with
      | nil => simp at hk
      | cons x l => simp at hk; simp [hk]
theorem named_app {ρ' : Nat → Value} : ∀ {rs : List PSpec} {rv : List Value} {ps : List PSpec} {args : List Value} {nms : List (Option Nat)}, rs.length = rv.length → (∃ l w, Flat (rs ++ ps) (rv ++ args) w l) → Named ρ' ps args nms → Named ρ' (rs ++ ps) (rv ++ args) (rs.map (fun _ => none) ++ nms) := by
  intro rs
  induction rs with
  | nil =>
    intro rv ps args nms hl _ h
    cases rv with
    | nil => exact h
    | cons _ _ => simp at hl
  | cons r rs ih =>
    intro rv ps args nms hl hf h
    cases rv with
    | nil => simp at hl
    | cons v rv =>
      obtain ⟨l, w, hf⟩ := hf
      simp only [List.cons_append] at hf ⊢
      cases hf with
      | v h1 h2 h3 => exact .v (by simpa using ih (by simpa using hl) ⟨_, _, h3⟩ h)
      | p h1 h2 => exact .p (by simp) (by simpa using ih (by simpa using hl) ⟨_, _, h2⟩ h)

theorem import_len {w' : World} {O' : Nat → Prop} {ps : List PSpec} {ess : List (List (Ent C.R))} {args : List Value} {L : List Nat} (h : AR C w' O' ps ess args L) :
    ∀ {n n' : Nat} {nms : List (Option Nat)} {svs : List SV} {en : List (Nat × Ent C.R)} {bs : List (Nat × Option Blk)} {l : List Value},
      importP C n ps ess nms = some (n', svs, en, bs) → Flat ps args w' l → n' = n + l.length := by
  induction h with
  | nil =>
    intro n n' nms svs en bs l hi hf
    simp only [importP, Option.some.injEq, Prod.mk.injEq] at hi
    cases hf
    simp [hi.1]
  | @v agg ks es vs v ps ess args L h1 h2 h3 h4 _ ih =>
    intro n n' nms svs en bs l hi hf
    simp only [importP] at hi
    cases hc : (noOwB ks && (bif agg then true else Nat.beq es.length 1)) with
    | false => rw [hc] at hi; cases hi
    | true =>
      rw [hc] at hi
      simp only [cond] at hi
      split at hi
      · cases hi
      · split at hi
        · cases hi
        · rename_i hr
          simp only [Option.some.injEq, Prod.mk.injEq] at hi
          obtain ⟨rfl, _⟩ := hi
          cases hf with
          | @v _ _ _ vs' _ _ _ l' f1 f2 f3 =>
          have hvv : vs' = vs := by
            cases agg with
            | true => have := (f1 rfl).symm.trans (h3 rfl); simpa using this
            | false => rw [f2 rfl, h4 rfl]
          subst hvv
          have := ih hr f3
          have hlen := h1.len
          simp only [List.length_append]; omega
  | @p T ks off b es vs ps ess args L h1 h2 _ ih =>
    intro n n' nms svs en bs l hi hf
    simp only [importP] at hi
    split at hi
    · cases hi
    · split at hi
      · cases hi
      · rename_i hr
        simp only [Option.some.injEq, Prod.mk.injEq] at hi
        obtain ⟨rfl, _⟩ := hi
        cases hf with
        | @p _ _ _ _ vs' _ _ _ l' f1 f2 =>
        rw [h1] at f1
        simp only [Option.some.injEq, Obj.cells.injEq, and_true] at f1
        subst f1
        have := ih hr f2
        have hlen := h2.len
        simp only [List.cons_append, List.length_cons, List.length_append]; omega

theorem callOp_wp (S : Sim w0 O0 X N U m ρ a w) (hx : ExT C m.e.get ex) (hexd : ∀ p ∈ ex, ∃ v, m.e.get p.1 = some (.b v)) (hf : Fresh U n) (hd : dstOk N o = true) {g : FuncId} {Sm : FSum C} (hg : FnOK C g Sm) (hent : Enters C.P g)
    {as : Array Operand} {fop : Operand} {ts : Array TypeId} (ho : o.op = .call { callee := .value fop, args := as, argTypes := ts }) (hfv : a.eval fop = .func (.func g) #[] #[])
    {xs : List SV} {vals : List Value} (hvals : as.map a.eval = vals.toArray) (hs : SlRel m.e.get U ρ w (Owns X m ρ) xs vals)
    (h : (callP C o ex n Sm xs).run m = some f) (hob : ∀ b ∈ f.ob, b = true) {m' : St C} (hm : f.on m = some m') {K : Act → World → Prop} {Q : Exit → Act → World → Prop}
    (hK : ∀ ρ' v w', Sim w0 O0 X N (Up U n) m' ρ' (a.put o.dst v) w' → K (a.put o.dst v) w') : o.wp C.P a w K Q := by
  unfold callP at h
  obtain ⟨⟨as', nms, all⟩, h1, h2⟩ := Prg.run_bind_some h
  simp only at h2
  cases hb : (nodupN all && apartN (roOf Sm.ps xs) all && nodupN (roOf Sm.ps xs)) with
  | false => rw [hb] at h2; simp at h2
  | true =>
  rw [hb] at h2
  simp only [Bool.and_eq_true, nodupN_iff, apartN_iff] at hb
  obtain ⟨⟨hall, hap⟩, _⟩ := hb
  simp only [cond] at h2
  obtain ⟨ob, h3, h4⟩ := Prg.run_bind_some h2
  obtain ⟨fz, h5, h6⟩ := Prg.run_bind_some h4
  split at h6
  · simp at h6
  rename_i n' svs en bs him
  generalize hbl : (fz ++ (all.filter fun k => !(nms.any fun y => Nat.beq k y)).map (fun k => (k, (none : Option Blk))) ++ bs) = bl at h6
  cases hb2 : (Nat.ble n' (n + stride) && nodupN (bl.map (·.1)) && (ex.isEmpty || bl.isEmpty) && (all.all fun k => (bl.map (·.1)).any (Nat.beq k))) with
  | false => rw [hb2] at h6; simp at h6
  | true =>
  rw [hb2] at h6
  simp only [Bool.and_eq_true, nodupN_iff, Nat.ble_eq] at hb2
  obtain ⟨⟨⟨hn', hnd⟩, _⟩, hkeys0⟩ := hb2
  have hkeys : ∀ k ∈ all, k ∈ bl.map (·.1) := by
    intro k hk
    have := List.all_eq_true.mp hkeys0 k hk
    obtain ⟨y, hy, hc⟩ := List.any_eq_true.mp this
    rw [Nat.beq_eq.mp hc]; exact hy
  simp only [cond, Prg.run_ret, Option.some.injEq] at h6
  subst h6
  have hpre := ob1_sound hx h3 hob
  -- what is handed over
  let blk : Nat → Option Nat := fun k => blkOf (ρ k)
  let L := all.filterMap blk
  let roB : Nat → Prop := fun b => ∃ nm B, nm ∈ roOf Sm.ps xs ∧ m.b.get nm = some B ∧ B.owned = true ∧ blkOf (ρ nm) = some b
  let X' : Nat → Prop := fun b => Owns X m ρ b ∧ b ∉ L ∧ ¬ roB b
  have hallO : ∀ k ∈ all, ∃ B, m.b.get k = some B ∧ B.owned = true := by
    have := (export_ok S (O' := fun _ => False) (fun b h => h.elim) h1 hs (fun _ _ _ _ _ _ _ h => h)).2.1
    exact this
  have hLown : ∀ b ∈ L, OwnN m ρ b := by
    intro b hb
    obtain ⟨k, hk, hkb⟩ := List.mem_filterMap.mp hb
    obtain ⟨B, hB, hBo⟩ := hallO k hk
    exact ⟨k, B, hB, hBo, hkb⟩
  have hroL : ∀ b, roB b → b ∉ L := by
    rintro b ⟨nm, B, hr, hB, hBo, hbb⟩ hbL
    obtain ⟨k, hk, hkb⟩ := List.mem_filterMap.mp hbL
    obtain ⟨B', hB', hBo'⟩ := hallO k hk
    have := S.disj nm k B B' b hB hB' hBo hBo' hbb hkb
    subst this
    exact hap nm hr hk
  obtain ⟨hAR, _, hNam, hnmsall, hnmslen, hiolen⟩ := export_ok S (O' := fun b => X' b ∨ b ∈ L) (fun b h => h.elim (fun h => h.1) (fun h => .inr (hLown b h))) h1 hs (by
    intro nm hnm B b hB hBo hbb hO'
    rcases hO' with h | h
    · exact h.2.2 ⟨nm, B, hnm, hB, hBo, hbb⟩
    · exact hroL b ⟨nm, B, hnm, hB, hBo, hbb⟩ h)
  simp only at hAR hNam hnmsall hnmslen
  have hLnd : L.Nodup := by
    have : ∀ (l : List Nat), l.Nodup → (∀ k ∈ l, ∃ B, m.b.get k = some B ∧ B.owned = true) → (l.filterMap blk).Nodup := by
      intro l
      induction l with
      | nil => intro _ _; simp
      | cons k l ih =>
        intro hn ho
        simp only [List.nodup_cons] at hn
        have ih' := ih hn.2 (fun k hk => ho k (by simp [hk]))
        simp only [List.filterMap_cons]
        cases hbk : blk k with
        | none => exact ih'
        | some b =>
          simp only [List.nodup_cons]
          refine ⟨fun hb => ?_, ih'⟩
          obtain ⟨k', hk', hkb'⟩ := List.mem_filterMap.mp hb
          obtain ⟨B, hB, hBo⟩ := ho k (by simp)
          obtain ⟨B', hB', hBo'⟩ := ho k' (by simp [hk'])
          have := S.disj k k' B B' b hB hB' hBo hBo' hbk hkb'
          subst this
          exact hn.1 hk'
    exact this all hall hallO
  have hcall := hg w X' as' vals L hAR hLnd (fun b hb => ⟨own_lt S hb.1, hb.2.1⟩) hpre
  -- the operation enters the function
  obtain ⟨fn, hfn, hname, hbody⟩ := hent
  have hexec : (execOp a.eval o).run C.P w = .ok (.enter g vals.toArray) w := by
    have hname' : fn.name ≠ "runtime.NumGoroutine" := by simpa using hname
    have hbody' : fn.body ≠ none := by intro hc; rw [hc] at hbody; cases hbody
    simp [execOp, ho, resolve, hfv, Deferred.ofValue, invoke, callFunc, hfn, hname', hbody', hvals]
  unfold Oper.wp
  rw [hexec]
  refine Calls.mono hcall ?_
  rintro e w' ⟨rvs, L', rfl, hrl, hAR', hL'nd, hL'sub, hos, htape, hout, hsize, hkept⟩
  simp only [Eff.on] at hm
  split at hm
  · cases hm
  rename_i e' hse
  simp only [Option.some.injEq] at hm
  subst hm
  have hE := setE_get _ _ _ hse
  obtain ⟨l, hflat⟩ := hAR'.flat
  -- the new numbers
  have hl' : n' = n + l.length := import_len hAR' him hflat
  have hfresh : ∀ k, U k → ¬ (n ≤ k ∧ k < n + l.length) := fun k hk hc => hf k hc.1 (by omega) hk
  have hUall : ∀ k ∈ all, U k := fun k hk => by obtain ⟨B, hB, _⟩ := hallO k hk; exact (S.blocks k B hB).1
  let ρ' := rhoOf ρ n l
  have hρU : ∀ k, U k → ρ' k = ρ k := fun k hk => rhoOf_old _ _ _ (hfresh k hk)
  have hNamed : Named ρ' (Sm.rs ++ ioP Sm.ps) (rvs ++ ioA Sm.ps vals) (Sm.rs.map (fun _ => none) ++ nms.map some) :=
    named_app hrl.symm ⟨l, w', hflat⟩ (named_rhoOf hfresh hNam (fun k hk => hUall k (hnmsall k hk)))
  let m' : St C := ⟨setS (dstS o (some ⟨ex, resSV (svs.take Sm.rs.length)⟩)) m.s, e', setB bl m.b⟩
  -- the blocks behind the call
  obtain ⟨fz1, fz2⟩ := frz_sound h5
  let O' : Nat → Prop := Owns X m' ρ'
  -- names that were not touched
  have hold : ∀ k B, m'.b.get k = some B → k ∉ bl.map (·.1) → m.b.get k = some B ∧ U k ∧ ρ' k = ρ k ∧ k ∉ all := by
    intro k B hk hkb
    have h1 : m.b.get k = some B := by rw [← setB_none bl m.b k hkb]; exact hk
    have hU := (S.blocks k B h1).1
    exact ⟨h1, hU, hρU k hU, fun ha => hkb (hkeys k ha)⟩
  have hcase : ∀ k B, m'.b.get k = some B → (k ∉ bl.map (·.1)) ∨ (∃ t id, B = .f t id ∧ m.b.get k = some (.l t id) ∧ k ∈ roOf Sm.ps xs ∧ hasRo (Sm.rs ++ ioP Sm.ps) = true) ∨ (k, some B) ∈ bs := by
    intro k B hk
    by_cases hkb : k ∈ bl.map (·.1)
    · right
      obtain ⟨⟨k2, x⟩, hp, rfl⟩ := List.mem_map.mp hkb
      have hx : x = some B := by rw [← hk]; exact (setB_some bl m.b k2 x hnd hp).symm
      subst hx
      rw [← hbl] at hp
      simp only [List.mem_append, List.mem_map] at hp
      rcases hp with (hp | hp) | hp
      · left
        obtain ⟨t, id, e1, e2, e3⟩ := fz1 _ hp
        simp only [Option.some.injEq] at e1
        cases hro : hasRo (Sm.rs ++ ioP Sm.ps) with
        | false => rw [hro] at e3; cases e3
        | true => rw [hro] at e3; exact ⟨t, id, e1, e2, e3, rfl⟩
      · obtain ⟨k3, _, hk3⟩ := hp
        simp at hk3
      · exact .inr hp
    · exact .inl hkb
  -- the results, in the state behind: which blocks are owned there
  have hbsL : ∀ k B, (k, some B) ∈ bs → ∀ b, blkOf (ρ' k) = some b → b ∈ L' := by
    intro k B hk b hb
    have him' := (import_ok (C := C) (U' := fun _ => True) (E' := e'.get) (ρ' := ρ') hAR' him hflat (rhoOf_at ρ n l) hNamed (fun p hp => hE.2 p hp) (fun _ _ _ => trivial) (fun _ _ _ _ => trivial)).2.2.2.2
    rw [← him']
    exact List.mem_filterMap.mpr ⟨_, hk, hb⟩
  have hXX' : ∀ b, X b → X' b := by
    intro b hb
    refine ⟨.inl hb, fun hL => x_not_own S hb (hLown b hL), ?_⟩
    rintro ⟨nm, B, _, hB, hBo, hbb⟩
    exact x_not_own S hb ⟨nm, B, hB, hBo, hbb⟩
  have hO'sub : ∀ b, O' b → (X' b ∨ b ∈ L') ∨ (hasRo (Sm.rs ++ ioP Sm.ps) = false ∧ OwnN m ρ b ∧ b ∉ L) := by
    intro b hb
    rcases hb with hb | ⟨k, B, hk, hBo, hbb⟩
    · exact .inl (.inl (hXX' b hb))
    · rcases hcase k B hk with h | ⟨t, id, rfl, _⟩ | h
      · obtain ⟨h1, hU, hr, hka⟩ := hold k B hk h
        rw [hr] at hbb
        have hbL : b ∉ L := by
          intro hbL
          obtain ⟨k', hk', hkb'⟩ := List.mem_filterMap.mp hbL
          obtain ⟨B', hB', hBo'⟩ := hallO k' hk'
          have := S.disj k k' B B' b h1 hB' hBo hBo' hbb hkb'
          subst this
          exact hka hk'
        by_cases hroB : roB b
        · right
          obtain ⟨nm, B2, q1, q2, q3, q4⟩ := hroB
          have := S.disj k nm B B2 b h1 q2 hBo q3 hbb q4
          subst this
          refine ⟨?_, ⟨k, B, h1, hBo, hbb⟩, hbL⟩
          cases hro : hasRo (Sm.rs ++ ioP Sm.ps) with
          | false => rfl
          | true =>
            exfalso
            rcases fz2 k (by rw [hro]; exact q1) with ⟨t, id, hf⟩ | hf
            · rw [h1] at hf
              simp only [Option.some.injEq] at hf
              subst hf
              cases hBo
            · apply h
              rw [← hbl]
              simp only [List.map_append, List.mem_append]
              exact .inl (.inl hf)
        · exact .inl (.inl ⟨.inr ⟨k, B, h1, hBo, hbb⟩, hbL, hroB⟩)
      · cases hBo
      · exact .inl (.inr (hbsL k B h b hbb))
  have hARO : AR C w' O' (Sm.rs ++ ioP Sm.ps) (Sm.F as') (rvs ++ ioA Sm.ps vals) L' := by
    refine AR_mono hAR' ?_
    cases hro : hasRo (Sm.rs ++ ioP Sm.ps) with
    | false => exact .inr rfl
    | true =>
      left
      refine stays_sub (fun b hb => ?_)
      rcases hO'sub b hb with h | ⟨h, _⟩
      · exact h
      · rw [hro] at h; cases h
  have hstays : Stays w (Owns X m ρ) w' O' := by
    refine ⟨hsize, fun b hb hO => ⟨hkept b hb (fun hL => hO (.inr (hLown b hL))), fun hO2 => ?_⟩⟩
    rcases hO'sub b hO2 with (h | h) | ⟨_, h, _⟩
    · exact hO h.1
    · rcases hL'sub b h with h | h
      · exact hO (.inr (hLown b h))
      · omega
    · exact hO (.inr h)
  have hlater : Later (C := C) U m.e.get ρ w (Owns X m ρ) (Up U n) m'.e.get ρ' w' (Owns X m' ρ') := .of Up.old hE.1 hρU hstays
  obtain ⟨_, i1, i2, i3, i4⟩ := import_ok (C := C) (U' := Up U n) (E' := e'.get) (ρ' := ρ') hARO him hflat (rhoOf_at ρ n l) hNamed (fun p hp => hE.2 p hp) (fun i hi hi' => .inr ⟨hi, by omega⟩) (by
    intro k hk j hj
    subst hj
    simp only [List.mem_append, List.mem_map] at hk
    rcases hk with ⟨_, _, h⟩ | ⟨j', hj', h⟩
    · cases h
    · simp only [Option.some.injEq] at h
      subst h
      exact .inl (hUall _ (hnmsall _ hj')))
  refine hK ρ' _ w' ?_
  refine S.next (m' := m') hlater (by rw [tmps_put]; exact S.size) (by rw [defers_put]; exact S.defers) ?_ ?_ ?_ ?_ hos htape hout ?_
  · -- slots
    intro t s' ht
    simp only [m', setS_dst] at ht
    by_cases hdt : o.dst = some t
    · rw [if_pos hdt] at ht
      simp only [Option.some.injEq] at ht
      subst ht
      refine .inr ⟨fun p hp => ?_, fun _ => ⟨resV rvs, ?_, ?_⟩, fun h => absurd (fun p hp => hE.1 _ _ (hx p hp)) h⟩
      · obtain ⟨b, hb⟩ := hexd p hp; exact ⟨b, hE.1 _ _ hb⟩
      · have : t < a.tmps.size := by rw [S.size]; simp only [dstOk, hdt] at hd; exact Nat.blt_eq.mp hd
        rw [hdt]; exact get_put_eq a t _ this
      · have h1 := slRel_take i1 Sm.rs.length
        rw [← hrl, List.take_left, hrl] at h1
        exact res_rel h1 (fun s hs => importP_plain him s (List.mem_of_mem_take hs))
    · rw [if_neg hdt] at ht
      exact .inl ⟨ht, get_put_ne a _ _ t hdt⟩
  · -- blocks
    intro k B hk
    rcases hcase k B hk with h | ⟨t, id, rfl, hkl, hkr, hro⟩ | h
    · obtain ⟨h1, hU, hr, hka⟩ := hold k B hk h
      refine .inl ⟨h1, fun hBo b hbb => hkept b (ownN_lt S ⟨k, B, h1, hBo, hbb⟩) ?_⟩
      intro hbL
      obtain ⟨k', hk', hkb'⟩ := List.mem_filterMap.mp hbL
      obtain ⟨B', hB', hBo'⟩ := hallO k' hk'
      have := S.disj k k' B B' b h1 hB' hBo hBo' hbb hkb'
      subst this
      exact hka hk'
    · right
      obtain ⟨hU, ys, vals', q1, q2, q3⟩ := S.blocks k _ hkl
      refine ⟨Up.old k hU, ys, hE.1 _ _ q1, ?_⟩
      have hkL : ∀ b, blkOf (ρ k) = some b → b ∉ L := fun b hb => hroL b ⟨k, _, hkr, hkl, rfl, hb⟩
      rw [show ρ' k = ρ k from hρU k hU]
      refine rel_of_rows (RowsR.mono hstays q2) (ownsRow_of_heap (fun b hb => hkept b (ownN_lt S ⟨k, _, hkl, rfl, hb⟩) (hkL b hb)) q3) ?_
      intro b hb hO2
      rcases hO'sub b hO2 with (h | h) | ⟨h, _⟩
      · exact h.2.2 ⟨k, _, hkr, hkl, rfl, hb⟩
      · rcases hL'sub b h with h | h
        · exact hkL b hb h
        · have := ownN_lt S ⟨k, _, hkl, rfl, hb⟩; omega
      · rw [hro] at h; cases h
    · right
      obtain ⟨B2, e1, e2, _, e4⟩ := i2 _ h
      simp only [Option.some.injEq] at e1
      subst e1
      exact ⟨e2, e4⟩
  · -- apart
    have hbs1 : ∀ (q : List (Nat × Option Blk)), (q.filterMap (fun p => blkOf (ρ' p.1))).Nodup → ∀ k k' x x' b, (k, x) ∈ q → (k', x') ∈ q → blkOf (ρ' k) = some b → blkOf (ρ' k') = some b → k = k' := by
      intro q
      induction q with
      | nil => intro _ k k' x x' b h; cases h
      | cons p q ih =>
        intro hn k k' x x' b h1 h2 h3 h4
        simp only [List.filterMap_cons] at hn
        have key : ∀ {j y}, (j, y) ∈ q → blkOf (ρ' j) = some b → b ∈ q.filterMap (fun p => blkOf (ρ' p.1)) := fun {j y} hj hb => List.mem_filterMap.mpr ⟨(j, y), hj, hb⟩
        have hnq : (q.filterMap (fun p => blkOf (ρ' p.1))).Nodup := by
          cases hp : blkOf (ρ' p.1) with
          | none => rw [hp] at hn; exact hn
          | some c => rw [hp] at hn; exact (List.nodup_cons.mp hn).2
        cases h1 with
        | head => cases h2 with
          | head => rfl
          | tail _ h2 =>
            simp only at hn
            rw [h3] at hn
            exact absurd (key h2 h4) (List.nodup_cons.mp hn).1
        | tail _ h1 => cases h2 with
          | head =>
            simp only at hn
            rw [h4] at hn
            exact absurd (key h1 h3) (List.nodup_cons.mp hn).1
          | tail _ h2 => exact ih hnq k k' x x' b h1 h2 h3 h4
    have hnew : ∀ k B b, (k, some B) ∈ bs → blkOf (ρ' k) = some b → ∀ k' B', m'.b.get k' = some B' → k' ∉ bl.map (·.1) → B'.owned = true → blkOf (ρ' k') = some b → False := by
      intro k B b h1 h2 k' B' h3 h4 h5 h6
      obtain ⟨g1, hU, hr, hka⟩ := hold k' B' h3 h4
      rw [hr] at h6
      rcases hL'sub b (hbsL k B h1 b h2) with h | h
      · obtain ⟨k2, hk2, hkb2⟩ := List.mem_filterMap.mp h
        obtain ⟨B2, hB2, hBo2⟩ := hallO k2 hk2
        have := S.disj k' k2 B' B2 b g1 hB2 h5 hBo2 h6 hkb2
        subst this
        exact hka hk2
      · have := ownN_lt S ⟨k', B', g1, h5, h6⟩; omega
    intro k k' B B' b h1 h2 o1 o2 h3 h4
    rcases hcase k B h1 with p | ⟨t, id, rfl, _⟩ | p
    · rcases hcase k' B' h2 with q | ⟨t, id, rfl, _⟩ | q
      · obtain ⟨g1, _, hr, _⟩ := hold k B h1 p
        obtain ⟨g2, _, hr2, _⟩ := hold k' B' h2 q
        rw [hr] at h3; rw [hr2] at h4
        exact S.disj k k' B B' b g1 g2 o1 o2 h3 h4
      · cases o2
      · exact (hnew k' B' b q h4 k B h1 p o1 h3).elim
    · cases o1
    · rcases hcase k' B' h2 with q | ⟨t, id, rfl, _⟩ | q
      · exact (hnew k B b p h3 k' B' h2 q o2 h4).elim
      · cases o2
      · exact hbs1 bs (by rw [i4]; exact hL'nd) k k' _ _ b p q h3 h4
  · -- owned
    rintro b ⟨k, B, hk, hBo, hbb⟩
    rcases hcase k B hk with h | ⟨t, id, rfl, _⟩ | h
    · obtain ⟨g1, _, hr, _⟩ := hold k B hk h
      rw [hr] at hbb
      exact .inl ⟨k, B, g1, hBo, hbb⟩
    · cases hBo
    · rcases hL'sub b (hbsL k B h b hbb) with h | h
      · exact .inl (hLown b h)
      · exact .inr (Nat.le_trans S.hsize h)
  · intro b hb hO
    exact hkept b hb (fun hL => hO (hLown b hL))
end Go.Sx

/- The symbolic executor: every operation; guards; regions in the text's order. -/
namespace Go.Sx
open Go
variable {C : Cfg} {O : Nat → Prop} {w0 : World} {O0 : Frm} {X : Nat → Prop} {N : Nat} {U : Nat → Prop} {m : St C} {ρ : Nat → Value} {a : Act} {w : World}
variable {o : Oper} {ex : Ex} {f : Eff C} {n : Nat} {Γ : Nat → Option (FSum C)}

theorem slRel_one {E : Nat → Option (Ent C.R)} {x : SV} {vs : List Value} (h : SlRel E U ρ w O [x] vs) : ∃ v, vs = [v] ∧ SRel C U E ρ w O x v := by
  cases h with | cons h1 h2 => cases h2; exact ⟨_, rfl, h1⟩
theorem slRel_two {E : Nat → Option (Ent C.R)} {x y : SV} {vs : List Value} (h : SlRel E U ρ w O [x, y] vs) : ∃ v u, vs = [v, u] ∧ SRel C U E ρ w O x v ∧ SRel C U E ρ w O y u := by
  cases h with | cons h1 h2 => cases h2 with | cons h2 h3 => cases h3; exact ⟨_, _, rfl, h1, h2⟩
theorem map_eq_of_list {as : Array Operand} {ev : Operand → Value} {vs : List Value} (h : as.toList.map ev = vs) : as.map ev = vs.toArray := by
  apply Array.ext'; simp [h]

theorem sliceBound_ok {k : IntKind} {i : Int} {y : Nat} {code : BoundsCode} (h0 : 0 ≤ i) (h1 : i ≤ (y : Int)) : (Instr.sliceBound (.int k i) y code).run C.P w = .ok i.toNat w := by
  simp [Instr.sliceBound, asIntOf, h0, h1]
theorem Rel.inv_ro {t : Nat} {xs : List (C.R t)} {v : Value} (r : Rel C w O (.ro t xs) v) : xs = [] ∨ ∃ (g off c : Nat) (vals : Nat → Nat → Value), v = .slice (some ⟨g, off, none⟩) xs.length c ∧ xs.length ≤ c ∧ ¬ O g ∧ g < w.heap.size ∧
    (∀ (i : Nat) (x : C.R t), xs[i]? = some x → ∀ (j : Nat) (e : Ent C.R), (C.enc t x)[j]? = some e → w.cell? ⟨g, off + (i * (C.kinds t).length + j), none⟩ = some (vals i j)) ∧
    (∀ (i : Nat) (x : C.R t), xs[i]? = some x → ∀ (j : Nat) (e : Ent C.R), (C.enc t x)[j]? = some e → Rel C w O e (vals i j)) := by
  cases r with
  | nil => exact .inl rfl
  | ro _ _ g off c vals hn hc hO hg hcell hrel => exact .inr ⟨g, off, c, vals, rfl, hc, hO, hg, hcell, hrel⟩

theorem slice_comp (K : C.Ok) (S : Sim w0 O0 X N U m ρ a w) (hx : ExT C m.e.get ex) {T : TypeId} {x : Operand} {lo hi : Option Operand} (ho : o.op = .slice T x lo hi none)
    (h : (opP C Γ n o ex).run m = some f) (hob : ∀ b ∈ f.ob, b = true) : Comp o ex f m U X ρ a w := by
  simp only [opP, ho] at h
  obtain ⟨v, h1, h2⟩ := Prg.run_bind_some h
  obtain ⟨l, h3, h4⟩ := Prg.run_bind_some h2
  obtain ⟨hh, h5, h6⟩ := Prg.run_bind_some h4
  have hv := opd_sound S hx h1
  unfold sliceP at h6
  split at h6
  · rename_i el id hT
    obtain ⟨e, h7, h8⟩ := Prg.run_getE_some h6
    cases e with
    | b _ => simp at h8
    | i _ _ => simp at h8
    | s _ => simp at h8
    | ro t ys =>
      simp only at h8
      cases ht : C.tOf el with
      | none => simp [ht] at h8
      | some t' =>
        simp only [ht] at h8
        cases hb : Nat.beq t t' with
        | false => rw [hb] at h8; simp at h8
        | true =>
          rw [hb] at h8
          obtain rfl := Nat.beq_eq.mp hb
          simp only [Bool.not_true, cond] at h8
          obtain ⟨hn, h9, h10⟩ := Prg.run_bind_some h8
          obtain ⟨ln, h11, h12⟩ := Prg.run_bind_some h10
          obtain ⟨ob, h13, h14⟩ := Prg.run_bind_some h12
          simp only [Prg.run_ret, Option.some.injEq] at h14
          subst h14
          have hob' := ob1_sound hx h13 hob
          have b1 : 0 ≤ ln := of_decide_eq_true (hob' _ (by simp))
          have b2 : ln ≤ hn := of_decide_eq_true (hob' _ (by simp))
          have b3 : hn ≤ lenInt ys.length := of_decide_eq_true (hob' _ (by simp))
          unfold lenInt at b3
          obtain ⟨e', g1, g2⟩ := hv
          rw [h7] at g1
          simp only [Option.some.injEq] at g1
          subst g1
          obtain ⟨i, z, hi0, hz, hsz, hzs, hpos, _⟩ := K.info el t ht
          -- the bounds as the model reckons them
          have hhi : ∀ {len cap : Nat}, len = ys.length → ys.length ≤ cap → (match hi.map a.eval with | some v => Instr.sliceBound v cap .sliceAcap | none => pure len).run C.P w = .ok hn.toNat w := by
            intro len cap hlen hcap
            cases hi with
            | none =>
              simp only [Prg.run_ret, Option.some.injEq] at h5
              subst h5
              simp only [Prg.run_ret, Option.some.injEq] at h9
              subst h9
              simp [lenInt, hlen]
            | some y =>
              obtain ⟨u, p1, p2⟩ := Prg.run_bind_some h5
              simp only [Prg.run_ret, Option.some.injEq] at p2
              subst p2
              have hu := opd_sound S hx p1
              cases u with
              | g _ => simp at h9
              | t _ => simp at h9
              | e _ _ _ _ => simp at h9
              | c c =>
                obtain ⟨r, p3, p4⟩ := Prg.run_bind_some h9
                simp only [Prg.run_ret, Option.some.injEq] at p4
                obtain ⟨p5, _⟩ := intOf_sound p3 hu
                simp only [Option.map_some, p5, p4]
                exact sliceBound_ok (by omega) (by omega)
          have hlo : (match lo.map a.eval with | some v => Instr.sliceBound v hn.toNat .sliceB | none => pure 0).run C.P w = .ok ln.toNat w := by
            cases lo with
            | none =>
              simp only [Prg.run_ret, Option.some.injEq] at h3
              subst h3
              simp only [Prg.run_ret, Option.some.injEq] at h11
              subst h11
              simp
            | some y =>
              obtain ⟨u, p1, p2⟩ := Prg.run_bind_some h3
              simp only [Prg.run_ret, Option.some.injEq] at p2
              subst p2
              have hu := opd_sound S hx p1
              cases u with
              | g _ => simp at h11
              | t _ => simp at h11
              | e _ _ _ _ => simp at h11
              | c c =>
                obtain ⟨r, p3, p4⟩ := Prg.run_bind_some h11
                simp only [Prg.run_ret, Option.some.injEq] at p4
                obtain ⟨p5, _⟩ := intOf_sound p3 hu
                simp only [Option.map_some, p5, p4]
                exact sliceBound_ok (by omega) (by omega)
          have hbounds : ∀ {len cap : Nat}, len = ys.length → ys.length ≤ cap → (Instr.sliceBounds true len cap (lo.map a.eval) (hi.map a.eval) none).run C.P w = .ok (ln.toNat, hn.toNat, cap) w := by
            intro len cap hlen hcap
            have e1 := hhi hlen hcap
            unfold Instr.sliceBounds
            cases hi with
            | none =>
              cases lo with
              | none => simp at e1 hlo ⊢; exact ⟨hlo, e1⟩
              | some y => simp at e1 hlo ⊢; rw [e1, hlo]; simp
            | some x =>
              cases lo with
              | none => simp at e1 hlo ⊢; rw [e1]; simp [hlo]
              | some y => simp at e1 hlo ⊢; rw [e1]; simp [hlo]
          obtain ⟨ad, cap, q1, q2, q3⟩ := g2.read
          have hexec : (execOp a.eval o).run C.P w = .ok (.value (.slice (if cap = ln.toNat then ad else ad.map (·.add (ln.toNat * i.size))) (hn.toNat - ln.toNat) (cap - ln.toNat))) w := by
            have e1 := hbounds (len := ys.length) (cap := cap) rfl q2
            simp [execOp, ho, q1, Instr.sliceAt, Instr.slice, run_underlying hT, e1, sizeOf, typeInfo, hi0]
          refine comp_e hexec ?_
          have hlen : ((ys.take hn.toNat).drop ln.toNat).length = hn.toNat - ln.toNat := by simp; omega
          rw [← hlen]
          by_cases he : (ys.take hn.toNat).drop ln.toNat = []
          · rw [he]; exact .nil t _ _
          · have hne : ys ≠ [] := by rintro rfl; simp at he
            have hpos' : 0 < hn.toNat - ln.toNat := by
              rw [← hlen]; exact List.length_pos_iff.mpr he
            rcases g2.inv_ro with hc | ⟨g, off, c, vals, r1, r2, r3, r4, r5, r6⟩
            · exact absurd hc hne
            · rw [q1] at r1
              simp only [Value.slice.injEq, true_and] at r1
              obtain ⟨rfl, rfl⟩ := r1
              rw [if_neg (by omega)]
              simp only [Option.map_some, Addr.add_lit]
              refine .ro t _ g (off + ln.toNat * i.size) (cap - ln.toNat) (fun p q => vals (ln.toNat + p) q) he (by rw [hlen]; omega) r3 r4 ?_ ?_
              · intro p x hp j e hj
                rw [List.getElem?_drop, List.getElem?_take] at hp
                split at hp
                · have := r5 _ x hp j e hj
                  rw [← this]
                  congr 2
                  rw [hsz, Nat.add_mul]; omega
                · cases hp
              · intro p x hp j e hj
                rw [List.getElem?_drop, List.getElem?_take] at hp
                split at hp
                · exact r6 _ x hp j e hj
                · cases hp
  · simp at h6
end Go.Sx

/- The symbolic executor: every operation; guards. -/
namespace Go.Sx
open Go
variable {C : Cfg} {O : Nat → Prop} {w0 : World} {O0 : Frm} {X : Nat → Prop} {N : Nat} {U : Nat → Prop} {m : St C} {ρ : Nat → Value} {a : Act} {w : World}
variable {o : Oper} {ex : Ex} {f : Eff C} {n : Nat} {Γ : Nat → Option (FSum C)}

theorem opP_wp (Kk : C.Ok) (G : GamOK C Γ) (S : Sim w0 O0 X N U m ρ a w) (hx : ExT C m.e.get ex) (hex : ∀ p ∈ ex, ∃ v, m.e.get p.1 = some (.b v)) (hf : Fresh U n) (hd : dstOk N o = true)
    (h : (opP C Γ n o ex).run m = some f) (hob : ∀ b ∈ f.ob, b = true) {m' : St C} (hm : f.on m = some m') {K : Act → World → Prop} {Q : Exit → Act → World → Prop}
    (hK : ∀ ρ' v w', Sim w0 O0 X N (Up U n) m' ρ' (a.put o.dst v) w' → K (a.put o.dst v) w') : o.wp C.P a w K Q := by
  have fin : Comp o ex f m U X ρ a w → o.wp C.P a w K Q := fun hc => comp_wp S hx hd hex hc hm Up.old hK
  cases ho : o.op with
  | move x => simp only [opP, ho] at h; exact fin (move_comp S hx (.inl ho) h)
  | assign x => simp only [opP, ho] at h; exact fin (move_comp S hx (.inr ho) h)
  | pick c x y => simp only [opP, ho] at h; exact fin (pick_comp S hx ho h)
  | alloc T => exact allocOp_wp S hf hd ho h hm hK
  | box T x => exact boxOp_wp S hx hf hd ho h hm hK
  | build T ps => exact fin (build_comp S hx ho h)
  | buildSlice T k ps => exact buildSliceOp_wp Kk S hx hex hd ho h hm hK
  | load T x => simp only [opP, ho] at h; exact fin (load_comp S hx ho h)
  | store T x y => exact storeOp_wp Kk S (fun p hp => by cases hp) hf ho h hm hK
  | nilCheck x => exact fin (nilCheck_comp S hx ho h)
  | binOp op T x y T' => simp only [opP, ho] at h; exact fin (bin_comp Kk S hx ho h hob)
  | unOp op T x => simp only [opP, ho] at h; exact fin (un_comp S hx ho h)
  | convert T D x => simp only [opP, ho] at h; exact fin (conv_comp S hx ho h)
  | fieldAddr T x i => exact fin (fieldAddr_comp S hx ho h)
  | field T x i => exact fin (field_comp S hx ho h)
  | indexAddr T x i => simp only [opP, ho] at h; exact fin (ix_comp Kk S hx ho h hob)
  | index T x i => simp only [opP, ho] at h; exact fin (index_comp S hx ho h hob)
  | extract x i => exact fin (extract_comp S hx ho h)
  | slice T x lo hi mx =>
    cases mx with
    | none => exact fin (slice_comp Kk S hx ho h hob)
    | some _ => simp [opP, ho] at h
  | call c =>
    obtain ⟨callee, as, ts⟩ := c
    cases callee with
    | value fop =>
      simp only [opP, ho] at h
      obtain ⟨sv, h1, h2⟩ := Prg.run_bind_some h
      have hfv := opd_sound S hx h1
      cases sv with
      | g _ => simp at h2
      | t _ => simp at h2
      | e _ _ _ _ => simp at h2
      | c c =>
        cases c with
        | f g =>
          simp only at h2
          cases hg : Γ g with
          | none => simp [hg] at h2
          | some Sm =>
            simp only [hg] at h2
            obtain ⟨xs, h3, h4⟩ := Prg.run_bind_some h2
            have hs := opdl_sound S hx h3
            obtain ⟨g1, g2⟩ := G g Sm hg
            exact callOp_wp S hx hex hf hd g2 g1 ho hfv (map_eq_of_list rfl) hs h4 hob hm hK
        | _ => simp at h2
    | invoke _ _ => simp [opP, ho] at h
    | builtin b =>
      simp only [opP, ho] at h
      obtain ⟨vs, h1, h2⟩ := Prg.run_bind_some h
      have hs := opdl_sound S hx h1
      cases b with
      | len =>
        match vs, h2 with
        | [x], h2 =>
          obtain ⟨v, e1, e2⟩ := slRel_one hs
          have has := map_eq_of_list e1
          simp only at h2
          cases ht : ts[0]? with
          | none => simp [ht] at h2
          | some t =>
            simp only [ht] at h2
            split at h2
            · rename_i el hT
              exact fin (len_comp S ho has e2 (isStr := false) ht (by simp [hT]) h2)
            · rename_i hT
              exact fin (len_comp S ho has e2 (isStr := true) ht (by simp [hT]) h2)
            · simp at h2
        | [], h2 => simp at h2
        | _ :: _ :: _, h2 => simp at h2
      | append =>
        match vs, h2 with
        | [x, y], h2 =>
          obtain ⟨v, u, e1, e2, e3⟩ := slRel_two hs
          have has := map_eq_of_list e1
          simp only at h2
          split at h2
          · rename_i t t' ht ht' _
            cases hb : Nat.beq t t' with
            | false => rw [hb] at h2; simp at h2
            | true =>
              rw [hb] at h2
              obtain rfl := Nat.beq_eq.mp hb
              simp only [cond] at h2
              exact appendOp_wp Kk S hf hd ho ht ht' has e2 e3 h2 hob hm hK
          · simp at h2
        | [], h2 => simp at h2
        | [_], h2 => simp at h2
        | _ :: _ :: _ :: _, h2 => simp at h2
      | max =>
        match vs, h2 with
        | [x, y], h2 =>
          obtain ⟨v, u, e1, e2, e3⟩ := slRel_two hs
          have has := map_eq_of_list e1
          exact fin (mm_comp (isMax := true) rfl ho has e2 e3 h2)
        | [], h2 => simp at h2
        | [_], h2 => simp at h2
        | _ :: _ :: _ :: _, h2 => simp at h2
      | min =>
        match vs, h2 with
        | [x, y], h2 =>
          obtain ⟨v, u, e1, e2, e3⟩ := slRel_two hs
          have has := map_eq_of_list e1
          exact fin (mm_comp (isMax := false) rfl ho has e2 e3 h2)
        | [], h2 => simp at h2
        | [_], h2 => simp at h2
        | _ :: _ :: _ :: _, h2 => simp at h2
      | _ => simp at h2
  | _ => simp [opP, ho] at h
end Go.Sx

/- The symbolic executor: guards. -/
namespace Go.Sx
open Go
variable {C : Cfg} {O : Nat → Prop} {w0 : World} {O0 : Frm} {X : Nat → Prop} {N : Nat} {U : Nat → Prop} {m : St C} {ρ : Nat → Value} {a : Act} {w : World}
variable {o : Oper} {ex : Ex} {f : Eff C} {n : Nat} {Γ : Nat → Option (FSum C)}

/-- Whatever it gives has a property. -/
def Prg.All {α : Type} (p : Prg C α) (φ : α → Prop) : Prop := ∀ m a, p.run m = some a → φ a
section all
variable {α β : Type} {φ : α → Prop}
theorem all_ret {x : α} (h : φ x) : (Prg.ret x : Prg C α).All φ := by
  intro m a e; simp only [Prg.run_ret, Option.some.injEq] at e; exact e ▸ h
theorem all_fail : (Prg.fail : Prg C α).All φ := by intro m a e; simp at e
theorem all_bind {p : Prg C β} {g : β → Prg C α} (h : ∀ b, (g b).All φ) : (p.bind g).All φ := by
  intro m a e; obtain ⟨b, _, h2⟩ := Prg.run_bind_some e; exact h b m a h2
theorem all_getS {t : Nat} {g : Slot → Prg C α} (h : ∀ b, (g b).All φ) : (Prg.getS t g).All φ := by
  intro m a e; obtain ⟨b, _, h2⟩ := Prg.run_getS_some e; exact h b m a h2
theorem all_getE {t : Nat} {g : Ent C.R → Prg C α} (h : ∀ b, (g b).All φ) : (Prg.getE t g).All φ := by
  intro m a e; obtain ⟨b, _, h2⟩ := Prg.run_getE_some e; exact h b m a h2
theorem all_getB {t : Nat} {g : Blk → Prg C α} (h : ∀ b, (g b).All φ) : (Prg.getB t g).All φ := by
  intro m a e; obtain ⟨b, _, h2⟩ := Prg.run_getB_some e; exact h b m a h2
theorem all_cond {b : Bool} {p q : Prg C α} (hp : p.All φ) (hq : q.All φ) : (bif b then p else q).All φ := by cases b <;> assumption
theorem all_cond' {b : Bool} {p q : Prg C α} (hp : b = true → p.All φ) (hq : q.All φ) : (bif b then p else q).All φ := by cases b; exact hq; exact hp rfl
end all

/-- An effect on the slot and on the entries alone. -/
def Slim (o : Oper) (ex : Ex) (f : Eff C) : Prop := f.b = [] ∧ ∃ v, f.s = dstS o (some ⟨ex, v⟩)
theorem slim_s {s : SV} : Slim o ex (effS C o ex s) := ⟨rfl, _, rfl⟩
theorem slim_e {e : Ent C.R} {ob : List Bool} : Slim o ex (effE C o ex n e ob) := ⟨rfl, _, rfl⟩
theorem slim_c {b : Bool} {s : SV} {e : Ent C.R} {ob : List Bool} : Slim o ex (bif b then effS C o ex s else effE C o ex n e ob) := by cases b; exact slim_e; exact slim_s
theorem slim_m {s : SV} {es : List (Nat × Ent C.R)} {ob : List Bool} : Slim (C := C) o ex ⟨dstS o (some ⟨ex, s⟩), es, [], ob⟩ := ⟨rfl, _, rfl⟩

theorem callP_slim {S : FSum C} {xs : List SV} (hne : ex ≠ []) : (callP C o ex n S xs).All (Slim o ex) := by
  unfold callP
  refine all_bind fun r => ?_
  refine all_cond ?_ all_fail
  refine all_bind fun ob => all_bind fun fz => ?_
  split
  · exact all_fail
  · rename_i n' svs en bs _
    refine all_cond' (fun hb => ?_) all_fail
    simp only [Bool.and_eq_true, Bool.or_eq_true, List.isEmpty_iff] at hb
    have hemp := hb.1.2.resolve_left hne
    exact all_ret ⟨hemp, _, rfl⟩

theorem pickP_slim {x y z : Operand} : (pickP C o ex n x y z).All (Slim o ex) := by
  unfold pickP
  repeat' first
    | with_reducible exact all_fail
    | with_reducible exact all_ret slim_s
    | with_reducible exact all_ret slim_e
    | with_reducible exact all_ret slim_m
    | with_reducible exact all_ret slim_c
    | with_reducible refine all_bind fun _ => ?_
    | with_reducible refine all_getE fun _ => ?_
    | with_reducible refine all_getB fun _ => ?_
    | with_reducible refine all_getS fun _ => ?_
    | with_reducible apply all_cond
    | split
theorem loadP_slim {T : TypeId} {x : SV} : (loadP C o ex n T x).All (Slim o ex) := by
  unfold loadP
  repeat' first
    | with_reducible exact all_fail
    | with_reducible exact all_ret slim_s
    | with_reducible exact all_ret slim_e
    | with_reducible exact all_ret slim_m
    | with_reducible exact all_ret slim_c
    | with_reducible refine all_bind fun _ => ?_
    | with_reducible refine all_getE fun _ => ?_
    | with_reducible refine all_getB fun _ => ?_
    | with_reducible refine all_getS fun _ => ?_
    | with_reducible apply all_cond
    | split
theorem binP_slim {op : BinOp} {T : TypeId} {x y : SV} : (binP C o ex n op T x y).All (Slim o ex) := by
  unfold binP
  repeat' first
    | with_reducible exact all_fail
    | with_reducible exact all_ret slim_s
    | with_reducible exact all_ret slim_e
    | with_reducible exact all_ret slim_m
    | with_reducible exact all_ret slim_c
    | with_reducible refine all_bind fun _ => ?_
    | with_reducible refine all_getE fun _ => ?_
    | with_reducible refine all_getB fun _ => ?_
    | with_reducible refine all_getS fun _ => ?_
    | with_reducible apply all_cond
    | split
theorem unP_slim {op : UnOp} {x : SV} : (unP C o ex n op x).All (Slim o ex) := by
  unfold unP
  repeat' first
    | with_reducible exact all_fail
    | with_reducible exact all_ret slim_s
    | with_reducible exact all_ret slim_e
    | with_reducible exact all_ret slim_m
    | with_reducible exact all_ret slim_c
    | with_reducible refine all_bind fun _ => ?_
    | with_reducible refine all_getE fun _ => ?_
    | with_reducible refine all_getB fun _ => ?_
    | with_reducible refine all_getS fun _ => ?_
    | with_reducible apply all_cond
    | split
theorem convP_slim {T D : TypeId} {x : SV} : (convP C o ex n T D x).All (Slim o ex) := by
  unfold convP
  repeat' first
    | with_reducible exact all_fail
    | with_reducible exact all_ret slim_s
    | with_reducible exact all_ret slim_e
    | with_reducible exact all_ret slim_m
    | with_reducible exact all_ret slim_c
    | with_reducible refine all_bind fun _ => ?_
    | with_reducible refine all_getE fun _ => ?_
    | with_reducible refine all_getB fun _ => ?_
    | with_reducible refine all_getS fun _ => ?_
    | with_reducible apply all_cond
    | split
theorem ixP_slim {T : TypeId} {x y : SV} : (ixP C o ex T x y).All (Slim o ex) := by
  unfold ixP
  repeat' first
    | with_reducible exact all_fail
    | with_reducible exact all_ret slim_s
    | with_reducible exact all_ret slim_e
    | with_reducible exact all_ret slim_m
    | with_reducible exact all_ret slim_c
    | with_reducible refine all_bind fun _ => ?_
    | with_reducible refine all_getE fun _ => ?_
    | with_reducible refine all_getB fun _ => ?_
    | with_reducible refine all_getS fun _ => ?_
    | with_reducible apply all_cond
    | split
theorem indexP_slim {T : TypeId} {x y : SV} : (indexP C o ex n T x y).All (Slim o ex) := by
  unfold indexP
  repeat' first
    | with_reducible exact all_fail
    | with_reducible exact all_ret slim_s
    | with_reducible exact all_ret slim_e
    | with_reducible exact all_ret slim_m
    | with_reducible exact all_ret slim_c
    | with_reducible refine all_bind fun _ => ?_
    | with_reducible refine all_getE fun _ => ?_
    | with_reducible refine all_getB fun _ => ?_
    | with_reducible refine all_getS fun _ => ?_
    | with_reducible apply all_cond
    | split
theorem lenP_slim {b : Bool} {x : SV} : (lenP C o ex n b x).All (Slim o ex) := by
  unfold lenP
  repeat' first
    | with_reducible exact all_fail
    | with_reducible exact all_ret slim_s
    | with_reducible exact all_ret slim_e
    | with_reducible exact all_ret slim_m
    | with_reducible exact all_ret slim_c
    | with_reducible refine all_bind fun _ => ?_
    | with_reducible refine all_getE fun _ => ?_
    | with_reducible refine all_getB fun _ => ?_
    | with_reducible refine all_getS fun _ => ?_
    | with_reducible apply all_cond
    | split
theorem mmP_slim {b : Bool} {x y : SV} : (mmP C o ex n b x y).All (Slim o ex) := by
  unfold mmP
  repeat' first
    | with_reducible exact all_fail
    | with_reducible exact all_ret slim_s
    | with_reducible exact all_ret slim_e
    | with_reducible exact all_ret slim_m
    | with_reducible exact all_ret slim_c
    | with_reducible refine all_bind fun _ => ?_
    | with_reducible refine all_getE fun _ => ?_
    | with_reducible refine all_getB fun _ => ?_
    | with_reducible refine all_getS fun _ => ?_
    | with_reducible apply all_cond
    | split
theorem sliceP_slim {T : TypeId} {x : SV} {lo hi : Option SV} : (sliceP C o ex n T x lo hi).All (Slim o ex) := by
  unfold sliceP
  repeat' first
    | with_reducible exact all_fail
    | with_reducible exact all_ret slim_s
    | with_reducible exact all_ret slim_e
    | with_reducible exact all_ret slim_m
    | with_reducible exact all_ret slim_c
    | with_reducible refine all_bind fun _ => ?_
    | with_reducible refine all_getE fun _ => ?_
    | with_reducible refine all_getB fun _ => ?_
    | with_reducible refine all_getS fun _ => ?_
    | with_reducible apply all_cond
    | split
theorem opP_slim (hne : ex ≠ []) : (opP C Γ n o ex).All (Slim o ex) := by
  unfold opP
  repeat' first
    | with_reducible exact all_fail
    | with_reducible exact all_ret slim_s
    | with_reducible exact all_ret slim_e
    | with_reducible exact all_ret slim_m
    | with_reducible exact pickP_slim
    | with_reducible exact loadP_slim
    | with_reducible exact binP_slim
    | with_reducible exact unP_slim
    | with_reducible exact convP_slim
    | with_reducible exact ixP_slim
    | with_reducible exact indexP_slim
    | with_reducible exact lenP_slim
    | with_reducible exact mmP_slim
    | with_reducible exact sliceP_slim
    | with_reducible exact callP_slim hne
    | exact absurd rfl hne
    | with_reducible refine all_bind fun _ => ?_
    | with_reducible refine all_getE fun _ => ?_
    | with_reducible refine all_getB fun _ => ?_
    | with_reducible refine all_getS fun _ => ?_
    | with_reducible apply all_cond
    | split

/-- An operation that is passed over, with what the executor says of its slot. -/
theorem Sim.slim (S : Sim w0 O0 X N U m ρ a w) (hd : dstOk N o = true) (hex : ∀ p ∈ ex, ∃ v, m.e.get p.1 = some (.b v)) (hx : ¬ ExT C m.e.get ex) (hs : Slim o ex f) {m' : St C} (hm : f.on m = some m')
    {U' : Nat → Prop} (hU : ∀ n, U n → U' n) : Sim w0 O0 X N U' m' ρ (a.put o.dst undef) w := by
  obtain ⟨h1, s, h2⟩ := hs
  unfold Eff.on at hm
  split at hm
  · cases hm
  · rename_i e' he
    simp only [Option.some.injEq] at hm
    subst hm
    rw [h1, h2]
    exact S.put hU hd he hex (fun h => absurd h hx) (.inr rfl)

def boolV : Value → Option Bool
  | .bool b => some b
  | _ => none
theorem yielded_of {ops : Array Oper} {j d : Nat} {v : Value} (hd : (ops[j]?).bind (·.dst) = some d) (hv : a.tmps[d]? = some v) : yielded ops a.tmps j = boolV v := by
  unfold yielded
  rw [hd]
  simp only [Option.bind_some, hv]
  cases v <;> rfl

/-- One operation of a region. -/
theorem operP_wp (Kk : C.Ok) (G : GamOK C Γ) (S : Sim w0 O0 X N U m ρ a w) (hf : Fresh U n) (hd : dstOk N o = true) {ops : Array Oper}
    (h : (operP C Γ ops n o).run m = some f) (hob : ∀ b ∈ f.ob, b = true) {m' : St C} (hm : f.on m = some m') {K : Act → World → Prop} {Q : Exit → Act → World → Prop}
    (hK : ∀ ρ' v w', Sim w0 O0 X N (Up U n) m' ρ' (a.put o.dst v) w' → K (a.put o.dst v) w') :
    if Region.wanted o (yielded ops a.tmps) = true then o.wp C.P a w K Q else K (a.put o.dst undef) w := by
  unfold operP at h
  cases hg : o.guard with
  | none =>
    simp only [hg] at h
    rw [if_pos (by unfold Region.wanted; rw [hg])]
    exact opP_wp Kk G S (fun p hp => by cases hp) (fun p hp => by cases hp) hf hd h hob hm hK
  | some jw =>
    obtain ⟨j, want⟩ := jw
    simp only [hg] at h
    have hW : Region.wanted o (yielded ops a.tmps) = (yielded ops a.tmps j == some want) := by unfold Region.wanted; rw [hg]
    have yes : yielded ops a.tmps j = some want → o.wp C.P a w K Q → if Region.wanted o (yielded ops a.tmps) = true then o.wp C.P a w K Q else K (a.put o.dst undef) w := fun e h => by
      rw [if_pos (by rw [hW, e]; simp)]; exact h
    have no : yielded ops a.tmps j ≠ some want → K (a.put o.dst undef) w → if Region.wanted o (yielded ops a.tmps) = true then o.wp C.P a w K Q else K (a.put o.dst undef) w := fun e h => by
      rw [if_neg (by rw [hW]; simpa using e)]; exact h
    cases hj : (ops[j]?).bind (·.dst) with
    | none => simp [hj] at h
    | some d =>
      simp only [hj] at h
      obtain ⟨s, h1, h2⟩ := Prg.run_getS_some h
      have hsex := S.exdef d s h1
      have hun : ¬ ExT C m.e.get s.ex → yielded ops a.tmps j = none := fun hx => by rw [yielded_of hj (S.skips d s h1 hx)]; rfl
      have hval : ExT C m.e.get s.ex → ∃ v, a.tmps[d]? = some v ∧ SRel C U m.e.get ρ w (Owns X m ρ) s.v v := S.slots d s h1
      have hbool : ExT C m.e.get s.ex → ∀ b, (∀ v, SRel C U m.e.get ρ w (Owns X m ρ) s.v v → v = .bool b) → yielded ops a.tmps j = some b := by
        intro hx b hb
        obtain ⟨v, h3, h4⟩ := hval hx
        rw [yielded_of hj h3, hb v h4]; rfl
      split at h2
      · -- a literal
        rename_i b hsv
        have hb : ExT C m.e.get s.ex → yielded ops a.tmps j = some b := fun hx => hbool hx b (fun v hv => by rw [hsv] at hv; exact hv)
        cases hw : (bif want then b else !b) with
        | true =>
          have hbw : b = want := by cases b <;> cases want <;> simp_all
          rw [hw] at h2
          simp only [cond] at h2
          by_cases hx : ExT C m.e.get s.ex
          · refine yes (by rw [hb hx, hbw]) ?_
            exact opP_wp Kk G S hx hsex hf hd h2 hob hm hK
          · refine no (by rw [hun hx]; simp) ?_
            have hne : s.ex ≠ [] := fun he => hx (by rw [he]; intro p hp; cases hp)
            exact hK ρ undef w (S.slim hd hsex hx (opP_slim hne m f h2) hm Up.old)
        | false =>
          have hbw : b ≠ want := by cases b <;> cases want <;> simp_all
          rw [hw] at h2
          simp only [cond, Prg.run_ret, Option.some.injEq] at h2
          subst h2
          simp only [Eff.on, setE, Option.some.injEq] at hm
          subst hm
          have hno : yielded ops a.tmps j ≠ some want := by
            by_cases hx : ExT C m.e.get s.ex
            · rw [hb hx]; exact fun he => hbw (Option.some.inj he)
            · rw [hun hx]; simp
          refine no hno ?_
          exact hK ρ undef w (S.skip Up.old)
      · -- an entry
        rename_i id hsv
        obtain ⟨e, h3, h4⟩ := Prg.run_getE_some h2
        cases e with
        | i _ _ => simp at h4
        | s _ => simp at h4
        | ro _ _ => simp at h4
        | b b =>
          simp only at h4
          have hb : ExT C m.e.get s.ex → yielded ops a.tmps j = some b := fun hx => hbool hx b (fun v hv => by rw [hsv] at hv; exact boolCell (U := U) (ρ := ρ) h3 hv)
          have hex : ∀ p ∈ (id, want) :: s.ex, ∃ v, m.e.get p.1 = some (.b v) := by
            intro p hp
            cases hp with
            | head => exact ⟨b, h3⟩
            | tail _ hp => exact hsex p hp
          by_cases hx : ExT C m.e.get ((id, want) :: s.ex)
          · have hx' : ExT C m.e.get s.ex := fun p hp => hx p (List.mem_cons_of_mem _ hp)
            have hbw : b = want := by
              have := hx (id, want) (List.mem_cons_self ..)
              simp only [h3, Option.some.injEq, Ent.b.injEq] at this
              exact this
            refine yes (by rw [hb hx', hbw]) ?_
            exact opP_wp Kk G S hx hex hf hd h4 hob hm hK
          · have hno : yielded ops a.tmps j ≠ some want := by
              by_cases hx' : ExT C m.e.get s.ex
              · rw [hb hx']
                intro he
                have hbw := Option.some.inj he
                exact hx (exT_cons (hbw ▸ h3) hx')
              · rw [hun hx']; simp
            refine no hno ?_
            exact hK ρ undef w (S.slim hd hex hx (opP_slim (by simp) m f h4) hm Up.old)
      · simp at h2
end Go.Sx

/- The symbolic executor: regions, in the text's order and in any. -/
namespace Go.Sx
open Go
variable {C : Cfg}

/-- What stands under a key. -/
inductive KV (C : Cfg) where
  | s (x : Slot) | e (x : Ent C.R) | b (x : Blk)
abbrev GS (C : Cfg) := Key → Option (KV C)
def St.look (m : St C) : GS C
  | .s t => (m.s.get t).map .s
  | .e t => (m.e.get t).map .e
  | .b t => (m.b.get t).map .b

def Prg.runG {α : Type} (G : GS C) : Prg C α → Option α
  | .ret a => some a
  | .fail => none
  | .getS t f => match G (.s t) with | some (.s x) => (f x).runG G | _ => none
  | .getE t f => match G (.e t) with | some (.e x) => (f x).runG G | _ => none
  | .getB t f => match G (.b t) with | some (.b x) => (f x).runG G | _ => none
def Prg.readsG {α : Type} (G : GS C) : Prg C α → List Key
  | .ret _ => []
  | .fail => []
  | .getS t f => .s t :: match G (.s t) with | some (.s x) => (f x).readsG G | _ => []
  | .getE t f => .e t :: match G (.e t) with | some (.e x) => (f x).readsG G | _ => []
  | .getB t f => .b t :: match G (.b t) with | some (.b x) => (f x).readsG G | _ => []

theorem run_look {α : Type} (m : St C) (p : Prg C α) : p.runG m.look = p.run m ∧ p.readsG m.look = p.reads m := by
  induction p with
  | ret a => exact ⟨rfl, rfl⟩
  | fail => exact ⟨rfl, rfl⟩
  | getS t f ih => simp only [Prg.runG, Prg.run, Prg.readsG, Prg.reads, St.look]; cases m.s.get t <;> simp [ih]
  | getE t f ih => simp only [Prg.runG, Prg.run, Prg.readsG, Prg.reads, St.look]; cases m.e.get t <;> simp [ih]
  | getB t f ih => simp only [Prg.runG, Prg.run, Prg.readsG, Prg.reads, St.look]; cases m.b.get t <;> simp [ih]

theorem runG_congr {α : Type} {G G' : GS C} (p : Prg C α) (h : ∀ k ∈ p.readsG G, G' k = G k) : p.runG G' = p.runG G ∧ p.readsG G' = p.readsG G := by
  induction p with
  | ret a => exact ⟨rfl, rfl⟩
  | fail => exact ⟨rfl, rfl⟩
  | getS t f ih =>
    have h0 := h (.s t) (by simp [Prg.readsG])
    simp only [Prg.runG, Prg.readsG, h0]
    cases hg : G (.s t) with
    | none => exact ⟨rfl, rfl⟩
    | some x =>
      cases x with
      | s x => have := ih x (fun k hk => h k (by simp [Prg.readsG, hg, hk])); simp [this.1, this.2]
      | e x => exact ⟨rfl, rfl⟩
      | b x => exact ⟨rfl, rfl⟩
  | getE t f ih =>
    have h0 := h (.e t) (by simp [Prg.readsG])
    simp only [Prg.runG, Prg.readsG, h0]
    cases hg : G (.e t) with
    | none => exact ⟨rfl, rfl⟩
    | some x =>
      cases x with
      | e x => have := ih x (fun k hk => h k (by simp [Prg.readsG, hg, hk])); simp [this.1, this.2]
      | s x => exact ⟨rfl, rfl⟩
      | b x => exact ⟨rfl, rfl⟩
  | getB t f ih =>
    have h0 := h (.b t) (by simp [Prg.readsG])
    simp only [Prg.runG, Prg.readsG, h0]
    cases hg : G (.b t) with
    | none => exact ⟨rfl, rfl⟩
    | some x =>
      cases x with
      | b x => have := ih x (fun k hk => h k (by simp [Prg.readsG, hg, hk])); simp [this.1, this.2]
      | s x => exact ⟨rfl, rfl⟩
      | e x => exact ⟨rfl, rfl⟩

theorem Key.same_iff {x y : Key} : Key.same x y = true ↔ x = y := by
  cases x <;> cases y <;> simp [Key.same]
def updK (G : GS C) (k : Key) (x : Option (KV C)) : GS C := fun k' => bif Key.same k' k then x else G k'
theorem updK_eq (G : GS C) (k : Key) (x : Option (KV C)) : updK G k x k = x := by simp [updK, Key.same_iff.mpr rfl]
theorem updK_ne (G : GS C) {k k' : Key} (x : Option (KV C)) (h : k' ≠ k) : updK G k x k' = G k' := by
  unfold updK
  cases hs : Key.same k' k with
  | false => rfl
  | true => exact absurd (Key.same_iff.mp hs) h
def app : List (Key × Option (KV C)) → GS C → GS C
  | [], G => G
  | (k, x) :: l, G => app l (updK G k x)
theorem app_nin : ∀ {W : List (Key × Option (KV C))} {G : GS C} {k : Key}, k ∉ W.map (·.1) → app W G k = G k
  | [], _, _, _ => rfl
  | (k0, x) :: l, G, k, h => by
    simp only [List.map_cons, List.mem_cons, not_or] at h
    show app l (updK G k0 x) k = G k
    rw [app_nin h.2, updK_ne _ _ h.1]
theorem app_in : ∀ {W : List (Key × Option (KV C))} {G G' : GS C} {k : Key}, k ∈ W.map (·.1) → app W G k = app W G' k
  | [], _, _, _, h => by cases h
  | (k0, x) :: l, G, G', k, h => by
    show app l (updK G k0 x) k = app l (updK G' k0 x) k
    by_cases hl : k ∈ l.map (·.1)
    · exact app_in hl
    · simp only [List.map_cons, List.mem_cons] at h
      rcases h with h | h
      · rw [app_nin hl, app_nin hl, h, updK_eq, updK_eq]
      · exact absurd h hl
theorem app_app (W V : List (Key × Option (KV C))) (G : GS C) : app (W ++ V) G = app V (app W G) := by
  induction W generalizing G with
  | nil => rfl
  | cons p W ih => exact ih _
theorem app_comm {W V : List (Key × Option (KV C))} {G : GS C} (h : ∀ k ∈ W.map (·.1), k ∉ V.map (·.1)) : app V (app W G) = app W (app V G) := by
  funext k
  by_cases hw : k ∈ W.map (·.1)
  · rw [app_nin (h k hw)]; exact app_in hw
  · rw [app_nin (W := W) hw]
    by_cases hv : k ∈ V.map (·.1)
    · exact app_in hv
    · rw [app_nin hv, app_nin hv, app_nin hw]

def wrS (l : List (Nat × Option Slot)) : List (Key × Option (KV C)) := l.map fun p => (.s p.1, p.2.map .s)
def wrE (l : List (Nat × Ent C.R)) : List (Key × Option (KV C)) := l.map fun p => (.e p.1, some (.e p.2))
def wrB (l : List (Nat × Option Blk)) : List (Key × Option (KV C)) := l.map fun p => (.b p.1, p.2.map .b)
def Eff.wr (f : Eff C) : List (Key × Option (KV C)) := wrS f.s ++ wrE f.e ++ wrB f.b
theorem wr_keys (f : Eff C) : f.wr.map (·.1) = f.keys := by
  simp [Eff.wr, wrS, wrE, wrB, Eff.keys, List.map_map, Function.comp_def]

theorem look_setS : ∀ (l : List (Nat × Option Slot)) (s : Tr Slot) (e : Tr (Ent C.R)) (b : Tr Blk), (⟨setS l s, e, b⟩ : St C).look = app (wrS l) (⟨s, e, b⟩ : St C).look := by
  intro l
  induction l with
  | nil => intro s e b; rfl
  | cons p l ih =>
    intro s e b
    obtain ⟨k, x⟩ := p
    show (⟨setS l (s.set x k), e, b⟩ : St C).look = app (wrS l) (updK _ (.s k) (x.map .s))
    rw [ih]
    congr 1
    funext q
    by_cases hq : q = .s k
    · subst hq; rw [updK_eq]; simp [St.look, Tr.get_set]
    · rw [updK_ne _ _ hq]
      cases q with
      | s t => simp only [St.look, Tr.get_set]; rw [if_neg (by rintro rfl; exact hq rfl)]
      | e t => rfl
      | b t => rfl
theorem look_setB : ∀ (l : List (Nat × Option Blk)) (s : Tr Slot) (e : Tr (Ent C.R)) (b : Tr Blk), (⟨s, e, setB l b⟩ : St C).look = app (wrB l) (⟨s, e, b⟩ : St C).look := by
  intro l
  induction l with
  | nil => intro s e b; rfl
  | cons p l ih =>
    intro s e b
    obtain ⟨k, x⟩ := p
    show (⟨s, e, setB l (b.set x k)⟩ : St C).look = app (wrB l) (updK _ (.b k) (x.map .b))
    rw [ih]
    congr 1
    funext q
    by_cases hq : q = .b k
    · subst hq; rw [updK_eq]; simp [St.look, Tr.get_set]
    · rw [updK_ne _ _ hq]
      cases q with
      | b t => simp only [St.look, Tr.get_set]; rw [if_neg (by rintro rfl; exact hq rfl)]
      | e t => rfl
      | s t => rfl
/-- The new entries' numbers are free and no two alike. -/
def okE (l : List (Nat × Ent C.R)) (G : GS C) : Prop := (l.map (·.1)).Nodup ∧ ∀ k ∈ l.map (·.1), G (.e k) = none
theorem look_setE : ∀ (l : List (Nat × Ent C.R)) (s : Tr Slot) (e : Tr (Ent C.R)) (b : Tr Blk),
    (∀ e', setE l e = some e' → okE l (⟨s, e, b⟩ : St C).look ∧ (⟨s, e', b⟩ : St C).look = app (wrE l) (⟨s, e, b⟩ : St C).look) ∧
    (okE l (⟨s, e, b⟩ : St C).look → ∃ e', setE l e = some e') := by
  intro l
  induction l with
  | nil => intro s e b; exact ⟨fun e' h => by simp only [setE, Option.some.injEq] at h; subst h; exact ⟨⟨by simp, by simp⟩, rfl⟩, fun _ => ⟨e, rfl⟩⟩
  | cons p l ih =>
    intro s e b
    obtain ⟨k, x⟩ := p
    have hup : (⟨s, e.set (some x) k, b⟩ : St C).look = updK (⟨s, e, b⟩ : St C).look (.e k) (some (.e x)) := by
      funext q
      by_cases hq : q = .e k
      · subst hq; rw [updK_eq]; simp [St.look, Tr.get_set]
      · rw [updK_ne _ _ hq]
        cases q with
        | e t => simp only [St.look, Tr.get_set]; rw [if_neg (by rintro rfl; exact hq rfl)]
        | b t => rfl
        | s t => rfl
    have hlook : ∀ j, (⟨s, e, b⟩ : St C).look (.e j) = (e.get j).map .e := fun _ => rfl
    constructor
    · intro e' h
      simp only [setE] at h
      cases hk : e.get k with
      | some y => rw [hk] at h; cases h
      | none =>
        rw [hk] at h
        obtain ⟨⟨h1, h2⟩, h3⟩ := (ih s (e.set (some x) k) b).1 e' h
        rw [hup] at h2 h3
        have hkl : k ∉ l.map (·.1) := by
          intro hm
          have := h2 k hm
          rw [updK_eq] at this
          cases this
        refine ⟨⟨?_, ?_⟩, h3⟩
        · simp only [List.map_cons]; exact List.nodup_cons.mpr ⟨hkl, h1⟩
        · intro j hj
          simp only [List.map_cons, List.mem_cons] at hj
          rcases hj with hj | hj
          · rw [hj, hlook, hk]; rfl
          · have := h2 j hj
            rw [updK_ne _ _ (by intro he; cases he; exact hkl hj)] at this
            exact this
    · rintro ⟨h1, h2⟩
      simp only [List.map_cons] at h1 h2
      have hk : e.get k = none := by
        have := h2 k (List.mem_cons_self ..)
        rw [hlook] at this
        cases hk : e.get k with
        | none => rfl
        | some y => rw [hk] at this; cases this
      simp only [setE, hk]
      refine (ih s (e.set (some x) k) b).2 ⟨(List.nodup_cons.mp h1).2, fun j hj => ?_⟩
      rw [hup, updK_ne _ _ (by intro he; cases he; exact (List.nodup_cons.mp h1).1 hj)]
      exact h2 j (List.mem_cons_of_mem _ hj)

theorem on_look {f : Eff C} {m m' : St C} (h : f.on m = some m') : okE f.e m.look ∧ m'.look = app f.wr m.look := by
  unfold Eff.on at h
  split at h
  · cases h
  · rename_i e' he
    simp only [Option.some.injEq] at h
    subst h
    obtain ⟨h1, h2⟩ := (look_setE f.e m.s m.e m.b).1 e' he
    refine ⟨h1, ?_⟩
    rw [look_setB, look_setS, h2, Eff.wr, app_app, app_app]
    congr 1
    refine (app_comm ?_).symm
    intro k hk hk'
    simp only [wrS, wrE, List.map_map, List.mem_map, Function.comp] at hk hk'
    obtain ⟨_, _, rfl⟩ := hk
    obtain ⟨_, _, h⟩ := hk'
    cases h
theorem on_of_look {f : Eff C} {m : St C} (h : okE f.e m.look) : ∃ m', f.on m = some m' := by
  obtain ⟨e', he⟩ := (look_setE f.e m.s m.e m.b).2 h
  exact ⟨_, by unfold Eff.on; rw [he]⟩
end Go.Sx

/- The symbolic executor: regions, in the text's order and in any. -/
namespace Go.Sx
open Go
variable {C : Cfg} {w0 : World} {O0 : Frm} {X : Nat → Prop} {N : Nat} {U : Nat → Prop} {m : St C} {ρ : Nat → Value} {a : Act} {w : World} {Γ : Nat → Option (FSum C)} {ops : Array Oper} {n0 : Nat}

theorem meets_false {x y : List Key} (h : meets x y = false) : ∀ k ∈ x, k ∉ y := by
  intro k hk hy
  have : meets x y = true := by
    simp only [meets, List.any_eq_true]
    exact ⟨k, hk, k, hy, Key.same_iff.mpr rfl⟩
  rw [h] at this; cases this

/-- One operation's effect. -/
structure Stp (Γ : Nat → Option (FSum C)) (N : Nat) (ops : Array Oper) (n0 : Nat) (G : GS C) (i : Nat) (mk : Mark) (G' : GS C) : Prop where
  it : ∃ o f, ops[i]? = some o ∧ (operP C Γ ops (n0 + stride * i) o).runG G = some f ∧ (operP C Γ ops (n0 + stride * i) o).readsG G = mk.rd ∧ f.keys = mk.wr ∧ okE f.e G ∧ G' = app f.wr G ∧
    dstOk N o = true ∧ ∀ b ∈ f.ob, b = true

inductive Chain (Γ : Nat → Option (FSum C)) (N : Nat) (ops : Array Oper) (n0 : Nat) : GS C → List (Nat × Mark) → GS C → Prop
  | nil {G : GS C} : Chain Γ N ops n0 G [] G
  | cons {G G1 Gf : GS C} {i : Nat} {mk : Mark} {l : List (Nat × Mark)} : Stp Γ N ops n0 G i mk G1 → Chain Γ N ops n0 G1 l Gf → Chain Γ N ops n0 G ((i, mk) :: l) Gf

theorem stp_swap {G G1 G2 : GS C} {i j : Nat} {mi mj : Mark} (hi : Stp Γ N ops n0 G i mi G1) (hj : Stp Γ N ops n0 G1 j mj G2) (hc : clash mi mj = false) :
    ∃ G1', Stp Γ N ops n0 G j mj G1' ∧ Stp Γ N ops n0 G1' i mi G2 := by
  obtain ⟨oi, fi, a1, a2, a3, a4, a5, a6, a7, a8⟩ := hi.it
  obtain ⟨oj, fj, b1, b2, b3, b4, b5, b6, b7, b8⟩ := hj.it
  simp only [clash, Bool.or_eq_false_iff] at hc
  obtain ⟨⟨c1, c2⟩, c3⟩ := hc
  rw [← a4, ← wr_keys] at c1
  have d1 := meets_false c1
  rw [← a4, ← b4, ← wr_keys, ← wr_keys] at c2
  have d2 := meets_false c2
  rw [← b4, ← wr_keys] at c3
  have d3 := meets_false c3
  have e1 := runG_congr (G := G1) (G' := G) (operP C Γ ops (n0 + stride * j) oj) (fun k hk => by
    rw [b3] at hk
    rw [a6]
    exact (app_nin (fun h => d1 k h hk)).symm)
  have e2 := runG_congr (G := G) (G' := app fj.wr G) (operP C Γ ops (n0 + stride * i) oi) (fun k hk => by
    rw [a3] at hk
    exact app_nin (d3 k hk))
  have ekeyE : ∀ {f : Eff C} {k : Nat}, k ∈ f.e.map (·.1) → Key.e k ∈ f.wr.map (·.1) := by
    intro f k hk
    rw [wr_keys]
    simp only [Eff.keys, List.mem_append, List.mem_map] at hk ⊢
    obtain ⟨p, hp, rfl⟩ := hk
    exact .inl (.inr ⟨p, hp, rfl⟩)
  refine ⟨app fj.wr G, ⟨oj, fj, b1, by rw [e1.1, b2], by rw [e1.2, b3], b4, ⟨b5.1, fun k hk => ?_⟩, rfl, b7, b8⟩, ⟨oi, fi, a1, by rw [e2.1, a2], by rw [e2.2, a3], a4, ⟨a5.1, fun k hk => ?_⟩, ?_, a7, a8⟩⟩
  · have := b5.2 k hk
    rw [a6, app_nin (fun h => d2 _ h (ekeyE hk))] at this
    exact this
  · rw [app_nin (d2 _ (ekeyE hk))]; exact a5.2 k hk
  · rw [b6, a6]; exact app_comm d2

theorem chain_front {i : Nat} {mi : Mark} {l2 : List (Nat × Mark)} {Gf : GS C} : ∀ {l1 : List (Nat × Mark)} {G : GS C}, Chain Γ N ops n0 G (l1 ++ (i, mi) :: l2) Gf → (∀ x ∈ l1, clash x.2 mi = false) →
    ∃ G', Stp Γ N ops n0 G i mi G' ∧ Chain Γ N ops n0 G' (l1 ++ l2) Gf
  | [], G, h, _ => by cases h with | cons h1 h2 => exact ⟨_, h1, h2⟩
  | x :: l1, G, h, hc => by
    cases h with
    | cons h1 h2 =>
      obtain ⟨G', h3, h4⟩ := chain_front h2 (fun y hy => hc y (List.mem_cons_of_mem _ hy))
      obtain ⟨G1, h5, h6⟩ := stp_swap h1 h3 (hc _ (List.mem_cons_self ..))
      exact ⟨G1, h5, .cons h6 h4⟩

/-- What must stand ahead of an operation. -/
inductive Anc (ops : Array Oper) : Nat → Nat → Prop
  | one {j : Nat} {o : Oper} {e : Edge} : ops[j]? = some o → e ∈ o.after.toList → Region.binds .any e = true → Anc ops e.on j
  | more {i j : Nat} {o : Oper} {e : Edge} : ops[j]? = some o → e ∈ o.after.toList → Region.binds .any e = true → Anc ops i e.on → Anc ops i j

theorem anc_mem {ms : List Mark} {i : Nat} {o : Oper} {j : Nat} (h : j ∈ ancOf ms i o) :
    ∃ e ∈ o.after.toList, Region.binds .any e = true ∧ e.on < i ∧ (j = e.on ∨ ∃ mk, ms[i - 1 - e.on]? = some mk ∧ j ∈ mk.anc) := by
  unfold ancOf at h
  have key : ∀ (l : List Edge) (acc : List Nat), j ∈ l.foldl (fun acc e => bif Region.binds .any e && Nat.blt e.on i then e.on :: ((ms[i - 1 - e.on]?).map (·.anc)).getD [] ++ acc else acc) acc →
      j ∈ acc ∨ ∃ e ∈ l, Region.binds .any e = true ∧ e.on < i ∧ (j = e.on ∨ ∃ mk, ms[i - 1 - e.on]? = some mk ∧ j ∈ mk.anc) := by
    intro l
    induction l with
    | nil => intro acc h; exact .inl h
    | cons e l ih =>
      intro acc h
      simp only [List.foldl_cons] at h
      rcases ih _ h with h1 | ⟨e', h1, h2⟩
      · cases hb : (Region.binds .any e && Nat.blt e.on i) with
        | false => rw [hb] at h1; exact .inl h1
        | true =>
          rw [hb] at h1
          simp only [Bool.and_eq_true] at hb
          have hlt : e.on < i := Nat.blt_eq.mp hb.2
          simp only [cond, List.cons_append, List.mem_cons, List.mem_append] at h1
          rcases h1 with h1 | h1 | h1
          · exact .inr ⟨e, List.mem_cons_self .., hb.1, hlt, .inl h1⟩
          · refine .inr ⟨e, List.mem_cons_self .., hb.1, hlt, .inr ?_⟩
            cases hm : ms[i - 1 - e.on]? with
            | none => rw [hm] at h1; simp at h1
            | some mk => rw [hm] at h1; exact ⟨mk, rfl, by simpa using h1⟩
          · exact .inl h1
      · exact .inr ⟨e', List.mem_cons_of_mem _ h1, h2⟩
  rcases key _ _ h with h1 | h1
  · cases h1
  · exact h1

theorem free_mem : ∀ {ms : List Mark} {mk : Mark} {i : Nat}, ms.length = i → freeOf.go mk ms i = true → ∀ k, k < i → ∀ x, ms[i - 1 - k]? = some x → clash x mk = true → k ∈ mk.anc := by
  intro ms
  induction ms with
  | nil => intro mk i hl _ k hk; simp at hl; omega
  | cons y ms ih =>
    intro mk i hl h k hk x hx hc
    simp only [List.length_cons] at hl
    simp only [freeOf.go, Bool.and_eq_true] at h
    by_cases he : k = i - 1
    · have hz : i - 1 - k = 0 := by omega
      rw [hz] at hx
      simp only [List.getElem?_cons_zero, Option.some.injEq] at hx
      subst hx
      have := h.1
      rw [hc] at this
      simp only [Bool.not_true, Bool.false_or, List.any_eq_true] at this
      obtain ⟨q, hq, hb⟩ := this
      rw [he, Nat.beq_eq.mp hb]; exact hq
    · have hz : i - 1 - k = (i - 1 - 1 - k) + 1 := by omega
      rw [hz, List.getElem?_cons_succ] at hx
      exact ih (i := i - 1) (by omega) h.2 k (by omega) x hx hc

theorem runAny_ob : ∀ {l : List Oper} {n i : Nat} {ms : List Mark} {m mf : St C} {ob obf : List Bool}, runAny C Γ N ops l n i ms m ob = some (mf, obf) → ∀ b ∈ ob, b ∈ obf := by
  intro l
  induction l with
  | nil => intro n i ms m mf ob obf h; simp only [runAny, Option.some.injEq, Prod.mk.injEq] at h; intro b hb; rw [← h.2]; exact hb
  | cons o l ih =>
    intro n i ms m mf ob obf h b hb
    simp only [runAny] at h
    split at h
    · cases h
    · split at h
      · cases h
      · rename_i f _ m' _
        generalize hc : (dstOk N o && backOk i o && freeOf ms _ i) = q at h
        cases q with
        | false => simp at h
        | true => exact ih h b (List.mem_append_left _ hb)

theorem any_chain : ∀ {l : List Oper} {i : Nat} {ms : List Mark} {m mf : St C} {ob obf : List Bool}, runAny C Γ N ops l (n0 + stride * i) i ms m ob = some (mf, obf) → (∀ j, l[j]? = ops[i + j]?) → ms.length = i →
    (∀ k mk, k < i → ms[i - 1 - k]? = some mk → ∀ j ∈ mk.anc, Anc ops j k) → (∀ b ∈ obf, b = true) →
    ∃ L : List (Nat × Mark), Chain Γ N ops n0 m.look L mf.look ∧ L.map (·.1) = List.range' i l.length ∧ (∀ x ∈ L, ∀ k mk, k < i → ms[i - 1 - k]? = some mk → clash mk x.2 = true → Anc ops k x.1) ∧
      L.Pairwise (fun x y => clash x.2 y.2 = true → Anc ops x.1 y.1) ∧ ∀ x ∈ L, ∀ o, ops[x.1]? = some o → backOk x.1 o = true := by
  intro l
  induction l with
  | nil =>
    intro i ms m mf ob obf h _ _ _ _
    simp only [runAny, Option.some.injEq, Prod.mk.injEq] at h
    refine ⟨[], by rw [h.1]; exact .nil, by simp, by simp, by simp, by simp⟩
  | cons o l ih =>
    intro i ms m mf ob obf h hl hms hanc hob
    have hoi : ops[i]? = some o := by have := hl 0; simpa using this.symm
    have hrest := h
    simp only [runAny] at h
    split at h
    · cases h
    · rename_i f hf
      split at h
      · cases h
      · rename_i m' hm
        generalize hmk : (⟨(operP C Γ ops (n0 + stride * i) o).reads m, f.keys, ancOf ms i o⟩ : Mark) = mk at h
        cases hc : (dstOk N o && backOk i o && freeOf ms mk i) with
        | false => rw [hc] at h; simp at h
        | true =>
          rw [hc] at h
          simp only [cond] at h
          simp only [Bool.and_eq_true] at hc
          obtain ⟨⟨hd, hback⟩, hfree⟩ := hc
          have hmanc : ∀ j ∈ mk.anc, Anc ops j i := by
            intro j hj
            rw [← hmk] at hj
            obtain ⟨e, h1, h2, h3, h4⟩ := anc_mem hj
            rcases h4 with h4 | ⟨mk', h4, h5⟩
            · rw [h4]; exact .one hoi h1 h2
            · exact .more hoi h1 h2 (hanc e.on mk' h3 h4 j h5)
          have hidx : ∀ k mk', k < i + 1 → (mk :: ms)[i + 1 - 1 - k]? = some mk' → (k = i ∧ mk' = mk) ∨ (k < i ∧ ms[i - 1 - k]? = some mk') := by
            intro k mk' hk hx
            by_cases he : k = i
            · subst he
              simp only [Nat.add_sub_cancel, Nat.sub_self, List.getElem?_cons_zero, Option.some.injEq] at hx
              exact .inl ⟨rfl, hx.symm⟩
            · have hz : i + 1 - 1 - k = (i - 1 - k) + 1 := by omega
              rw [hz, List.getElem?_cons_succ] at hx
              exact .inr ⟨by omega, hx⟩
          rw [show n0 + stride * i + stride = n0 + stride * (i + 1) by rw [Nat.mul_add]; omega] at h
          obtain ⟨L, q1, q2, q3, q4, q5⟩ := ih h (fun j => by have := hl (j + 1); simpa [Nat.add_assoc, Nat.add_comm 1 j] using this) (by simp [hms])
            (fun k mk' hk hx j hj => by
              rcases hidx k mk' hk hx with ⟨rfl, rfl⟩ | ⟨h1, h2⟩
              · exact hmanc j hj
              · exact hanc k mk' h1 h2 j hj) hob
          obtain ⟨r1, r2⟩ := run_look m (operP C Γ ops (n0 + stride * i) o)
          obtain ⟨s1, s2⟩ := on_look hm
          refine ⟨(i, mk) :: L, .cons ⟨o, f, hoi, by rw [r1, hf], by rw [r2, ← hmk], by rw [← hmk], s1, s2, hd, fun b hb => hob b (runAny_ob h b (List.mem_append_right _ hb))⟩ q1, ?_, ?_, ?_, ?_⟩
          · simp only [List.map_cons, List.length_cons, List.range'_succ, q2]
          · intro x hx k mk' hk hkx hcl
            cases hx with
            | head => exact hmanc k (free_mem hms hfree k hk mk' hkx hcl)
            | tail _ hx => exact q3 x hx k mk' (by omega) (by
                have hz : i + 1 - 1 - k = (i - 1 - k) + 1 := by omega
                rw [hz, List.getElem?_cons_succ]; exact hkx) hcl
          · refine List.pairwise_cons.mpr ⟨fun x hx hcl => ?_, q4⟩
            exact q3 x hx i mk (by omega) (by simp) hcl
          · intro x hx o' ho'
            cases hx with
            | head => simp only [hoi, Option.some.injEq] at ho'; subst ho'; exact hback
            | tail _ hx => exact q5 x hx o' ho'
end Go.Sx

/- The symbolic executor: regions walk. -/
namespace Go.Sx
open Go
variable {C : Cfg} {w0 : World} {O0 : Frm} {X : Nat → Prop} {N : Nat} {U : Nat → Prop} {m : St C} {ρ : Nat → Value} {a : Act} {w : World} {Γ : Nat → Option (FSum C)} {ops : Array Oper} {n0 : Nat}

theorem look_eq {m m' : St C} (h : m.look = m'.look) : m.s.get = m'.s.get ∧ m.e.get = m'.e.get ∧ m.b.get = m'.b.get := by
  refine ⟨?_, ?_, ?_⟩ <;> funext k
  · have := congrFun h (.s k)
    simp only [St.look] at this
    cases h1 : m.s.get k <;> cases h2 : m'.s.get k <;> rw [h1, h2] at this <;> simp_all
  · have := congrFun h (.e k)
    simp only [St.look] at this
    cases h1 : m.e.get k <;> cases h2 : m'.e.get k <;> rw [h1, h2] at this <;> simp_all
  · have := congrFun h (.b k)
    simp only [St.look] at this
    cases h1 : m.b.get k <;> cases h2 : m'.b.get k <;> rw [h1, h2] at this <;> simp_all
theorem ownN_eq {m m' : St C} (h : m.b.get = m'.b.get) : OwnN m ρ = OwnN m' ρ := by funext b; simp only [OwnN, h]
theorem owns_eq {m m' : St C} (h : m.b.get = m'.b.get) : Owns X m ρ = Owns X m' ρ := by funext b; simp only [Owns, ownN_eq h]
/-- A state is what its tables say. -/
theorem Sim.look (S : Sim w0 O0 X N U m ρ a w) {m' : St C} (h : m.look = m'.look) : Sim w0 O0 X N U m' ρ a w := by
  obtain ⟨h1, h2, h3⟩ := look_eq h
  obtain ⟨a1, a2, a3, a4, a5, a6, a7, a8, a9, a10, a11, a12, a13, a14, a15⟩ := S
  rw [h1, h2] at a3 a5
  rw [h1, h2, owns_eq h3] at a4
  rw [h3, h2, owns_eq h3] at a6
  rw [h3] at a7
  rw [ownN_eq h3] at a8
  exact ⟨a1, a2, a3, a4, a5, a6, a7, a8, a9, a10, a11, a12, a13, a14, a15⟩
theorem Sim.drew (S : Sim w0 O0 X N U m ρ a w) (d : Nat) : Sim w0 O0 X N U m ρ a { w with drawn := d } := by
  refine S.next (m' := m) (w' := { w with drawn := d }) (.of (fun _ h => h) (fun _ _ h => h) (fun _ _ => rfl) ⟨Nat.le_refl _, fun _ _ h => ⟨rfl, h⟩⟩) S.size S.defers (fun t s h => .inl ⟨h, rfl⟩) (fun k B h => .inl ⟨h, fun _ _ _ => rfl⟩) S.disj (fun _ h => .inl h) rfl rfl rfl (fun _ _ _ => rfl)

/-- The names lie below a number. -/
def Below (U : Nat → Prop) (n : Nat) : Prop := ∀ k, U k → k < n
theorem Below.fresh {n k : Nat} (h : Below U n) (hk : n ≤ k) : Fresh U k := fun j hj _ hu => by have := h j hu; omega
theorem up_fresh {n k : Nat} (h : Fresh U k) (hk : n + stride ≤ k ∨ k + stride ≤ n) : Fresh (Up U n) k := by
  intro j hj hj' hu
  rcases hu with hu | hu
  · exact h j hj hj' hu
  · omega
theorem up_below {n k : Nat} (h : Below U k) (hk : n + stride ≤ k) : Below (Up U n) k := by
  intro j hu
  rcases hu with hu | hu
  · exact h j hu
  · omega

theorem stride_sep {i j : Nat} (h : i ≠ j) : n0 + stride * i + stride ≤ n0 + stride * j ∨ n0 + stride * j + stride ≤ n0 + stride * i := by
  unfold stride; omega

/-- The fence of a function (none), or of a round of a range over a function. -/
def RF (ro : Option Nat) : Fence := { fn := fun _ => True, depth := none, alive := false, round := ro }
theorem RF_none : RF none = Fence.wide := rfl
theorem rf_calls {ro : Option Nat} {k : Nat} {P : Program} {f : FuncId} {args : Array Value} {w : World} {R : Ending → World → Prop} (h : Calls P f args w R) : CallsIn (RF ro) k P f args w R :=
  (callsIn_wide (n := k)).mpr h
theorem rf_rows {ro : Option Nat} {k : Nat} {P : Program} {row : String} {args : Array Value} {w : World} {R : Value → World → Prop} (h : Rows P row args w R) : RowsIn (RF ro) k P row args w R :=
  fun c cs _ => let ⟨v, w', r, s⟩ := h c cs; ⟨v, w', r, stepsIn_wide.mpr s⟩
theorem not_defer {o : Oper} (h : isDefer o.op = false) : ∀ c, o.op ≠ .defer c := by
  intro c hc
  rw [hc] at h; cases h
theorem oper_in {ro : Option Nat} {k : Nat} {P : Program} {o : Oper} {a : Act} {w : World} {K K' : Act → World → Prop} {Q : Exit → Act → World → Prop} (ho : isDefer o.op = false) (hK : ∀ a w, K a w → K' a w) (h : o.wp P a w K Q) :
    o.wpIn (RF ro) k P a w K' Q := by
  refine ⟨fun _ _ => trivial, ?_⟩
  rw [Oper.semAt_eq _ _ _ (not_defer ho)]
  unfold Oper.wp at h
  generalize (execOp a.eval o).run P w = r at h ⊢
  cases r with
  | ok x w' =>
    cases x <;> simp only [Oper.upon, Oper.uponIn] at h ⊢ <;>
      first
        | exact hK _ _ h
        | exact ⟨(fun hd => by cases hd), rf_calls (h.mono (fun e w'' he => by cases e <;> first | exact hK _ _ he | exact he))⟩
        | exact ⟨(fun hd => by cases hd), rf_rows (h.mono (fun _ _ he => hK _ _ he))⟩
  | halt x w' => cases x <;> simp only [Oper.upon, Oper.uponIn] at h ⊢ <;> exact h
theorem noDefer_at {ops : Array Oper} (h : noDefer ops = true) {i : Nat} {o : Oper} (ho : ops[i]? = some o) : isDefer o.op = false := by
  have := List.all_eq_true.mp h o (by simpa using Array.mem_of_getElem? ho)
  simpa using this

theorem stp_wp (Kk : C.Ok) (G0 : GamOK C Γ) {ro : Option Nat} {kk : Nat} (hnd0 : noDefer ops = true) {G G' : GS C} {i : Nat} {mk : Mark} (h : Stp Γ N ops n0 G i mk G') (hG : m.look = G) (S : Sim w0 O0 X N U m ρ a w) (hf : Fresh U (n0 + stride * i))
    {K : Act → World → Prop} {Q : Exit → Act → World → Prop}
    (hK : ∀ m' ρ' v w' o, m'.look = G' → Sim w0 O0 X N (Up U (n0 + stride * i)) m' ρ' (a.put o v) w' → K (a.put o v) w') : wpOpIn (RF ro) kk C.P ops Q i K a w := by
  obtain ⟨o, f, h1, h2, _, _, h5, h6, h7, h8⟩ := h.it
  subst hG
  rw [(run_look m _).1] at h2
  obtain ⟨m', hm⟩ := on_of_look h5
  have := operP_wp Kk G0 S hf h7 h2 h8 hm (K := K) (Q := Q) (fun ρ' v w' S' => hK m' ρ' v w' _ (by rw [h6]; exact (on_look hm).2) S')
  unfold wpOpIn
  simp only [h1]
  split
  · rename_i hw; rw [if_pos hw] at this; exact oper_in (noDefer_at hnd0 h1) (fun _ _ h => h) this
  · rename_i hw; rw [if_neg hw] at this; exact ⟨fun _ _ => trivial, this⟩

def Closed (ops : Array Oper) (listed : Array Bool) : Prop :=
  ∀ j, listed.getD j false = true → ∀ o, ops[j]? = some o → ∀ e ∈ o.after.toList, Region.binds .any e = true → listed.getD e.on false = true
theorem anc_listed {listed : Array Bool} (hc : Closed ops listed) {i j : Nat} (h : Anc ops i j) :
    (∀ o, ops[j]? = some o → ∀ e ∈ o.after.toList, Region.binds .any e = true → listed.getD e.on false = true) → listed.getD i false = true := by
  induction h with
  | one h1 h2 h3 => intro h; exact h _ h1 _ h2 h3
  | more h1 h2 h3 _ ih => intro h; exact ih (fun o ho e he hb => hc _ (h _ h1 _ h2 h3) o ho e he hb)

theorem any_wp (Kk : C.Ok) (G0 : GamOK C Γ) {ro : Option Nat} {kk : Nat} (hnd0 : noDefer ops = true) {Gf : GS C} {Q : Exit → Act → World → Prop} {top : Nat} (htop : top = n0 + stride * ops.size)
    (hQ : ∀ m' ρ' U' a' w', m'.look = Gf → Sim w0 O0 X N U' m' ρ' a' w' → Below U' top → Q .normal a' w') :
    ∀ (k : Nat) {l : List (Nat × Mark)} {G : GS C} {listed : Array Bool} {U : Nat → Prop} {m : St C} {ρ : Nat → Value} {a : Act} {w : World}, l.length = k → Chain Γ N ops n0 G l Gf →
      l.Pairwise (fun x y => clash x.2 y.2 = true → Anc ops x.1 y.1) → (l.map (·.1)).Pairwise (· < ·) → (∀ x ∈ l, ∀ o, ops[x.1]? = some o → backOk x.1 o = true) →
      listed.size = ops.size → (∀ j, j < ops.size → (listed.getD j true = false ↔ j ∈ l.map (·.1))) → (∀ x ∈ l, x.1 < ops.size) → Closed ops listed → m.look = G → Sim w0 O0 X N U m ρ a w → (∀ x ∈ l, Fresh U (n0 + stride * x.1)) → Below U top →
      wpAnyIn (RF ro) kk C.P .any ops Q k listed a w := by
  intro k
  induction k with
  | zero =>
    intro l G listed U m ρ a w hl hch _ _ _ _ hlist _ _ hG S _ hB
    cases l with
    | cons _ _ => simp at hl
    | nil =>
      cases hch
      refine ⟨?_, hQ m ρ U a w hG S hB⟩
      cases hr : Region.ready .any ops listed with
      | nil => rfl
      | cons j rs =>
        have hj : j ∈ Region.ready .any ops listed := by rw [hr]; exact List.mem_cons_self ..
        rw [mem_ready] at hj
        obtain ⟨h0, o, ho, _⟩ := hj
        have := (hlist j (Array.getElem?_eq_some_iff.1 ho).1).mp h0
        simp at this
  | succ k ih =>
    intro l G listed U m ρ a w hl hch hpw hs hback hsz hlist hlt hcl hG S hfr hB
    refine ⟨fun hr => ?_, fun i hi => ?_⟩
    · -- the first is ready
      exfalso
      cases l with
      | nil => simp at hl
      | cons x l =>
        have hx := hlt x (List.mem_cons_self ..)
        have : x.1 ∈ Region.ready .any ops listed := by
          rw [mem_ready]
          refine ⟨(hlist x.1 hx).mpr (by simp), ops[x.1], by simp [hx], fun e he hb => ?_⟩
          have hbk := hback x (List.mem_cons_self ..) (ops[x.1]) (by simp [hx])
          unfold backOk at hbk
          rw [List.all_eq_true] at hbk
          have hlt' := hbk e (by simpa using he)
          rw [hb] at hlt'
          simp only [Bool.not_true, Bool.false_or] at hlt'
          have hlt' := Nat.blt_eq.mp hlt'
          have hno : e.on ∉ (x :: l).map (·.1) := by
            simp only [List.map_cons] at hs ⊢
            have hs' := (List.pairwise_cons.mp hs).1
            intro hm
            rcases List.mem_cons.mp hm with hm | hm
            · omega
            · have := hs' _ hm; omega
          have hnf : listed.getD e.on true ≠ false := fun h => hno ((hlist e.on (by omega)).mp h)
          have hsz' : e.on < listed.size := by omega
          simp only [Array.getD_eq_getD_getElem?, hsz', Array.getElem?_eq_getElem, Option.getD_some] at hnf ⊢
          cases hb : listed[e.on] with
          | true => rfl
          | false => exact absurd hb hnf
        rw [hr] at this
        cases this
    · have hi' := hi
      rw [mem_ready] at hi
      obtain ⟨h0, o, ho, hall⟩ := hi
      have hisz : i < ops.size := (Array.getElem?_eq_some_iff.1 ho).1
      obtain ⟨⟨i', mi⟩, hmem, hii⟩ := List.mem_map.mp ((hlist i hisz).mp h0)
      simp only at hii
      subst hii
      obtain ⟨l1, l2, rfl⟩ := List.append_of_mem hmem
      have hnc : ∀ x ∈ l1, clash x.2 mi = false := by
        intro x hx
        cases hcx : clash x.2 mi with
        | false => rfl
        | true =>
          exfalso
          have hanc := (List.pairwise_append.mp hpw).2.2 x hx (i', mi) (List.mem_cons_self ..) hcx
          have h1 := anc_listed hcl hanc (fun o' ho' e he hb => by
            rw [ho] at ho'
            simp only [Option.some.injEq] at ho'
            subst ho'
            exact hall e (by simpa using he) hb)
          have hxs := hlt x (List.mem_append_left _ hx)
          have h2 := (hlist x.1 hxs).mpr (List.mem_map.mpr ⟨x, List.mem_append_left _ hx, rfl⟩)
          have hsz' : x.1 < listed.size := by omega
          simp only [Array.getD_eq_getD_getElem?, hsz', Array.getElem?_eq_getElem, Option.getD_some] at h1 h2
          rw [h1] at h2
          cases h2
      obtain ⟨G', hst, hch'⟩ := chain_front hch hnc
      have hnd : i' ∉ (l1 ++ l2).map (·.1) := by
        simp only [List.map_append, List.map_cons] at hs ⊢
        obtain ⟨_, p2, p3⟩ := List.pairwise_append.mp hs
        intro hm
        rcases List.mem_append.mp hm with hm | hm
        · have := p3 _ hm i' (List.mem_cons_self ..); omega
        · have := (List.pairwise_cons.mp p2).1 _ hm; omega
      have hsub : ∀ x, x ∈ l1 ++ l2 → x ∈ l1 ++ (i', mi) :: l2 := by
        intro x hx
        rcases List.mem_append.mp hx with hx | hx
        · exact List.mem_append_left _ hx
        · exact List.mem_append_right _ (List.mem_cons_of_mem _ hx)
      have hsl : (l1 ++ l2).Sublist (l1 ++ (i', mi) :: l2) := List.Sublist.append (List.Sublist.refl _) (List.sublist_cons_self _ _)
      refine stp_wp Kk G0 hnd0 hst hG S (hfr _ hmem) (fun m' ρ' v w' d hG' S' => ?_)
      refine ih (l := l1 ++ l2) (listed := listed.setIfInBounds i' true) (by simp at hl ⊢; omega) hch' (hpw.sublist hsl) (hs.sublist (hsl.map _)) (fun x hx => hback x (hsub x hx)) (by simp [hsz]) ?_ (fun x hx => hlt x (hsub x hx)) ?_ hG' S' ?_ ?_
      · intro j hj
        by_cases hji : j = i'
        · subst hji
          have hsz' : j < listed.size := by omega
          simp only [Array.getD_eq_getD_getElem?, Array.getElem?_setIfInBounds_self_of_lt hsz', Option.getD_some]
          constructor
          · intro h; cases h
          · intro h; exact absurd h hnd
        · rw [getD_set_ne true (Ne.symm hji), hlist j hj]
          simp only [List.map_append, List.map_cons, List.mem_append, List.mem_cons]
          constructor
          · rintro (h | h | h)
            · exact .inl h
            · exact absurd h hji
            · exact .inr h
          · rintro (h | h)
            · exact .inl h
            · exact .inr (.inr h)
      · intro j hj o' ho' e he hb
        by_cases hji : j = i'
        · subst hji
          rw [ho] at ho'
          simp only [Option.some.injEq] at ho'
          subst ho'
          exact getD_set_true (hall e (by simpa using he) hb)
        · rw [getD_set_ne false (Ne.symm hji)] at hj
          exact getD_set_true (hcl j hj o' ho' e he hb)
      · intro x hx
        have hne : i' ≠ x.1 := by rintro rfl; exact hnd (List.mem_map.mpr ⟨x, hx, rfl⟩)
        exact up_fresh (hfr x (hsub x hx)) (stride_sep hne)
      · refine up_below hB ?_
        rw [htop]; unfold stride; omega

theorem runOps_ob : ∀ {l : List Oper} {n : Nat} {m mf : St C} {ob obf : List Bool}, runOps C Γ N ops l n m ob = some (mf, obf) → ∀ b ∈ ob, b ∈ obf := by
  intro l
  induction l with
  | nil => intro n m mf ob obf h; simp only [runOps, Option.some.injEq, Prod.mk.injEq] at h; intro b hb; rw [← h.2]; exact hb
  | cons o l ih =>
    intro n m mf ob obf h b hb
    simp only [runOps] at h
    split at h
    · cases h
    · split at h
      · cases h
      · rename_i f _ m' _
        generalize hc : dstOk N o = q at h
        cases q with
        | false => simp at h
        | true => exact ih h b (List.mem_append_left _ hb)

theorem ops_wp (Kk : C.Ok) (G0 : GamOK C Γ) {ro : Option Nat} {kk : Nat} (hnd0 : noDefer ops = true) {Q : Exit → Act → World → Prop} {top : Nat} (htop : top = n0 + stride * ops.size) {mf : St C} {obf : List Bool} (hob : ∀ b ∈ obf, b = true)
    (hQ : ∀ ρ' U' a' w', Sim w0 O0 X N U' mf ρ' a' w' → Below U' top → Q .normal a' w') :
    ∀ {l : List Oper} {i : Nat} {ob : List Bool} {U : Nat → Prop} {m : St C} {ρ : Nat → Value} {a : Act} {w : World}, runOps C Γ N ops l (n0 + stride * i) m ob = some (mf, obf) → (∀ j, l[j]? = ops[i + j]?) → i + l.length = ops.size →
      Sim w0 O0 X N U m ρ a w → Below U (n0 + stride * i) → wpOpsIn (RF ro) kk C.P ops Q (List.range' i l.length) a w := by
  intro l
  induction l with
  | nil =>
    intro i ob U m ρ a w h _ hsz S hB
    simp only [runOps, Option.some.injEq, Prod.mk.injEq] at h
    simp only [List.length_nil, Nat.add_zero] at hsz
    subst hsz
    rw [h.1] at S
    simp only [List.length_nil, List.range'_zero, wpOpsIn]
    exact hQ ρ U a w S (by rw [htop]; exact hB)
  | cons o l ih =>
    intro i ob U m ρ a w h hl hsz S hB
    have hoi : ops[i]? = some o := by have := hl 0; simpa using this.symm
    simp only [runOps] at h
    split at h
    · cases h
    · rename_i f hf
      split at h
      · cases h
      · rename_i m' hm
        cases hd : dstOk N o with
        | false => rw [hd] at h; simp at h
        | true =>
          rw [hd] at h
          simp only [cond] at h
          rw [show n0 + stride * i + stride = n0 + stride * (i + 1) by rw [Nat.mul_add]; omega] at h
          have := operP_wp Kk G0 S (hB.fresh (Nat.le_refl _)) hd hf (fun b hb => hob b (runOps_ob h b (List.mem_append_right _ hb))) hm (K := wpOpsIn (RF ro) kk C.P ops Q (List.range' (i + 1) l.length)) (Q := Q)
            (fun ρ' v w' S' => ih h (fun j => by have := hl (j + 1); simpa [Nat.add_assoc, Nat.add_comm 1 j] using this) (by simp only [List.length_cons] at hsz; omega) S' (by
              rw [show n0 + stride * (i + 1) = n0 + stride * i + stride by rw [Nat.mul_add]; omega]
              exact up_below (fun k hk => Nat.lt_of_lt_of_le (hB k hk) (Nat.le_add_right _ _)) (Nat.le_refl _)))
          simp only [List.length_cons, List.range'_succ, wpOpsIn, hoi]
          split
          · rename_i hw; rw [if_pos hw] at this; exact oper_in (noDefer_at hnd0 hoi) (fun _ _ h => h) this
          · rename_i hw; rw [if_neg hw] at this; exact ⟨fun _ _ => trivial, this⟩

/-- A region. -/
theorem region_wp (Kk : C.Ok) (G0 : GamOK C Γ) {ro : Option Nat} {kk : Nat} (hnd0 : noDefer ops = true) {Q : Exit → Act → World → Prop} {id : Nat} {draw : Bool} {mf : St C} {ob : List Bool}
    (h : (bif draw then runAny C Γ N ops ops.toList n0 0 [] m [] else runOps C Γ N ops ops.toList n0 m []) = some (mf, ob)) (hob : ∀ b ∈ ob, b = true)
    (S : Sim w0 O0 X N U m ρ a w) (hB : Below U n0)
    (hQ : ∀ ρ' U' a' w', Sim w0 O0 X N U' mf ρ' a' w' → Below U' (n0 + stride * ops.size) → Q .normal a' w') : (Code.region id ops draw).wpIn (RF ro) kk C.P Q a w := by
  cases draw with
  | false =>
    simp only [cond] at h
    refine wpIn_region ?_
    have := ops_wp Kk G0 (ro := ro) (kk := kk) hnd0 (Q := Q) rfl hob hQ (i := 0) (l := ops.toList) (ob := []) (by simpa using h) (fun j => by simp) (by simp) S (by simpa using hB)
    simpa [List.range_eq_range'] using this
  | true =>
    simp only [cond] at h
    refine wpIn_region_any Kk.mixed ?_
    obtain ⟨L, q1, q2, _, q4, q5⟩ := any_chain (n0 := n0) (i := 0) (l := ops.toList) (ms := []) (ob := []) (by simpa using h) (fun j => by simp) rfl (fun k mk hk => by omega) hob
    have hlen : L.length = ops.size := by have := congrArg List.length q2; simpa using this
    have hL : ∀ x ∈ L, x.1 < ops.size := by
      intro x hx
      have : x.1 ∈ L.map (·.1) := List.mem_map.mpr ⟨x, hx, rfl⟩
      rw [q2] at this
      simp at this
      exact this
    refine any_wp Kk G0 hnd0 (top := n0 + stride * ops.size) rfl (fun m' ρ' U' a' w' hm' S' hB' => hQ ρ' U' a' w' (S'.look hm') hB') ops.size hlen q1 q4 (by rw [q2]; exact List.pairwise_lt_range') q5 (by simp) ?_ hL ?_ rfl (S.drew _) (fun x hx => hB.fresh (Nat.le_add_right _ _)) (fun k hk => Nat.lt_of_lt_of_le (hB k hk) (Nat.le_add_right _ _))
    · intro j hj
      rw [q2]
      simp [hj]
    · intro j hj
      exfalso
      by_cases hjs : j < ops.size
      · simp [hjs] at hj
      · simp [hjs] at hj
end Go.Sx

/- The symbolic executor: of two states one. -/
namespace Go.Sx
open Go
variable {C : Cfg} {w0 : World} {O0 : Frm} {X : Nat → Prop} {N : Nat} {U : Nat → Prop} {ρ : Nat → Value} {a : Act} {w : World} {O : Nat → Prop}

structure Env.Le (g g' : Env C) : Prop where
  e : ∀ id x, g.e.get id = some x → g'.e.get id = some x
  n : g.n ≤ g'.n
theorem Env.Le.refl (g : Env C) : g.Le g := ⟨fun _ _ h => h, Nat.le_refl _⟩
theorem Env.Le.trans {g g' g2 : Env C} (h : g.Le g') (h' : g'.Le g2) : g.Le g2 := ⟨fun id x hx => h'.e id x (h.e id x hx), Nat.le_trans h.n h'.n⟩

abbrev stOf (m : Loc) (g : Env C) : St C := ⟨m.s, g.e, m.b⟩
theorem Sim.more {m : Loc} {g g' : Env C} (S : Sim w0 O0 X N U (stOf m g) ρ a w) (h : g.Le g') : Sim w0 O0 X N U (stOf m g') ρ a w := by
  have hl : Later (C := C) U (stOf m g).e.get ρ w (Owns X (stOf m g) ρ) U (stOf m g').e.get ρ w (Owns X (stOf m g') ρ) := .of (fun _ h => h) h.e (fun _ _ => rfl) ⟨Nat.le_refl _, fun _ _ h => ⟨rfl, h⟩⟩
  exact S.next (m' := stOf m g') hl S.size S.defers (fun t s h => .inl ⟨h, rfl⟩) (fun k B h => .inl ⟨h, fun _ _ _ => rfl⟩) S.disj (fun _ h => .inl h) rfl rfl rfl (fun _ _ _ => rfl)

section cells
variable {c : Bool} {E : Tr (Ent C.R)} {e' : Nat → Option (Ent C.R)}

theorem mCell_rel {n : Nat} {x y z' : Cell} {en : List (Nat × Ent C.R)} (h : mCell C c E n x y = some (z', en)) (hen : ∀ p ∈ en, e' p.1 = some p.2) (hE : ∀ id x, E.get id = some x → e' id = some x) {v : Value}
    (r : CRel C U E.get ρ w O (bif c then x else y) v) : CRel C U e' ρ w O z' v := by
  have hl : Later (C := C) U E.get ρ w O U e' ρ w O := Later.ents (fun _ h => h) hE
  unfold mCell at h
  cases hs : sameCell x y with
  | true =>
    rw [hs] at h
    simp only [cond, Option.some.injEq, Prod.mk.injEq] at h
    have hxy := sameCell_eq hs
    have : (bif c then x else y) = x := by cases c <;> simp [hxy]
    rw [this] at r
    rw [← h.1]; exact hl.cell r
  | false =>
    rw [hs] at h
    simp only [cond] at h
    have hu : CRel C U e' ρ w O .u v := cell_cells r
    split at h
    · cases h
    · cases h
    · split at h
      · rename_i p q hp hq
        split at h
        · rename_i e he
          simp only [Option.some.injEq, Prod.mk.injEq] at h
          obtain ⟨h1, h2⟩ := iteEnt_rel he
          rw [← h.1]
          refine ⟨e, hen (n, e) (by rw [← h.2]; exact List.mem_cons_self ..), ?_⟩
          have key : ∀ {d : Cell} {p : Ent C.R}, (match d with | .k l => some l.ent | .v id => E.get id | _ => none) = some p → CRel C U E.get ρ w O d v → Rel C w O p v := by
            intro d p hd hr
            cases d with
            | k l => simp only [Option.some.injEq] at hd; rw [← hd, show v = l.val from hr]; exact Lit.rel l
            | v id =>
              obtain ⟨e2, h3, h4⟩ := hr
              simp only at hd
              rw [hd] at h3
              simp only [Option.some.injEq] at h3
              rw [h3]; exact h4
            | _ => simp at hd
          cases c with
          | true => rw [h1 rfl]; exact key hp r
          | false => rw [h2 rfl]; exact key hq r
        · simp only [Option.some.injEq, Prod.mk.injEq] at h
          rw [← h.1]; exact hu
      · simp only [Option.some.injEq, Prod.mk.injEq] at h
        rw [← h.1]; exact hu

theorem mCells_rel : ∀ {n n' : Nat} {xs ys zs : List Cell} {en : List (Nat × Ent C.R)}, mCells C c E n xs ys = some (zs, en, n') → xs.length = ys.length → (∀ p ∈ en, e' p.1 = some p.2) → (∀ id x, E.get id = some x → e' id = some x) →
    ∀ {vs : List Value}, CsRel C U E.get ρ w O (bif c then xs else ys) vs → CsRel C U e' ρ w O zs vs := by
  intro n n' xs
  induction xs generalizing n with
  | nil =>
    intro ys zs en h hl _ _ vs r
    cases ys with
    | cons _ _ => simp at hl
    | nil =>
      simp only [mCells, Option.some.injEq, Prod.mk.injEq] at h
      rw [← h.1]
      cases c <;> (cases r; exact .nil)
  | cons x xs ih =>
    intro ys zs en h hl hen hE vs r
    cases ys with
    | nil => simp at hl
    | cons y ys =>
      simp only [mCells] at h
      split at h
      · cases h
      · rename_i q en1 hq
        split at h
        · cases h
        · rename_i qs en2 n2 hqs
          simp only [Option.some.injEq, Prod.mk.injEq] at h
          obtain ⟨rfl, rfl, rfl⟩ := h
          have hcons : (bif c then x :: xs else y :: ys) = (bif c then x else y) :: (bif c then xs else ys) := by cases c <;> rfl
          rw [hcons] at r
          cases r with
          | cons r1 r2 =>
            exact .cons (mCell_rel hq (fun p hp => hen p (List.mem_append_left _ hp)) hE r1) (ih hqs (by simpa using hl) (fun p hp => hen p (List.mem_append_right _ hp)) hE r2)
theorem mCells_len : ∀ {n n' : Nat} {xs ys zs : List Cell} {en : List (Nat × Ent C.R)}, mCells C c E n xs ys = some (zs, en, n') → n ≤ n' := by
  intro n n' xs
  induction xs generalizing n with
  | nil => intro ys zs en h; simp only [mCells, Option.some.injEq, Prod.mk.injEq] at h; omega
  | cons x xs ih =>
    intro ys zs en h
    cases ys with
    | nil => simp only [mCells, Option.some.injEq, Prod.mk.injEq] at h; omega
    | cons y ys =>
      simp only [mCells] at h
      split at h
      · cases h
      · split at h
        · cases h
        · rename_i qs en2 n2 hqs
          simp only [Option.some.injEq, Prod.mk.injEq] at h
          obtain ⟨_, _, rfl⟩ := h
          have := ih hqs
          omega
theorem bifE {α : Type} {b : Bool} {p q r : α} (h : (bif b then p else q) = r) : (b = true ∧ p = r) ∨ (b = false ∧ q = r) := by
  cases b
  · exact .inr ⟨rfl, h⟩
  · exact .inl ⟨rfl, h⟩
end cells

theorem mTr_get {α β : Type} {f : Nat → α → α → Option (Option α × List β × Nat)} (hf : ∀ n a b q en n1, f n a b = some (q, en, n1) → n ≤ n1) : ∀ {x y t : Tr α} {n n' : Nat} {en : List β}, mTr f n x y = some (t, en, n') →
    n ≤ n' ∧ ∀ k s, t.get k = some s → ∃ a b n0 en0 n1, x.get k = some a ∧ y.get k = some b ∧ f n0 a b = some (some s, en0, n1) ∧ ∀ p ∈ en0, p ∈ en := by
  intro x
  induction x with
  | nil =>
    intro y t n n' en h
    simp only [mTr, Option.some.injEq, Prod.mk.injEq] at h
    obtain ⟨rfl, rfl, rfl⟩ := h
    exact ⟨Nat.le_refl _, fun k s hk => by cases hk⟩
  | node v l r ihl ihr =>
    intro y t n n' en h
    cases y with
    | nil =>
      simp only [mTr, Option.some.injEq, Prod.mk.injEq] at h
      obtain ⟨rfl, rfl, rfl⟩ := h
      exact ⟨Nat.le_refl _, fun k s hk => by cases hk⟩
    | node v' l' r' =>
      simp only [mTr] at h
      split at h
      · cases h
      · rename_i q en0 n1 hq
        split at h
        · cases h
        · rename_i l2 en2 n2 hl2
          split at h
          · cases h
          · rename_i r2 en3 n3 hr2
            simp only [Option.some.injEq, Prod.mk.injEq] at h
            obtain ⟨rfl, rfl, rfl⟩ := h
            obtain ⟨a1, a2⟩ := ihl hl2
            obtain ⟨b1, b2⟩ := ihr hr2
            have hq1 : n ≤ n1 := by
              split at hq
              · exact hf _ _ _ _ _ _ hq
              · simp only [Option.some.injEq, Prod.mk.injEq] at hq; omega
            refine ⟨by omega, fun k s hk => ?_⟩
            rw [Tr.get_node] at hk
            rw [Tr.get_node, Tr.get_node]
            by_cases h0 : k = 0
            · rw [if_pos h0] at hk
              rw [if_pos h0, if_pos h0]
              split at hq
              · rename_i a b
                rw [hk] at hq
                exact ⟨a, b, n, en0, n1, rfl, rfl, hq, fun p hp => List.mem_append_left _ (List.mem_append_left _ hp)⟩
              · simp only [Option.some.injEq, Prod.mk.injEq] at hq
                rw [← hq.1] at hk; cases hk
            · rw [if_neg h0] at hk
              rw [if_neg h0, if_neg h0]
              by_cases h1 : k % 2 = 1
              · rw [if_pos h1] at hk
                rw [if_pos h1, if_pos h1]
                obtain ⟨a, b, m0, e0, m1, p1, p2, p3, p4⟩ := a2 _ s hk
                exact ⟨a, b, m0, e0, m1, p1, p2, p3, fun p hp => List.mem_append_left _ (List.mem_append_right _ (p4 p hp))⟩
              · rw [if_neg h1] at hk
                rw [if_neg h1, if_neg h1]
                obtain ⟨a, b, m0, e0, m1, p1, p2, p3, p4⟩ := b2 _ s hk
                exact ⟨a, b, m0, e0, m1, p1, p2, p3, fun p hp => List.mem_append_right _ (p4 p hp)⟩

theorem exAll_iff {x y : Ex} (h : exAll x y = true) (E : Nat → Option (Ent C.R)) : ExT C E x ↔ ExT C E y := by
  simp only [exAll, Bool.and_eq_true] at h
  exact ⟨fun hx => exSub_exT h.2 hx, fun hx => exSub_exT h.1 hx⟩
theorem exSub_mem {x y : Ex} (h : exSub x y = true) : ∀ p ∈ x, p ∈ y := fun p hp => exHas_mem (List.all_eq_true.mp h p hp)

theorem mSlot_n {c : Bool} {E : Tr (Ent C.R)} : ∀ n a b q en n1, mSlot C c E n a b = some (q, en, n1) → n ≤ n1 := by
  intro n a b q en n1 h
  unfold mSlot at h
  rcases bifE h with ⟨_, h⟩ | ⟨_, h⟩
  · simp only [Option.some.injEq, Prod.mk.injEq] at h; omega
  · split at h
    · split at h
      · cases h
      · simp only [Option.some.injEq, Prod.mk.injEq] at h; omega
    · rcases bifE h with ⟨_, h⟩ | ⟨_, h⟩
      · split at h
        · cases h
        · rename_i hm
          simp only [Option.some.injEq, Prod.mk.injEq] at h
          have := mCells_len hm; omega
      · simp only [Option.some.injEq, Prod.mk.injEq] at h; omega
    · rcases bifE h with ⟨_, h⟩ | ⟨_, h⟩ <;> (simp only [Option.some.injEq, Prod.mk.injEq] at h; omega)
    · simp only [Option.some.injEq, Prod.mk.injEq] at h; omega
theorem mBlk_n {c : Bool} {E : Tr (Ent C.R)} : ∀ n a b q en n1, mBlk C c E n a b = some (q, en, n1) → n ≤ n1 := by
  intro n a b q en n1 h
  unfold mBlk at h
  split at h
  · rcases bifE h with ⟨_, h⟩ | ⟨_, h⟩
    · split at h
      · cases h
      · rename_i hm
        simp only [Option.some.injEq, Prod.mk.injEq] at h
        have := mCells_len hm; omega
    · simp only [Option.some.injEq, Prod.mk.injEq] at h; omega
  · rcases bifE h with ⟨_, h⟩ | ⟨_, h⟩
    · simp only [Option.some.injEq, Prod.mk.injEq] at h; omega
    · split at h
      · split at h
        · rcases bifE h with ⟨_, h⟩ | ⟨_, h⟩ <;> (simp only [Option.some.injEq, Prod.mk.injEq] at h; omega)
        · simp only [Option.some.injEq, Prod.mk.injEq] at h; omega
      · simp only [Option.some.injEq, Prod.mk.injEq] at h; omega
  · rcases bifE h with ⟨_, h⟩ | ⟨_, h⟩ <;> (simp only [Option.some.injEq, Prod.mk.injEq] at h; omega)
  · simp only [Option.some.injEq, Prod.mk.injEq] at h; omega

/-- The slot that is merged says what the one that is meant says. -/
theorem mSlot_rel {c : Bool} {E : Tr (Ent C.R)} {e' : Nat → Option (Ent C.R)} {n n' : Nat} {x y s : Slot} {en : List (Nat × Ent C.R)} (h : mSlot C c E n x y = some (some s, en, n')) (hen : ∀ p ∈ en, e' p.1 = some p.2)
    (hE : ∀ id x, E.get id = some x → e' id = some x) {k : Slot} (hk : k = bif c then x else y) :
    (∀ p ∈ s.ex, p ∈ k.ex) ∧ (ExT C E.get s.ex ↔ ExT C E.get k.ex) ∧ ∀ v, SRel C U E.get ρ w O k.v v → SRel C U e' ρ w O s.v v := by
  have hl : Later (C := C) U E.get ρ w O U e' ρ w O := Later.ents (fun _ h => h) hE
  unfold mSlot at h
  rcases bifE h with ⟨_, h⟩ | ⟨hx, h⟩
  · simp at h
  · have hex : exAll x.ex y.ex = true := by simpa using hx
    have hsub : ∀ p ∈ x.ex, p ∈ k.ex := by
      rw [hk]
      cases c with
      | true => exact fun p hp => hp
      | false => simp only [exAll, Bool.and_eq_true] at hex; exact exSub_mem hex.1
    have hiff : ExT C E.get x.ex ↔ ExT C E.get k.ex := by
      rw [hk]
      cases c with
      | true => exact Iff.rfl
      | false => exact exAll_iff hex _
    split at h
    · rename_i p q hp hq
      split at h
      · cases h
      · rename_i z1 en1 hm
        simp only [Option.some.injEq, Prod.mk.injEq] at h
        obtain ⟨rfl, rfl, rfl⟩ := h
        refine ⟨hsub, hiff, fun v hv => ?_⟩
        have : k.v = .c (bif c then p else q) := by rw [hk]; cases c <;> assumption
        rw [this] at hv
        exact mCell_rel hm hen hE hv
    · rename_i ps qs hp hq
      rcases bifE h with ⟨hlen, h⟩ | ⟨_, h⟩
      · split at h
        · cases h
        · rename_i zs en1 n1 hm
          simp only [Option.some.injEq, Prod.mk.injEq] at h
          obtain ⟨rfl, rfl, rfl⟩ := h
          refine ⟨hsub, hiff, fun v hv => ?_⟩
          have : k.v = .g (bif c then ps else qs) := by rw [hk]; cases c <;> assumption
          rw [this] at hv
          obtain ⟨vs, h1, h2⟩ := hv
          exact ⟨vs, h1, mCells_rel hm (Nat.beq_eq.mp hlen) hen hE h2⟩
      · simp at h
    · rename_i l t i o l' t' i' o' hp hq
      rcases bifE h with ⟨hb, h⟩ | ⟨_, h⟩
      · simp only [Option.some.injEq, Prod.mk.injEq] at h
        obtain ⟨rfl, rfl, rfl⟩ := h
        simp only [Bool.and_eq_true] at hb
        obtain ⟨⟨⟨b1, b2⟩, b3⟩, b4⟩ := hb
        have e1 := sameCell_eq b1
        have e2 := Nat.beq_eq.mp b2
        have e3 := sameCell_eq b3
        have e4 := Nat.beq_eq.mp b4
        refine ⟨hsub, hiff, fun v hv => ?_⟩
        have : k.v = x.v := by rw [hk]; cases c <;> simp [hp, hq, e1, e2, e3, e4]
        rw [this] at hv
        exact hl.sv hv
      · simp at h
    · simp at h

theorem mBlk_rel {c : Bool} {E : Tr (Ent C.R)} {e' : Nat → Option (Ent C.R)} {n n' nm : Nat} {x y B : Blk} {en : List (Nat × Ent C.R)} (h : mBlk C c E n x y = some (some B, en, n')) (hen : ∀ p ∈ en, e' p.1 = some p.2)
    (hE : ∀ id x, E.get id = some x → e' id = some x) (hU : U nm) {k : Blk} (hk : k = bif c then x else y) :
    B.owned = k.owned ∧ (BRel C U E.get ρ w O nm k → BRel C U e' ρ w O nm B) := by
  have hl : Later (C := C) U E.get ρ w O U e' ρ w O := Later.ents (fun _ h => h) hE
  unfold mBlk at h
  split at h
  · rename_i T ps T' qs
    rcases bifE h with ⟨hb, h⟩ | ⟨_, h⟩
    · simp only [Bool.and_eq_true] at hb
      have e1 := Nat.beq_eq.mp hb.1
      have e2 := Nat.beq_eq.mp hb.2
      split at h
      · cases h
      · rename_i zs en1 n1 hm
        simp only [Option.some.injEq, Prod.mk.injEq] at h
        obtain ⟨rfl, rfl, rfl⟩ := h
        have : k = .c T (bif c then ps else qs) := by rw [hk]; cases c <;> simp [e1]
        subst this
        refine ⟨rfl, ?_⟩
        rintro ⟨b, vs, h1, h2, h3⟩
        exact ⟨b, vs, h1, h2, mCells_rel hm e2 hen hE h3⟩
    · simp at h
  · rename_i t i t' i'
    rcases bifE h with ⟨hb, h⟩ | ⟨_, h⟩
    · simp only [Option.some.injEq, Prod.mk.injEq] at h
      obtain ⟨rfl, rfl, rfl⟩ := h
      simp only [Bool.and_eq_true] at hb
      have e1 := Nat.beq_eq.mp hb.1
      have e2 := Nat.beq_eq.mp hb.2
      have : k = .l t i := by rw [hk]; cases c <;> simp [e1, e2]
      subst this
      exact ⟨rfl, fun r => hl.blk hU (fun _ _ _ => rfl) r⟩
    · split at h
      · rename_i p q hp hq
        split at h
        · rename_i e he
          rcases bifE h with ⟨hb, h⟩ | ⟨_, h⟩
          · simp only [Option.some.injEq, Prod.mk.injEq] at h
            obtain ⟨rfl, rfl, rfl⟩ := h
            have e1 := Nat.beq_eq.mp hb
            have : k = .l t (bif c then i else i') := by rw [hk]; cases c <;> simp [e1]
            subst this
            refine ⟨rfl, fun r => ?_⟩
            have := hl.blk hU (fun _ _ _ => rfl) r
            obtain ⟨xs, vals, h1, h2, h3⟩ := this
            obtain ⟨xs', vals', h1', _, _⟩ := r
            have h1'' := hE _ _ h1'
            rw [h1''] at h1
            have hne : e' n = some e := hen (n, e) (List.mem_cons_self ..)
            obtain ⟨g1, g2⟩ := iteEnt_rel he
            have hee : e = .ro t xs := by
              cases c with
              | true =>
                rw [g1 rfl]
                simp only [cond] at h1'
                rw [hp] at h1'
                rw [Option.some.inj h1', Option.some.inj h1]
              | false =>
                rw [g2 rfl]
                simp only [cond] at h1'
                rw [hq] at h1'
                rw [Option.some.inj h1', Option.some.inj h1]
            exact ⟨xs, vals, by rw [hne, hee], h2, h3⟩
          · simp at h
        · simp at h
      · simp at h
  · rename_i t i t' i'
    rcases bifE h with ⟨hb, h⟩ | ⟨_, h⟩
    · simp only [Option.some.injEq, Prod.mk.injEq] at h
      obtain ⟨rfl, rfl, rfl⟩ := h
      simp only [Bool.and_eq_true] at hb
      have e1 := Nat.beq_eq.mp hb.1
      have e2 := Nat.beq_eq.mp hb.2
      have : k = .f t i := by rw [hk]; cases c <;> simp [e1, e2]
      subst this
      exact ⟨rfl, fun r => hl.blk hU (fun _ _ _ => rfl) r⟩
    · simp at h
  · simp at h

/-- Of two states one. -/
theorem mLoc_sim {c : Bool} {g g2 : Env C} {x y m2 : Loc} (h : mLoc C c g x y = some (m2, g2)) :
    g.Le g2 ∧ ∀ {w0 O0 X U ρ a w}, Sim w0 O0 X N U (stOf (bif c then x else y) g) ρ a w → Sim w0 O0 X N U (stOf m2 g2) ρ a w := by
  unfold mLoc at h
  split at h
  · cases h
  · rename_i s en n hs
    split at h
    · cases h
    · rename_i b en' n' hb
      split at h
      · cases h
      · rename_i e he
        simp only [Option.some.injEq, Prod.mk.injEq] at h
        obtain ⟨rfl, rfl⟩ := h
        obtain ⟨s1, s2⟩ := mTr_get mSlot_n hs
        obtain ⟨b1, b2⟩ := mTr_get mBlk_n hb
        obtain ⟨e1, e2⟩ := setE_get _ _ _ he
        have hg : g.Le ⟨e, n'⟩ := ⟨e1, by show g.n ≤ n'; omega⟩
        refine ⟨hg, ?_⟩
        intro w0 O0 X U ρ a w S
        have hblk : ∀ nm B, b.get nm = some B → ∃ k, (stOf (bif c then x else y) g).b.get nm = some k ∧ U nm ∧ B.owned = k.owned ∧
            (∀ O, BRel C U g.e.get ρ w O nm k → BRel C U e.get ρ w O nm B) := by
          intro nm B hB
          obtain ⟨p, q, n1, en1, n2, h1, h2, h3, h4⟩ := b2 nm B hB
          have hk : (stOf (bif c then x else y) g).b.get nm = some (bif c then p else q) := by cases c <;> assumption
          have hu := (S.blocks nm _ hk).1
          have hr := fun O => mBlk_rel (ρ := ρ) (w := w) (O := O) h3 (fun p hp => e2 p (List.mem_append_right _ (h4 p hp))) e1 hu rfl
          exact ⟨_, hk, hu, (hr (fun _ => False)).1, fun O => (hr O).2⟩
        have hown : ∀ b', OwnN (stOf ⟨s, b⟩ ⟨e, n'⟩) ρ b' → OwnN (stOf (bif c then x else y) g) ρ b' := by
          rintro b' ⟨nm, B, h1, h2, h3⟩
          obtain ⟨k, h4, _, h5, _⟩ := hblk nm B h1
          exact ⟨nm, k, h4, by rw [← h5]; exact h2, h3⟩
        have hst : ∀ b', Owns X (stOf ⟨s, b⟩ ⟨e, n'⟩) ρ b' → Owns X (stOf (bif c then x else y) g) ρ b' := fun b' h => h.imp id (hown b')
        have hl : Later (C := C) U (stOf (bif c then x else y) g).e.get ρ w (Owns X (stOf (bif c then x else y) g) ρ) U (stOf ⟨s, b⟩ ⟨e, n'⟩).e.get ρ w (Owns X (stOf ⟨s, b⟩ ⟨e, n'⟩) ρ) :=
          .of (fun _ h => h) e1 (fun _ _ => rfl) ⟨Nat.le_refl _, fun b' _ h => ⟨rfl, fun h' => h (hst b' h')⟩⟩
        have hl2 : Later (C := C) U e.get ρ w (Owns X (stOf (bif c then x else y) g) ρ) U e.get ρ w (Owns X (stOf ⟨s, b⟩ ⟨e, n'⟩) ρ) :=
          .of (fun _ h => h) (fun _ _ h => h) (fun _ _ => rfl) ⟨Nat.le_refl _, fun b' _ h => ⟨rfl, fun h' => h (hst b' h')⟩⟩
        refine S.next (m' := stOf ⟨s, b⟩ ⟨e, n'⟩) hl S.size S.defers ?_ ?_ ?_ (fun b' h => .inl (hown b' h)) rfl rfl rfl (fun _ _ _ => rfl)
        · intro t sl ht
          obtain ⟨p, q, n1, en1, n2, h1, h2, h3, h4⟩ := s2 t sl ht
          have hk : (stOf (bif c then x else y) g).s.get t = some (bif c then p else q) := by cases c <;> assumption
          obtain ⟨r1, r2, r3⟩ := mSlot_rel (U := U) (ρ := ρ) (w := w) (O := Owns X (stOf (bif c then x else y) g) ρ) h3 (fun p hp => e2 p (List.mem_append_left _ (h4 p hp))) e1 rfl
          have hexd := S.exdef t _ hk
          refine .inr ⟨fun p hp => ?_, fun hx => ?_, fun hx => ?_⟩
          · obtain ⟨v, hv⟩ := hexd p (r1 p hp); exact ⟨v, e1 _ _ hv⟩
          · have hx' : ExT C g.e.get sl.ex := hl.exT (fun p hp => hexd p (r1 p hp)) hx
            obtain ⟨v, h5, h6⟩ := S.slots t _ hk (r2.mp hx')
            exact ⟨v, h5, hl2.sv (r3 v h6)⟩
          · exact S.skips t _ hk (fun h' => hx (hl.exT' (r2.mpr h')))
        · intro nm B hB
          obtain ⟨k, h4, hu, h5, h6⟩ := hblk nm B hB
          exact .inr ⟨hu, hl2.blk hu (fun _ _ _ => rfl) (h6 _ (S.blocks nm k h4).2)⟩
        · intro nm nm' B B' b' h1 h2 o1 o2 h3 h4
          obtain ⟨k, h5, _, h6, _⟩ := hblk nm B h1
          obtain ⟨k', h5', _, h6', _⟩ := hblk nm' B' h2
          exact S.disj nm nm' k k' b' h5 h5' (by rw [← h6]; exact o1) (by rw [← h6']; exact o2) h3 h4
end Go.Sx
