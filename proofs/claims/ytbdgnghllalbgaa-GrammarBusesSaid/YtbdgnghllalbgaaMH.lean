/- Contracts: GrammarBuses. -/
import Derived.Test.YtbdgnghllalbgaaMG
namespace Go.Proofs.Ytbdgnghllalbgaa
open Go Go.Sx
set_option maxRecDepth 100000
set_option maxHeartbeats 4000000
theorem en14' : Sx.Enters cfg.P 14 := Sx.enters_of (fn := Try.f14) (by kernel_rfl) (by kernel_rfl) (by kernel_rfl)
theorem en15' : Sx.Enters cfg.P 15 := Sx.enters_of (fn := Try.f15) (by kernel_rfl) (by kernel_rfl) (by kernel_rfl)
theorem en16' : Sx.Enters cfg.P 16 := Sx.enters_of (fn := Try.f16) (by kernel_rfl) (by kernel_rfl) (by kernel_rfl)
theorem en17' : Sx.Enters cfg.P 17 := Sx.enters_of (fn := Try.f17) (by kernel_rfl) (by kernel_rfl) (by kernel_rfl)
theorem en18' : Sx.Enters cfg.P 18 := Sx.enters_of (fn := Try.f18) (by kernel_rfl) (by kernel_rfl) (by kernel_rfl)
theorem en19' : Sx.Enters cfg.P 19 := Sx.enters_of (fn := Try.f19) (by kernel_rfl) (by kernel_rfl) (by kernel_rfl)
noncomputable def G5 : Nat → Option (FSum cfg) := gamL [(8, S8), (11, S11), (13, S13), (14, S14), (15, S15), (16, S16), (17, S17), (18, S18), (19, S33)]
theorem g5 : GamOK cfg G5 := gamL_cons en8 ok8 (gamL_cons en11 ok11 (gamL_cons en13' ok13 (gamL_cons en14' ok14 (gamL_cons en15' ok15 (gamL_cons en16' ok16 (gamL_cons en17' ok17 (gamL_cons en18' ok18 (gamL_cons en19' ok19 gamL_nil))))))))
def A5_0 : LAnn := { n := 1000000, s := [(7, ⟨[], .c (.p 6146 0)⟩), (43, ⟨[], .c (.v 10498)⟩), (8, ⟨[], .c (.v 8194)⟩)], b := [(6146, .c 42 [.v 3842, .v 4354, .v 4866, .v 5634])], ids := [(3842, kI), (4354, .i .u16), (4866, .i .u8), (5634, kI), (8194, .ro 2), (10498, kI)], ps := [.s 44], ks := [kI] }
def badA5 (p : List Pns) (a i : Int) : Bool := (p.getD i.toNat pz).ad != a
def badB5 (p : List Pns) (a i : Int) : Bool := bif badA5 p a i then true else (p.getD i.toNat pz).st != IntKind.i64.wrap (i + 1)
def badC5 (p : List Pns) (a i : Int) : Bool := bif badB5 p a i then true else (p.getD i.toNat pz).flt
def bad5 (p : List Pns) (a i : Int) : Bool := bif badC5 p a i then true else (p.getD i.toNat pz).hlda
def ob5 (p : List Pns) (a i : Int) : List Bool :=
  let x2 := decide (0 ≤ i)
  let x3 := decide (i < (p.length : Int))
  [x2, x3, bif !badA5 p a i && true then x2 else true, bif !badA5 p a i && true then x3 else true, bif !badB5 p a i && true then x2 else true, bif !badB5 p a i && true then x3 else true, bif !badC5 p a i && true then x2 else true, bif !badC5 p a i && true then x3 else true]
theorem ob5_ok {p : List Pns} {a i : Int} (h0 : 0 ≤ i) (h1 : i < (p.length : Int)) : allT (ob5 p a i) := by
  have e0 : decide (0 ≤ i) = true := decide_eq_true h0
  have e1 : decide (i < (p.length : Int)) = true := decide_eq_true h1
  unfold ob5
  simp only [allT_cons, allT_nil, and_true]
  exact ⟨e0, e1, cond_all e0 rfl, cond_all e1 rfl, cond_all e0 rfl, cond_all e1 rfl, cond_all e0 rfl, cond_all e1 rfl⟩
abbrev K5_0 := Int × Int × Int × Int × (List Pns) × Int × Unit
abbrev T5_0 := Int × Unit
def step5_0 (a : Int) (p : List Pns) (m : Int) (i : Int) : Option T5_0 := bif decide (i < m) then (bif bad5 p a i then none else some (IntKind.i64.wrap (i + 1), ())) else none
def I5_0 (a : Int) (p : List Pns) (m : Int) (i : Int) : Prop := m = p.length ∧ p.length ≤ topLen ∧ 0 ≤ i ∧ i ≤ m ∧ ∀ j : Int, 0 ≤ j → j < m → bad5 p a j = false
def mu5_0 (a : Int) (p : List Pns) (m : Int) (i : Int) : Nat := (m - i).toNat
def tree5_0 (a : Int) (p : List Pns) (m : Int) (i : Int) : RR cfg := .br (decide (i < m)) (.br (bad5 p a i) (.stop (ob5 p a i)) (.next (ob5 p a i) [.i .i64 (IntKind.i64.wrap (i + 1))])) (.stop [])
noncomputable def E5_0 : Sx.Loc → Env cfg → Option (Out × Env cfg) := stepL (G5) (fun _ => none) Try.f5.ntmps 0 (bodyOf Try.f5 0) A5_0 (fun (κ : K5_0) (σ : T5_0) => I5_0 κ.2.1 κ.2.2.2.2.1 κ.2.2.2.2.2.1 σ.1) (fun (κ : K5_0) (σ : T5_0) => step5_0 κ.2.1 κ.2.2.2.2.1 κ.2.2.2.2.2.1 σ.1) (fun (κ : K5_0) (σ : T5_0) => mu5_0 κ.2.1 κ.2.2.2.2.1 κ.2.2.2.2.2.1 σ.1)
theorem rd5_0 {a p m i} (hI : I5_0 a p m i) : (tree5_0 a p m i).ok ((step5_0 a p m i).map fun σ => [.i .i64 σ.1]) := by
  obtain ⟨h1, h2, h3, h4, h5⟩ := hI
  simp only [tree5_0, RR.ok, step5_0, allT_nil, decide_eq_true_eq, decide_eq_false_iff_not]
  refine ⟨fun hi => ?_, fun hi => ⟨by rw [decide_eq_false hi]; rfl, trivial⟩⟩
  rw [decide_eq_true hi, h5 i h3 hi]
  exact ⟨fun h => (by cases h), fun _ => ⟨rfl, ob5_ok h3 (by omega)⟩⟩
theorem plain5_0 {a p m i} (hI : I5_0 a p m i) : ∀ σ', step5_0 a p m i = some σ' → I5_0 a p m σ'.1 ∧ mu5_0 a p m σ'.1 < mu5_0 a p m i := by
  obtain ⟨h1, h2, h3, h4, h5⟩ := hI
  intro σ' h
  unfold step5_0 at h
  by_cases hi : i < m
  · rw [wrap_next (by unfold topLen at h2; omega) h3, decide_eq_true hi, cond, h5 i h3 hi, cond, Option.some.injEq] at h
    subst h
    exact ⟨⟨h1, h2, by simp only; omega, by simp only; omega, h5⟩, by simp only [mu5_0]; omega⟩
  · rw [decide_eq_false hi, cond] at h; cases h
theorem out5_0 : ∀ m g r, E5_0 m g = some r → OutOK cfg Try.f5.ntmps (stmtFn Try.f5 0) m g r := fun m g r h => stmt_loop (by kernel_rfl) (
  stepL_ok (A := A5_0) (I := fun (κ : K5_0) (σ : T5_0) => I5_0 κ.2.1 κ.2.2.2.2.1 κ.2.2.2.2.2.1 σ.1) (step := fun (κ : K5_0) (σ : T5_0) => step5_0 κ.2.1 κ.2.2.2.2.1 κ.2.2.2.2.2.1 σ.1) (μ := fun (κ : K5_0) (σ : T5_0) => mu5_0 κ.2.1 κ.2.2.2.2.1 κ.2.2.2.2.2.1 σ.1) cfg_ok g5 loops_none
    (fun κ σ hI => plain5_0 hI) (tree := fun (κ : K5_0) (σ : T5_0) => tree5_0 κ.2.1 κ.2.2.2.2.1 κ.2.2.2.2.2.1 σ.1) (fun κ σ => by kernel_rfl) (fun κ σ hI => rd5_0 hI) m g r h)
noncomputable def fin5_0 (a : Int) (p : List Pns) (m : Int) (σ : T5_0) : T5_0 := stepFin (fun (σ : T5_0) => step5_0 a p m σ.1) (fun (σ : T5_0) => mu5_0 a p m σ.1) σ
theorem fin5_0_end (a : Int) (p : List Pns) (m : Int) {σ : T5_0} (h : I5_0 a p m σ.1) : step5_0 a p m (fin5_0 a p m σ).1 = none ∧ I5_0 a p m (fin5_0 a p m σ).1 := stepFin_end (I := fun (σ : T5_0) => I5_0 a p m σ.1) (fun _ hI => plain5_0 hI) h
theorem fin5_0_eq (a : Int) (p : List Pns) (m : Int) {G : T5_0 → T5_0} (hs : ∀ σ : T5_0, I5_0 a p m σ.1 → step5_0 a p m σ.1 = none → G σ = σ) (hn : ∀ σ : T5_0, I5_0 a p m σ.1 → ∀ σ', step5_0 a p m σ.1 = some σ' → G σ' = G σ) {σ : T5_0} (h : I5_0 a p m σ.1) : fin5_0 a p m σ = G σ := stepFin_eq (I := fun (σ : T5_0) => I5_0 a p m σ.1) (fun _ hI => plain5_0 hI) hs hn h
def ib5 (ck a d st : Int) : Itm := { kind := 1, ck := ck, at' := a, data := d, states := st, waits := 0, n := st, inte := false, sod := false }
noncomputable def tree_5 (n : List Int) (c : Int) : RT cfg :=
  let x0 := inc 0
  let x2 := inc (inc x0)
  let x4 := inc x2
  let a := wordF n x0
  let d := byteMk n x2
  let ck := IntKind.i64.wrap (1 + nextF n 0 12)
  let st := IntKind.i64.wrap (3 + nextF n x4 4)
  let p := expandP (IntKind.i64.wrap (1 + placeF c 2)) [ib5 ck a d st]
  let i := (fin5_0 a p p.length (0, ())).1
  let x16 := bif readsR ck then true else writesF ck
  let x17 := x16 && true
  let x11 := decide ((0 : Int) ≤ 2)
  let x27 := decide (2 < (p.length : Int))
  let x18 := bif x17 then x11 else true
  let x28 := bif x17 then x27 else true
  let x23 := p.getD (Int.toNat 2) pz
  let x24 := bif x16 then x23.da != d else false
  let o1 := [dec (okPlace 2), dec (okK 0 ∧ okPlace 12), dec (okN x0 2), dec (okN x2 1), dec (okK x4 ∧ okPlace 4), decide ([ib5 ck a d st].length ≤ topLen), decide (p.length ≤ mostLen)]
  let o2 := dec (I5_0 a p p.length 0)
  .br (decide ((n.length : Int) > 60)) (.ret [] [[.b true]]) (.br ((p.length : Int) != st) (.ret o1 [[.b false]])
    (.br (decide (i < (p.length : Int))) (.br (bad5 p a i) (.ret (o1 ++ o2 :: ob5 p a i) [[.b false]]) .fail)
      (.ret (o1 ++ o2 :: [bif x24 then x18 else true, bif x24 then x28 else true, bif x24 then true else x18, bif x24 then true else x28, bif x24 then true else x11, bif x24 then true else x27]) [[.b (bif x24 then false else bif x23.wr == writesF ck then true else false)]])))
theorem states5 {ck a d st : Int} (h1 : 3 ≤ st) (h2 : st ≤ 6) : statesF (ib5 ck a d st) = (List.range st.toNat).map fun (j : Nat) => (j : Int) + 1 := by
  have h3 : st = 3 ∨ st = 4 ∨ st = 5 ∨ st = 6 := by omega
  rcases h3 with rfl | rfl | rfl | rfl <;> rfl
theorem pins5 {c ck a d st : Int} (h1 : 3 ≤ st) (h2 : st ≤ 6) : expandP c [ib5 ck a d st] = (List.range st.toNat).map fun (j : Nat) => pin12 c ck a d false false ((j : Int) + 1) := by
  rw [expand_eq]
  unfold expandR expandI
  rw [List.flatMap_cons, List.flatMap_nil, List.append_nil, states5 h1 h2, List.map_map]
  rfl
theorem at5 {c ck a d st : Int} (h1 : 3 ≤ st) (h2 : st ≤ 6) {j : Int} (h3 : 0 ≤ j) (h4 : j < st) : (expandP c [ib5 ck a d st]).getD j.toNat pz = pin12 c ck a d false false (j + 1) := by
  rw [pins5 h1 h2, List.getD_eq_getElem?_getD, List.getElem?_map, List.getElem?_range (by omega)]
  show pin12 c ck a d false false ((j.toNat : Int) + 1) = _
  rw [show (j.toNat : Int) = j by omega]
theorem good5 (c ck a d : Int) {s : Int} (h1 : 1 ≤ s) (h2 : s ≤ 6) : (pin12 c ck a d false false s).ad = a ∧ (pin12 c ck a d false false s).st = s ∧ (pin12 c ck a d false false s).flt = false ∧ (pin12 c ck a d false false s).hlda = false := by
  have hs : s = 1 ∨ s = 2 ∨ s = 3 ∨ s = 4 ∨ s = 5 ∨ s = 6 := by omega
  rcases hs with rfl | rfl | rfl | rfl | rfl | rfl <;> exact ⟨rfl, rfl, rfl, rfl⟩
theorem mid5 (c ck a d : Int) : (pin12 c ck a d false false 3).wr = writesF ck ∧ (readsR ck = true ∨ writesF ck = true → (pin12 c ck a d false false 3).da = d) := by
  unfold pin12 refPins
  generalize on85F c = on
  generalize readsR ck = rd
  generalize writesF ck = wr
  generalize (ck != 11) = k11
  generalize (ck != 12) = k12
  cases on <;> cases rd <;> cases wr <;> cases k11 <;> cases k12 <;> first | exact ⟨rfl, fun _ => rfl⟩ | exact ⟨rfl, fun h => by rcases h with h | h <;> cases h⟩
theorem bad5_no {c ck a d st : Int} (h1 : 3 ≤ st) (h2 : st ≤ 6) {j : Int} (h3 : 0 ≤ j) (h4 : j < st) : bad5 (expandP c [ib5 ck a d st]) a j = false := by
  obtain ⟨g1, g2, g3, g4⟩ := good5 c ck a d (s := j + 1) (by omega) (by omega)
  unfold bad5 badC5 badB5 badA5
  rw [at5 h1 h2 h3 h4, g1, g2, g3, g4, wrap_i64 (by omega) (by omega)]
  simp
theorem ret5 {n : List Int} {c : Int} : (tree_5 n c).ok [[.b true]] := by
  obtain ⟨r1, r2⟩ := nextF_range n 0 (n := 12) ⟨by decide, by decide⟩
  obtain ⟨q1, q2⟩ := nextF_range n (inc (inc (inc (inc 0)))) (n := 4) ⟨by decide, by decide⟩
  have hst : IntKind.i64.wrap (3 + nextF n (inc (inc (inc (inc 0)))) 4) = 3 + nextF n (inc (inc (inc (inc 0)))) 4 := wrap_i64 (by omega) (by omega)
  unfold tree_5
  simp only [hst]
  generalize wordF n (inc 0) = a
  generalize byteMk n (inc (inc (inc 0))) = d
  generalize IntKind.i64.wrap (1 + nextF n 0 12) = ck
  generalize hs : 3 + nextF n (inc (inc (inc (inc 0)))) 4 = st
  generalize IntKind.i64.wrap (1 + placeF c 2) = c'
  have s1 : 3 ≤ st := by omega
  have s2 : st ≤ 6 := by omega
  have hlen : ((expandP c' [ib5 ck a d st]).length : Int) = st := by rw [pins5 s1 s2, List.length_map, List.length_range]; omega
  have h0 : I5_0 a (expandP c' [ib5 ck a d st]) (expandP c' [ib5 ck a d st]).length 0 := ⟨rfl, by unfold topLen; omega, Int.le_refl _, by omega, fun j j0 j1 => bad5_no s1 s2 j0 (by omega)⟩
  obtain ⟨e, k1, k2, k3, k4, k5⟩ := fin5_0_end a (expandP c' [ib5 ck a d st]) (expandP c' [ib5 ck a d st]).length (σ := (0, ())) h0
  have hat : (expandP c' [ib5 ck a d st]).getD (Int.toNat 2) pz = pin12 c' ck a d false false 3 := at5 s1 s2 (j := 2) (by omega) (by omega)
  obtain ⟨m1, m2⟩ := mid5 c' ck a d
  generalize fin5_0 a (expandP c' [ib5 ck a d st]) (expandP c' [ib5 ck a d st]).length (0, ()) = f at e k1 k2 k3 k4 k5 ⊢
  have hx : (bif (bif readsR ck then true else writesF ck) then (pin12 c' ck a d false false 3).da != d else false) = false := by
    cases hr : readsR ck with
    | true => rw [m2 (.inl hr)]; simp
    | false => cases hw : writesF ck with
      | true => rw [m2 (.inr hw)]; simp
      | false => rfl
  have o1 : allT [dec (okPlace 2), dec (okK 0 ∧ okPlace 12), dec (okN (inc 0) 2), dec (okN (inc (inc (inc 0))) 1), dec (okK (inc (inc (inc (inc 0)))) ∧ okPlace 4), decide ([ib5 ck a d st].length ≤ topLen), decide ((expandP c' [ib5 ck a d st]).length ≤ mostLen)] := by
    simp only [allT_cons, allT_nil, dec_iff, decide_eq_true_eq, and_true]
    refine ⟨⟨by decide, by decide⟩, ⟨⟨by decide, by decide⟩, by decide, by decide⟩, ⟨by decide, by decide⟩, ⟨by decide, by decide⟩, ⟨⟨by decide, by decide⟩, by decide, by decide⟩, by simp [topLen], by unfold mostLen; omega⟩
  refine ⟨fun _ => ⟨rfl, by simp [allT]⟩, fun _ => ⟨fun h => ?_, fun _ => ⟨fun h => ?_, fun _ => ?_⟩⟩⟩
  · rw [hlen] at h; simp at h
  · have h' := of_decide_eq_true h
    unfold step5_0 at e
    rw [decide_eq_true h', cond, k5 _ k3 h', cond] at e
    cases e
  · rw [hat, hx, m1]
    have t27 : decide (2 < ((expandP c' [ib5 ck a d st]).length : Int)) = true := decide_eq_true (by omega)
    have t18 : (bif ((bif readsR ck then true else writesF ck) && true) then decide ((0 : Int) ≤ 2) else true) = true := cond_all rfl rfl
    have t28 : (bif ((bif readsR ck then true else writesF ck) && true) then decide (2 < ((expandP c' [ib5 ck a d st]).length : Int)) else true) = true := cond_all t27 rfl
    exact ⟨by simp, allT_app.mpr ⟨o1, allT_cons.mpr ⟨dec_iff.mpr h0, allT_cons.mpr ⟨rfl, allT_cons.mpr ⟨rfl, allT_cons.mpr ⟨t18, allT_cons.mpr ⟨t28, allT_cons.mpr ⟨rfl, allT_cons.mpr ⟨t27, allT_nil.mpr trivial⟩⟩⟩⟩⟩⟩⟩⟩⟩
theorem lok5 : ∀ p ∈ [(0, E5_0)], ∀ m g r, p.2 m g = some r → OutOK cfg Try.f5.ntmps (stmtFn Try.f5 p.1) m g r := by
  intro p hp
  simp only [List.mem_singleton] at hp
  subst hp
  exact out5_0
noncomputable def S5 : FSum cfg := FSum.of [.v false [.ro 0], .v false [kI]] [.v false [kB]] (fun _ => []) (fun _ => ((true, ()), ()))
theorem ok5 : FnOK cfg 5 S5 :=
  fn_loops (l := [(0, E5_0)]) (tree := fun x => tree_5 x.1.1 x.2.1.1) cfg_ok g5 (fn := Try.f5) (by kernel_rfl) rfl (by kernel_rfl) lok5 (fun x => by kernel_rfl) (fun x _ => ret5)
end Go.Proofs.Ytbdgnghllalbgaa
