/- 13 texts in one: the symbolic executor and the contracts of functions. -/
import Derived.Test.YtbdgnghllalbgaaRows
import Derived.Test.YtbdgnghllalbgaaMC
/- The seat's lists: their elements as Lean has them. Printed by gencf.py. -/
namespace Go.Proofs.Ytbdgnghllalbgaa
open Go Go.Sx

structure Itm where
  kind : Int
  ck : Int
  at' : Int
  data : Int
  states : Int
  waits : Int
  n : Int
  inte : Bool
  sod : Bool
  deriving DecidableEq
structure Pns where
  st : Int
  ad : Int
  da : Int
  sync : Bool
  dbin : Bool
  wait : Bool
  inte : Bool
  ale : Bool
  iom : Bool
  s1 : Bool
  s0 : Bool
  rd : Bool
  inta : Bool
  sod : Bool
  wr : Bool
  hlda : Bool
  flt : Bool
  deriving DecidableEq

abbrev kB : Kind := .b
abbrev kI : Kind := .i .i64
def itmK : List Kind := [.i .i64, .i .i64, .i .u16, .i .u8, .i .i64, .i .i64, .i .i64, .b, .b]
def pnsK : List Kind := [.i .i64, .i .u16, .i .u8, .b, .b, .b, .b, .b, .b, .b, .b, .b, .b, .b, .b, .b, .b]
/-- 0: int; 1: api.Item; 2: api.Pins; 3: uint8; 4: uint16. -/
def RowT : Nat → Type
  | 0 => Int | 1 => Itm | 2 => Pns | 3 => Int | 4 => Int | _ => Unit
def rowK : Nat → List Kind
  | 0 => [.i .i64] | 1 => itmK | 2 => pnsK | 3 => [.i .u8] | 4 => [.i .u16] | _ => []
def rowE : (t : Nat) → RowT t → List (Ent RowT)
  | 0, x => [.i .i64 x]
  | 1, x => [.i .i64 x.kind, .i .i64 x.ck, .i .u16 x.at', .i .u8 x.data, .i .i64 x.states, .i .i64 x.waits, .i .i64 x.n, .b x.inte, .b x.sod]
  | 2, x => [.i .i64 x.st, .i .u16 x.ad, .i .u8 x.da, .b x.sync, .b x.dbin, .b x.wait, .b x.inte, .b x.ale, .b x.iom, .b x.s1, .b x.s0, .b x.rd, .b x.inta, .b x.sod, .b x.wr, .b x.hlda, .b x.flt]
  | 3, x => [.i .u8 x]
  | 4, x => [.i .u16 x]
  | _ + 5, _ => []
def eI : List (Ent RowT) → Nat → Int
  | .i _ n :: _, 0 => n
  | _ :: l, i + 1 => eI l i
  | _, _ => 0
def eB : List (Ent RowT) → Nat → Bool
  | .b v :: _, 0 => v
  | _ :: l, i + 1 => eB l i
  | _, _ => false
def eS : List (Ent RowT) → Nat → ByteArray
  | .s v :: _, 0 => v
  | _ :: l, i + 1 => eS l i
  | _, _ => ByteArray.empty
def eR (t : Nat) : List (Ent RowT) → Nat → List (RowT t)
  | .ro t' xs :: _, 0 => if h : t' = t then h ▸ xs else []
  | _ :: l, i + 1 => eR t l i
  | _, _ => []
def rowD : (t : Nat) → List (Ent RowT) → RowT t
  | 0, l => eI l 0
  | 1, l => { kind := eI l 0, ck := eI l 1, at' := eI l 2, data := eI l 3, states := eI l 4, waits := eI l 5, n := eI l 6, inte := eB l 7, sod := eB l 8 }
  | 2, l => { st := eI l 0, ad := eI l 1, da := eI l 2, sync := eB l 3, dbin := eB l 4, wait := eB l 5, inte := eB l 6, ale := eB l 7, iom := eB l 8, s1 := eB l 9, s0 := eB l 10, rd := eB l 11, inta := eB l 12, sod := eB l 13, wr := eB l 14, hlda := eB l 15, flt := eB l 16 }
  | 3, l => eI l 0
  | 4, l => eI l 0
  | _ + 5, _ => ()
def rowZ : (t : Nat) → RowT t
  | 0 => (0 : Int)
  | 1 => ⟨0, 0, 0, 0, 0, 0, 0, false, false⟩
  | 2 => ⟨0, 0, 0, false, false, false, false, false, false, false, false, false, false, false, false, false, false⟩
  | 3 => (0 : Int)
  | 4 => (0 : Int)
  | _ + 5 => ()

noncomputable def cfg : Cfg := { P := Try.prog, R := RowT, kinds := rowK, enc := rowE, dec := rowD, dft := rowZ, elT := fun | 0 => 3 | 1 => 44 | 2 => 46 | 3 => 5 | 4 => 38 | _ => 0, tOf := fun | 3 => some 0 | 44 => some 1 | 46 => some 2 | 5 => some 3 | 38 => some 4 | _ => none, eqT := fun | 46 => some pnsK | _ => none }

theorem kind_i {e : Ent RowT} {k : IntKind} (h : e.kind = .i k) : ∃ n, e = .i k n := by
  cases e <;> simp [Ent.kind] at h
  subst h; exact ⟨_, rfl⟩
theorem kind_b {e : Ent RowT} (h : e.kind = .b) : ∃ v, e = .b v := by
  cases e <;> simp [Ent.kind] at h
  exact ⟨_, rfl⟩
theorem kind_s {e : Ent RowT} (h : e.kind = .s) : ∃ v, e = .s v := by
  cases e <;> simp [Ent.kind] at h
  exact ⟨_, rfl⟩
theorem kind_r {e : Ent RowT} {t : Nat} (h : e.kind = .ro t) : ∃ v, e = .ro t v := by
  cases e <;> simp [Ent.kind] at h
  subst h; exact ⟨_, rfl⟩
theorem cons_of {k : Kind} {ks : List Kind} {es : List (Ent RowT)} (h : es.map Ent.kind = k :: ks) : ∃ e l, es = e :: l ∧ e.kind = k ∧ l.map Ent.kind = ks := by
  cases es with
  | nil => cases h
  | cons e l => simp only [List.map_cons, List.cons.injEq] at h; exact ⟨e, l, rfl, h.1, h.2⟩
theorem nil_of {es : List (Ent RowT)} (h : es.map Ent.kind = []) : es = [] := by
  cases es with
  | nil => rfl
  | cons e l => cases h
theorem cfg_encD : ∀ (t : Nat) (es : List (Ent RowT)), es.map Ent.kind = rowK t → rowE t (rowD t es) = es
  | 0, es, h => by
    obtain ⟨_, es0, rfl, h0, g0⟩ := cons_of h
    obtain ⟨_, rfl⟩ := kind_i h0
    obtain rfl := nil_of g0
    rfl
  | 1, es, h => by
    obtain ⟨_, es0, rfl, h0, g0⟩ := cons_of h
    obtain ⟨_, rfl⟩ := kind_i h0
    obtain ⟨_, es1, rfl, h1, g1⟩ := cons_of g0
    obtain ⟨_, rfl⟩ := kind_i h1
    obtain ⟨_, es2, rfl, h2, g2⟩ := cons_of g1
    obtain ⟨_, rfl⟩ := kind_i h2
    obtain ⟨_, es3, rfl, h3, g3⟩ := cons_of g2
    obtain ⟨_, rfl⟩ := kind_i h3
    obtain ⟨_, es4, rfl, h4, g4⟩ := cons_of g3
    obtain ⟨_, rfl⟩ := kind_i h4
    obtain ⟨_, es5, rfl, h5, g5⟩ := cons_of g4
    obtain ⟨_, rfl⟩ := kind_i h5
    obtain ⟨_, es6, rfl, h6, g6⟩ := cons_of g5
    obtain ⟨_, rfl⟩ := kind_i h6
    obtain ⟨_, es7, rfl, h7, g7⟩ := cons_of g6
    obtain ⟨_, rfl⟩ := kind_b h7
    obtain ⟨_, es8, rfl, h8, g8⟩ := cons_of g7
    obtain ⟨_, rfl⟩ := kind_b h8
    obtain rfl := nil_of g8
    rfl
  | 2, es, h => by
    obtain ⟨_, es0, rfl, h0, g0⟩ := cons_of h
    obtain ⟨_, rfl⟩ := kind_i h0
    obtain ⟨_, es1, rfl, h1, g1⟩ := cons_of g0
    obtain ⟨_, rfl⟩ := kind_i h1
    obtain ⟨_, es2, rfl, h2, g2⟩ := cons_of g1
    obtain ⟨_, rfl⟩ := kind_i h2
    obtain ⟨_, es3, rfl, h3, g3⟩ := cons_of g2
    obtain ⟨_, rfl⟩ := kind_b h3
    obtain ⟨_, es4, rfl, h4, g4⟩ := cons_of g3
    obtain ⟨_, rfl⟩ := kind_b h4
    obtain ⟨_, es5, rfl, h5, g5⟩ := cons_of g4
    obtain ⟨_, rfl⟩ := kind_b h5
    obtain ⟨_, es6, rfl, h6, g6⟩ := cons_of g5
    obtain ⟨_, rfl⟩ := kind_b h6
    obtain ⟨_, es7, rfl, h7, g7⟩ := cons_of g6
    obtain ⟨_, rfl⟩ := kind_b h7
    obtain ⟨_, es8, rfl, h8, g8⟩ := cons_of g7
    obtain ⟨_, rfl⟩ := kind_b h8
    obtain ⟨_, es9, rfl, h9, g9⟩ := cons_of g8
    obtain ⟨_, rfl⟩ := kind_b h9
    obtain ⟨_, es10, rfl, h10, g10⟩ := cons_of g9
    obtain ⟨_, rfl⟩ := kind_b h10
    obtain ⟨_, es11, rfl, h11, g11⟩ := cons_of g10
    obtain ⟨_, rfl⟩ := kind_b h11
    obtain ⟨_, es12, rfl, h12, g12⟩ := cons_of g11
    obtain ⟨_, rfl⟩ := kind_b h12
    obtain ⟨_, es13, rfl, h13, g13⟩ := cons_of g12
    obtain ⟨_, rfl⟩ := kind_b h13
    obtain ⟨_, es14, rfl, h14, g14⟩ := cons_of g13
    obtain ⟨_, rfl⟩ := kind_b h14
    obtain ⟨_, es15, rfl, h15, g15⟩ := cons_of g14
    obtain ⟨_, rfl⟩ := kind_b h15
    obtain ⟨_, es16, rfl, h16, g16⟩ := cons_of g15
    obtain ⟨_, rfl⟩ := kind_b h16
    obtain rfl := nil_of g16
    rfl
  | 3, es, h => by
    obtain ⟨_, es0, rfl, h0, g0⟩ := cons_of h
    obtain ⟨_, rfl⟩ := kind_i h0
    obtain rfl := nil_of g0
    rfl
  | 4, es, h => by
    obtain ⟨_, es0, rfl, h0, g0⟩ := cons_of h
    obtain ⟨_, rfl⟩ := kind_i h0
    obtain rfl := nil_of g0
    rfl
  | _ + 5, es, h => by
    obtain rfl := nil_of h
    rfl

theorem cfg_info3 : ∃ i z, Try.prog.info? 3 = some i ∧ i.zero = some z ∧ i.size = 1 ∧ z.cells.size = i.size ∧ 0 < i.size ∧ i.bytes ≤ 65536 := ⟨_, _, rfl, rfl, rfl, rfl, by decide, by decide⟩
theorem cfg_info44 : ∃ i z, Try.prog.info? 44 = some i ∧ i.zero = some z ∧ i.size = 9 ∧ z.cells.size = i.size ∧ 0 < i.size ∧ i.bytes ≤ 65536 := ⟨_, _, rfl, rfl, rfl, rfl, by decide, by decide⟩
theorem cfg_info46 : ∃ i z, Try.prog.info? 46 = some i ∧ i.zero = some z ∧ i.size = 17 ∧ z.cells.size = i.size ∧ 0 < i.size ∧ i.bytes ≤ 65536 := ⟨_, _, rfl, rfl, rfl, rfl, by decide, by decide⟩
theorem cfg_info5 : ∃ i z, Try.prog.info? 5 = some i ∧ i.zero = some z ∧ i.size = 1 ∧ z.cells.size = i.size ∧ 0 < i.size ∧ i.bytes ≤ 65536 := ⟨_, _, rfl, rfl, rfl, rfl, by decide, by decide⟩
theorem cfg_info38 : ∃ i z, Try.prog.info? 38 = some i ∧ i.zero = some z ∧ i.size = 1 ∧ z.cells.size = i.size ∧ 0 < i.size ∧ i.bytes ≤ 65536 := ⟨_, _, rfl, rfl, rfl, rfl, by decide, by decide⟩
theorem eq46 : eqShape cfg 10000 46 pnsK = true ∧ isAggB cfg 46 = true ∧ cfg.P.eqGuardType cfg.P.depth 46 = false := ⟨by kernel_rfl, by kernel_rfl, by kernel_rfl⟩

theorem cfg_ok : cfg.Ok where
  encK := fun t x => match t, x with
    | 0, _ => rfl | 1, _ => rfl | 2, _ => rfl | 3, _ => rfl | 4, _ => rfl | _ + 5, _ => rfl
  decE := fun t x => match t, x with
    | 0, _ => rfl | 1, _ => rfl | 2, _ => rfl | 3, _ => rfl | 4, _ => rfl | _ + 5, _ => rfl
  encD := cfg_encD
  noOw := fun t t' h => by
    match t, h with
    | 0, h => simp [cfg, rowK] at h
    | 1, h => simp [cfg, rowK, itmK] at h
    | 2, h => simp [cfg, rowK, pnsK] at h
    | 3, h => simp [cfg, rowK] at h
    | 4, h => simp [cfg, rowK] at h
    | _ + 5, h => simp [cfg, rowK] at h
  elT := fun el t h => by
    simp only [cfg] at h
    split at h <;> first | (cases h; rfl) | cases h
  info := fun el t h => by
    simp only [cfg] at h
    split at h
    · cases h; exact cfg_info3
    · cases h; exact cfg_info44
    · cases h; exact cfg_info46
    · cases h; exact cfg_info5
    · cases h; exact cfg_info38
    · cases h
  mixed := rfl
  eql := fun T ks h => by
    simp only [cfg] at h
    split at h
    · cases h; exact eql_of (C := cfg) eq46.1 eq46.2.1 eq46.2.2
    · cases h
end Go.Proofs.Ytbdgnghllalbgaa

/- Contracts: leaves. -/
namespace Go.Sx
open Go
/-- A function whose loops are unrolled. -/
theorem fn_flat {C : Cfg} {Γ : Nat → Option (FSum C)} (Kk : C.Ok) (G0 : GamOK C Γ) {f : FuncId} {fn : Func} {c : Code} {S : FSum C} (hfn : C.P.funcs[f]? = some fn) (hbody : fn.body = some c)
    (h : ∀ x : PsT C S.ps, (∀ b ∈ S.pre (mkP S.ps x), b = true) → ∃ ob, (evFn C Γ (fun _ => none) fn S (mkP S.ps x)).pick = some (ob, S.F (mkP S.ps x)) ∧ ∀ b ∈ ob, b = true) : FnOK C f S :=
  fn_ok Kk G0 hfn hbody loops_none h
theorem enters_of {P : Program} {g : FuncId} {fn : Func} (h : P.funcs[g]? = some fn) (hn : (fn.name == "runtime.NumGoroutine") = false) (hb : fn.body.isNone = false) : Enters P g := ⟨fn, h, hn, hb⟩
theorem gam_nil {C : Cfg} : GamOK C (fun _ => none) := fun _ _ h => by cases h
end Go.Sx

namespace Go.Proofs.Ytbdgnghllalbgaa
open Go Go.Sx

def inCycleF (n : Int) : Bool := bif decide (n ≥ 1) then decide (n ≤ 7) else false
def onBusF (n : Int) : Bool := bif (bif n == 2 then true else n == 7) then true else n == 3
noncomputable def S31 : FSum cfg := FSum.of [.v false [kI]] [.v false [kB]] (fun _ => []) (fun x => ((inCycleF x.1.1, ()), ()))
noncomputable def S32 : FSum cfg := FSum.of [.v false [kI]] [.v false [kB]] (fun _ => []) (fun x => ((onBusF x.1.1, ()), ()))
set_option maxRecDepth 100000
theorem ok31 : FnOK cfg 31 S31 := fn_flat cfg_ok gam_nil (fn := Try.f31) (by kernel_rfl) rfl (by
  rintro ⟨⟨n, _⟩, _⟩ _
  exact ⟨[], by kernel_rfl, by simp⟩)
theorem ok32 : FnOK cfg 32 S32 := fn_flat cfg_ok gam_nil (fn := Try.f32) (by kernel_rfl) rfl (by
  rintro ⟨⟨n, _⟩, _⟩ _
  exact ⟨[], by kernel_rfl, by simp⟩)
theorem en31 : Enters cfg.P 31 := enters_of (fn := Try.f31) (by kernel_rfl) (by kernel_rfl) (by kernel_rfl)
end Go.Proofs.Ytbdgnghllalbgaa

/- Contracts: status codes; the pins of the 8085. -/
namespace Go.Proofs.Ytbdgnghllalbgaa
open Go Go.Sx
def writesF (n : Int) : Bool := bif bif n == 3 then true else n == 5 then true else n == 7
def readsF (n : Int) : Bool := bif bif n == 1 then n == 1 else bif n == 2 then n == 2 else bif n == 4 then n == 4 else bif n == 6 then n == 6 else bif n == 8 then n == 8 else n == 9 then true else false
def linesF (n : Int) : Bool × Bool × Bool :=
  (bif n == 1 then false else bif bif n == 2 then n == 2 else bif n == 4 then n == 4 else n == 11 then false else bif bif n == 3 then n == 3 else n == 5 then false else bif n == 6 then true else bif n == 7 then true else bif bif n == 8 then n == 8 else bif n == 9 then n == 9 else n == 12 then true else false,
   bif n == 1 then true else bif bif n == 2 then n == 2 else bif n == 4 then n == 4 else n == 11 then true else bif bif n == 3 then n == 3 else n == 5 then false else bif n == 6 then true else bif n == 7 then false else bif bif n == 8 then n == 8 else bif n == 9 then n == 9 else n == 12 then true else false,
   bif n == 1 then true else bif bif n == 2 then n == 2 else bif n == 4 then n == 4 else n == 11 then false else bif bif n == 3 then n == 3 else n == 5 then true else bif n == 6 then false else bif n == 7 then true else bif bif n == 8 then n == 8 else bif n == 9 then n == 9 else n == 12 then true else false)
def byteF (n : Int) : Int := bif n == 1 then 162 else bif n == 2 then 130 else bif n == 4 then 134 else bif n == 5 then 4 else bif n == 6 then 66 else bif n == 7 then 16 else bif n == 8 then 35 else bif n == 9 then 3 else bif n == 10 then 138 else 0
noncomputable def S33 : FSum cfg := FSum.of [.v false [kI]] [.v false [kB]] (fun _ => []) (fun x => ((writesF x.1.1, ()), ()))
noncomputable def S34 : FSum cfg := FSum.of [.v false [kI]] [.v false [kB]] (fun _ => []) (fun x => ((readsF x.1.1, ()), ()))
noncomputable def S41 : FSum cfg := FSum.of [.v false [kI]] [.v false [kB], .v false [kB], .v false [kB]] (fun _ => []) (fun x => (((linesF x.1.1).1, ()), ((linesF x.1.1).2.1, ()), ((linesF x.1.1).2.2, ()), ()))
noncomputable def S42 : FSum cfg := FSum.of [.v false [kI]] [.v false [.i .u8]] (fun _ => []) (fun x => ((byteF x.1.1, ()), ()))
set_option maxRecDepth 100000
theorem ok33 : FnOK cfg 33 S33 := fn_flat cfg_ok gam_nil (fn := Try.f33) (by kernel_rfl) rfl (by
  rintro ⟨⟨n, _⟩, _⟩ _
  exact ⟨[], by kernel_rfl, by simp⟩)
theorem ok34 : FnOK cfg 34 S34 := fn_flat cfg_ok gam_nil (fn := Try.f34) (by kernel_rfl) rfl (by
  rintro ⟨⟨n, _⟩, _⟩ _
  exact ⟨[], by kernel_rfl, by simp⟩)
theorem ok41 : FnOK cfg 41 S41 := fn_flat cfg_ok gam_nil (fn := Try.f41) (by kernel_rfl) rfl (by
  rintro ⟨⟨n, _⟩, _⟩ _
  exact ⟨[], by kernel_rfl, by simp⟩)
theorem ok42 : FnOK cfg 42 S42 := fn_flat cfg_ok gam_nil (fn := Try.f42) (by kernel_rfl) rfl (by
  rintro ⟨⟨n, _⟩, _⟩ _
  exact ⟨[], by kernel_rfl, by simp⟩)
end Go.Proofs.Ytbdgnghllalbgaa

/- Contracts: the pins of a clock state (package pinout). -/
namespace Go.Proofs.Ytbdgnghllalbgaa
open Go Go.Sx
/-- pinout.State. -/
structure Sta where
  st : Int
  kind : Int
  ad : Int
  data : Int
  states : Int
  bus : Int
  pc : Int
  inte : Bool
  sod : Bool
def stK : List Kind := [kI, kI, .i .u16, .i .u8, kI, .i .u8, .i .u16, kB, kB]
noncomputable def toPns (x : KsT cfg pnsK) : Pns :=
  { st := x.1, ad := x.2.1, da := x.2.2.1, sync := x.2.2.2.1, dbin := x.2.2.2.2.1, wait := x.2.2.2.2.2.1, inte := x.2.2.2.2.2.2.1, ale := x.2.2.2.2.2.2.2.1, iom := x.2.2.2.2.2.2.2.2.1, s1 := x.2.2.2.2.2.2.2.2.2.1, s0 := x.2.2.2.2.2.2.2.2.2.2.1, rd := x.2.2.2.2.2.2.2.2.2.2.2.1, inta := x.2.2.2.2.2.2.2.2.2.2.2.2.1, sod := x.2.2.2.2.2.2.2.2.2.2.2.2.2.1, wr := x.2.2.2.2.2.2.2.2.2.2.2.2.2.2.1, hlda := x.2.2.2.2.2.2.2.2.2.2.2.2.2.2.2.1, flt := x.2.2.2.2.2.2.2.2.2.2.2.2.2.2.2.2.1 }
noncomputable def ofPns (p : Pns) : KsT cfg pnsK := (p.st, p.ad, p.da, p.sync, p.dbin, p.wait, p.inte, p.ale, p.iom, p.s1, p.s0, p.rd, p.inta, p.sod, p.wr, p.hlda, p.flt, ())
noncomputable def toSta (x : KsT cfg stK) : Sta :=
  { st := x.1, kind := x.2.1, ad := x.2.2.1, data := x.2.2.2.1, states := x.2.2.2.2.1, bus := x.2.2.2.2.2.1, pc := x.2.2.2.2.2.2.1, inte := x.2.2.2.2.2.2.2.1, sod := x.2.2.2.2.2.2.2.2.1 }

def laterF (p : Pns) (s : Sta) : Pns :=
  { p with da := bif s.st == 1 then IntKind.u8.wrap s.ad else p.da
           ale := bif s.st == 1 then true else p.ale
           iom := bif inCycleF s.st then (linesF s.kind).1 else p.iom
           s1 := bif inCycleF s.st then (linesF s.kind).2.1 else p.s1
           s0 := bif inCycleF s.st then (linesF s.kind).2.2 else p.s0
           rd := bif onBusF s.st then (bif readsF s.kind then !(bif s.kind == 8 then true else s.kind == 9) else false) else p.rd
           inta := bif onBusF s.st then (bif s.kind == 8 then true else s.kind == 9) else p.inta
           sod := s.sod
           wr := bif onBusF s.st then writesF s.kind else p.wr
           flt := bif bif p.flt then true else s.st == 9 then true else s.st == 10 }
def earlierF (p : Pns) (s : Sta) : Pns :=
  { p with ad := bif s.st == 9 then s.pc else p.ad
           da := bif bif bif s.st == 1 then s.kind != 11 else false then s.kind != 12 else false then byteF s.kind else p.da
           sync := bif bif bif s.st == 1 then s.kind != 11 else false then s.kind != 12 else false then true else p.sync
           dbin := bif onBusF s.st then readsF s.kind else false
           wait := bif s.st == 7 then true else s.st == 9
           inte := s.inte
           wr := bif bif s.st == 7 then true else s.st == 3 then writesF s.kind else false }
noncomputable def S35 : FSum cfg := FSum.of [.v true pnsK, .v true stK] [.v true pnsK] (fun _ => []) (fun x => (ofPns (laterF (toPns x.1) (toSta x.2.1)), ()))
noncomputable def S36 : FSum cfg := FSum.of [.v true pnsK, .v true stK] [.v true pnsK] (fun _ => []) (fun x => (ofPns (earlierF (toPns x.1) (toSta x.2.1)), ()))
set_option maxRecDepth 100000
theorem en32 : Enters cfg.P 32 := enters_of (fn := Try.f32) (by kernel_rfl) (by kernel_rfl) (by kernel_rfl)
theorem en33 : Enters cfg.P 33 := enters_of (fn := Try.f33) (by kernel_rfl) (by kernel_rfl) (by kernel_rfl)
theorem en34 : Enters cfg.P 34 := enters_of (fn := Try.f34) (by kernel_rfl) (by kernel_rfl) (by kernel_rfl)
theorem en41 : Enters cfg.P 41 := enters_of (fn := Try.f41) (by kernel_rfl) (by kernel_rfl) (by kernel_rfl)
theorem en42 : Enters cfg.P 42 := enters_of (fn := Try.f42) (by kernel_rfl) (by kernel_rfl) (by kernel_rfl)
noncomputable def G1 : Nat → Option (FSum cfg)
  | 31 => some S31 | 32 => some S32 | 33 => some S33 | 34 => some S34 | 41 => some S41 | 42 => some S42 | _ => none
theorem g1 : GamOK cfg G1 := by
  intro g S h
  unfold G1 at h
  split at h
  · cases h; exact ⟨en31, ok31⟩
  · cases h; exact ⟨en32, ok32⟩
  · cases h; exact ⟨en33, ok33⟩
  · cases h; exact ⟨en34, ok34⟩
  · cases h; exact ⟨en41, ok41⟩
  · cases h; exact ⟨en42, ok42⟩
  · cases h
theorem ok35 : FnOK cfg 35 S35 := fn_flat cfg_ok g1 (fn := Try.f35) (by kernel_rfl) rfl (by
  rintro ⟨p, s, _⟩ _
  exact ⟨[], by kernel_rfl, by simp⟩)
theorem ok36 : FnOK cfg 36 S36 := fn_flat cfg_ok g1 (fn := Try.f36) (by kernel_rfl) rfl (by
  rintro ⟨p, s, _⟩ _
  exact ⟨[], by kernel_rfl, by simp⟩)
end Go.Proofs.Ytbdgnghllalbgaa

/- Contracts: pinout.Of. -/
namespace Go.Proofs.Ytbdgnghllalbgaa
open Go Go.Sx
def muxPns (c : Bool) (a b : Pns) : Pns := { st := bif c then a.st else b.st, ad := bif c then a.ad else b.ad, da := bif c then a.da else b.da, sync := bif c then a.sync else b.sync, dbin := bif c then a.dbin else b.dbin, wait := bif c then a.wait else b.wait, inte := bif c then a.inte else b.inte, ale := bif c then a.ale else b.ale, iom := bif c then a.iom else b.iom, s1 := bif c then a.s1 else b.s1, s0 := bif c then a.s0 else b.s0, rd := bif c then a.rd else b.rd, inta := bif c then a.inta else b.inta, sod := bif c then a.sod else b.sod, wr := bif c then a.wr else b.wr, hlda := bif c then a.hlda else b.hlda, flt := bif c then a.flt else b.flt }
theorem muxPns_eq (c : Bool) (a b : Pns) : muxPns c a b = bif c then a else b := by cases c <;> rfl
def firstP (s : Sta) : Pns :=
  { st := s.st, ad := bif inCycleF s.st then s.ad else 0
    da := bif bif s.st == 3 then readsF s.kind else false then s.bus else bif bif onBusF s.st then writesF s.kind else false then s.data else 0
    sync := false, dbin := false, wait := false, inte := false, ale := false, iom := false, s1 := false, s0 := false, rd := false, inta := false, sod := false, wr := false
    hlda := bif s.st == 8 then true else false, flt := bif s.st == 8 then true else false }
def ofF (c : Int) (s : Sta) : Pns := muxPns (c == 2) (laterF (firstP s) s) (earlierF (firstP s) s)
noncomputable def S24 : FSum cfg := FSum.of [.v false [kI], .v true stK] [.v true pnsK] (fun _ => []) (fun x => (ofPns (ofF x.1.1 (toSta x.2.1)), ()))
set_option maxRecDepth 100000
theorem en35 : Enters cfg.P 35 := enters_of (fn := Try.f35) (by kernel_rfl) (by kernel_rfl) (by kernel_rfl)
theorem en36 : Enters cfg.P 36 := enters_of (fn := Try.f36) (by kernel_rfl) (by kernel_rfl) (by kernel_rfl)
noncomputable def G2 : Nat → Option (FSum cfg)
  | 31 => some S31 | 32 => some S32 | 33 => some S33 | 34 => some S34 | 35 => some S35 | 36 => some S36 | _ => none
theorem g2 : GamOK cfg G2 := by
  intro g S h
  unfold G2 at h
  split at h
  · cases h; exact ⟨en31, ok31⟩
  · cases h; exact ⟨en32, ok32⟩
  · cases h; exact ⟨en33, ok33⟩
  · cases h; exact ⟨en34, ok34⟩
  · cases h; exact ⟨en35, ok35⟩
  · cases h; exact ⟨en36, ok36⟩
  · cases h
theorem ok24 : FnOK cfg 24 S24 := fn_flat cfg_ok g2 (fn := Try.f24) (by kernel_rfl) rfl (by
  rintro ⟨⟨c, _⟩, s, _⟩ _
  exact ⟨[], by kernel_rfl, by simp⟩)
end Go.Proofs.Ytbdgnghllalbgaa

/- Contracts: the reference's status codes. -/
namespace Go.Proofs.Ytbdgnghllalbgaa
open Go Go.Sx
def readsR (n : Int) : Bool := bif bif bif bif bif n == 1 then true else n == 2 then true else n == 4 then true else n == 6 then true else n == 8 then true else n == 9
noncomputable def S18 : FSum cfg := FSum.of [.v false [kI]] [.v false [kB]] (fun _ => []) (fun x => ((readsR x.1.1, ()), ()))
def on85F (n : Int) : Bool := n == 2
noncomputable def S37 : FSum cfg := FSum.of [.v false [kI]] [.v false [kB]] (fun _ => []) (fun x => ((on85F x.1.1, ()), ()))
set_option maxRecDepth 100000
theorem ok18 : FnOK cfg 18 S18 := fn_flat cfg_ok gam_nil (fn := Try.f18) (by kernel_rfl) rfl (by
  rintro ⟨⟨n, _⟩, _⟩ _
  exact ⟨[], by kernel_rfl, by simp⟩)
theorem ok19 : FnOK cfg 19 S33 := fn_flat cfg_ok gam_nil (fn := Try.f19) (by kernel_rfl) rfl (by
  rintro ⟨⟨n, _⟩, _⟩ _
  exact ⟨[], by kernel_rfl, by simp⟩)
theorem ok37 : FnOK cfg 37 S37 := fn_flat cfg_ok gam_nil (fn := Try.f37) (by kernel_rfl) rfl (by
  rintro ⟨⟨n, _⟩, _⟩ _
  exact ⟨[], by kernel_rfl, by simp⟩)
theorem ok38 : FnOK cfg 38 S41 := fn_flat cfg_ok gam_nil (fn := Try.f38) (by kernel_rfl) rfl (by
  rintro ⟨⟨n, _⟩, _⟩ _
  exact ⟨[], by kernel_rfl, by simp⟩)
theorem ok39 : FnOK cfg 39 S42 := fn_flat cfg_ok gam_nil (fn := Try.f39) (by kernel_rfl) rfl (by
  rintro ⟨⟨n, _⟩, _⟩ _
  exact ⟨[], by kernel_rfl, by simp⟩)
end Go.Proofs.Ytbdgnghllalbgaa

/- Contracts: tstateref20.SamePins. -/
namespace Go.Proofs.Ytbdgnghllalbgaa
open Go Go.Sx
set_option maxRecDepth 100000
def A10 : LAnn := { n := 2562, s := [(0, ⟨[], .c (.v 0)⟩), (1, ⟨[], .c (.v 1)⟩), (12, ⟨[], .c (.v 2050)⟩)], b := [], ids := [(0, .ro 2), (1, .ro 2), (2050, kI)], ps := [.s 13], ks := [kI] }
def eqPns (a b : Pns) : Bool := litsEq
  [.i .i64 a.st, .i .u16 a.ad, .i .u8 a.da, .b a.sync, .b a.dbin, .b a.wait, .b a.inte, .b a.ale, .b a.iom, .b a.s1, .b a.s0, .b a.rd, .b a.inta, .b a.sod, .b a.wr, .b a.hlda, .b a.flt]
  [.i .i64 b.st, .i .u16 b.ad, .i .u8 b.da, .b b.sync, .b b.dbin, .b b.wait, .b b.inte, .b b.ale, .b b.iom, .b b.s1, .b b.s0, .b b.rd, .b b.inta, .b b.sod, .b b.wr, .b b.hlda, .b b.flt]
theorem eqPns_iff {a b : Pns} : eqPns a b = true ↔ a = b := by
  cases a; cases b
  simp [eqPns, litsEq, litEq]
def pz : Pns := ⟨0, 0, 0, false, false, false, false, false, false, false, false, false, false, false, false, false, false⟩
abbrev K10 := List Pns × List Pns × Int × Unit
abbrev T10 := Int × Unit
section
variable (xs ys : List Pns) (n i : Int)
def step10 : Option T10 := bif decide (i < n) then (bif !eqPns (xs.getD i.toNat pz) (ys.getD i.toNat pz) then none else some (IntKind.i64.wrap (i + 1), ())) else none
def I10 : Prop := n = xs.length ∧ xs.length = ys.length ∧ 0 ≤ i ∧ i ≤ n ∧ xs.length ≤ topLen ∧ xs.take i.toNat = ys.take i.toNat
def mu10 : Nat := (n - i).toNat
def tree10 : RR cfg :=
    .br (decide (i < n)) (.br (!eqPns (xs.getD i.toNat pz) (ys.getD i.toNat pz))
      (.stop [decide (0 ≤ i), decide (i < (xs.length : Int)), decide (0 ≤ i), decide (i < (ys.length : Int))])
      (.next [decide (0 ≤ i), decide (i < (xs.length : Int)), decide (0 ≤ i), decide (i < (ys.length : Int))] [.i .i64 (IntKind.i64.wrap (i + 1))])) (.stop [])
end
noncomputable def E10 : Sx.Loc → Env cfg → Option (Out × Env cfg) := stepL (gamL []) (fun _ => none) Try.f10.ntmps 0 (bodyOf Try.f10 0) A10 (fun (κ : K10) (σ : T10) => I10 κ.1 κ.2.1 κ.2.2.1 σ.1) (fun (κ : K10) (σ : T10) => step10 κ.1 κ.2.1 κ.2.2.1 σ.1) (fun (κ : K10) (σ : T10) => mu10 κ.2.2.1 σ.1)
theorem rd10 {xs ys n i} (hI : I10 xs ys n i) : (tree10 xs ys n i).ok ((step10 xs ys n i).map fun σ => [.i .i64 σ.1]) := by
  obtain ⟨h1, h2, h3, h4, h5, h6⟩ := hI
  simp only [tree10, RR.ok, step10, allT_cons, allT_nil, decide_eq_true_eq, decide_eq_false_iff_not]
  refine ⟨fun hi => ⟨fun he => ?_, fun he => ?_⟩, fun hi => ?_⟩
  · have : i < (xs.length : Int) ∧ i < (ys.length : Int) := by omega
    exact ⟨by rw [decide_eq_true hi, he]; rfl, h3, this.1, h3, this.2, trivial⟩
  · have : i < (xs.length : Int) ∧ i < (ys.length : Int) := by omega
    exact ⟨by rw [decide_eq_true hi, he]; rfl, h3, this.1, h3, this.2, trivial⟩
  · exact ⟨by rw [decide_eq_false hi]; rfl, trivial⟩
theorem plain10 {xs ys n i} (hI : I10 xs ys n i) : ∀ σ', step10 xs ys n i = some σ' → I10 xs ys n σ'.1 ∧ mu10 n σ'.1 < mu10 n i := by
  obtain ⟨h1, h2, h3, h4, h5, h6⟩ := hI
  intro σ' h
  simp only [step10] at h
  by_cases hi : i < n
  · rw [decide_eq_true hi, cond] at h
    cases he : eqPns (xs.getD i.toNat pz) (ys.getD i.toNat pz) with
    | false => rw [he] at h; cases h
    | true =>
      rw [he] at h
      simp only [Bool.not_true, cond, Option.some.injEq] at h
      have hw : IntKind.i64.wrap (i + 1) = i + 1 := wrap_next (by unfold topLen at h5; omega) (by omega)
      rw [hw] at h
      subst h
      refine ⟨⟨h1, h2, by simp only; omega, by simp only; omega, h5, ?_⟩, by simp only [mu10]; omega⟩
      have e := eqPns_iff.mp he
      have l1 : i.toNat < xs.length := by omega
      have l2 : i.toNat < ys.length := by omega
      simp only [List.getD_eq_getElem?_getD, List.getElem?_eq_getElem l1, List.getElem?_eq_getElem l2, Option.getD_some] at e
      simp only
      rw [show (i + 1).toNat = i.toNat + 1 by omega, List.take_succ_eq_append_getElem l1, List.take_succ_eq_append_getElem l2, h6, e]
  · rw [decide_eq_false hi, cond] at h; cases h
noncomputable def samePinsF (xs ys : List Pns) : Bool := decide (xs = ys)
noncomputable def S10 : FSum cfg := FSum.of [.v false [.ro 2], .v false [.ro 2]] [.v false [kB]] (fun x => [decide (List.length (α := Pns) x.1.1 ≤ topLen)]) (fun x => ((samePinsF x.1.1 x.2.1.1, ()), ()))
noncomputable def fin10 (xs ys : List Pns) : T10 := stepFin (fun (σ : T10) => step10 xs ys (xs.length : Int) σ.1) (fun (σ : T10) => mu10 (xs.length : Int) σ.1) (0, ())
theorem fin10_end {xs ys : List Pns} (h : I10 xs ys xs.length 0) : step10 xs ys xs.length (fin10 xs ys).1 = none ∧ I10 xs ys xs.length (fin10 xs ys).1 :=
  stepFin_end (I := fun (σ : T10) => I10 xs ys xs.length σ.1) (fun _ hI => plain10 hI) h
noncomputable def tree_10 (xs ys : List Pns) : RT cfg :=
    .br ((xs.length : Int) != (ys.length : Int)) (.ret [] [[.b false]])
      (.br (decide ((fin10 xs ys).1 < (xs.length : Int)))
        (.br (!eqPns (xs.getD (fin10 xs ys).1.toNat pz) (ys.getD (fin10 xs ys).1.toNat pz))
          (.ret ([dec (I10 xs ys xs.length 0)] ++ [decide (0 ≤ (fin10 xs ys).1), decide ((fin10 xs ys).1 < (xs.length : Int)), decide (0 ≤ (fin10 xs ys).1), decide ((fin10 xs ys).1 < (ys.length : Int))]) [[.b false]]) .fail)
        (.ret [dec (I10 xs ys xs.length 0)] [[.b true]]))
theorem ret10 {xs ys : List Pns} (hpre : xs.length ≤ topLen) : (tree_10 xs ys).ok [[.b (samePinsF xs ys)]] := by
  simp only [tree_10, RT.ok, allT_cons, allT_nil, allT_app, dec_iff, decide_eq_true_eq, decide_eq_false_iff_not]
  refine ⟨fun h => ?_, fun h => ?_⟩
  · have : xs ≠ ys := by rintro rfl; simp at h
    simp [samePinsF, this]
  · have hl : xs.length = ys.length := by simp at h; omega
    have h0 : I10 xs ys xs.length 0 := ⟨rfl, hl, Int.le_refl _, by simp, hpre, by simp⟩
    obtain ⟨e1, h1, h2, h3, h4, h5, h6⟩ := fin10_end h0
    generalize (fin10 xs ys).1 = i at e1 h1 h2 h3 h4 h5 h6 ⊢
    simp only [step10] at e1
    refine ⟨fun hi => ⟨fun he => ?_, fun he => ?_⟩, fun hi => ?_⟩
    · have l1 : i < (xs.length : Int) ∧ i < (ys.length : Int) := by omega
      have : xs ≠ ys := by
        rintro rfl
        have : eqPns (xs.getD i.toNat pz) (xs.getD i.toNat pz) = true := eqPns_iff.mpr rfl
        rw [this] at he; cases he
      exact ⟨by simp [samePinsF, this], ⟨h0, trivial⟩, h3, l1.1, h3, l1.2, trivial⟩
    · rw [decide_eq_true hi, he] at e1; cases e1
    · have e : i = xs.length := by omega
      subst e
      rw [Int.toNat_natCast, List.take_length, hl, List.take_length] at h6
      exact ⟨by simp [samePinsF, h6], h0, trivial⟩
theorem out10 : ∀ m g r, E10 m g = some r → OutOK cfg Try.f10.ntmps (stmtFn Try.f10 0) m g r := fun m g r h => stmt_loop (by kernel_rfl) (
  stepL_ok (A := A10) (I := fun (κ : K10) (σ : T10) => I10 κ.1 κ.2.1 κ.2.2.1 σ.1) (step := fun (κ : K10) (σ : T10) => step10 κ.1 κ.2.1 κ.2.2.1 σ.1) (μ := fun (κ : K10) (σ : T10) => mu10 κ.2.2.1 σ.1) cfg_ok gamL_nil loops_none
    (fun κ σ => plain10) (tree := fun (κ : K10) (σ : T10) => tree10 κ.1 κ.2.1 κ.2.2.1 σ.1) (fun κ σ => by kernel_rfl) (fun κ σ hI => rd10 hI) m g r h)
theorem ok10 : FnOK cfg 10 S10 :=
  fn_loops (l := [(0, E10)]) (tree := fun x => tree_10 x.1.1 x.2.1.1) cfg_ok gamL_nil (fn := Try.f10) (by kernel_rfl) rfl (by kernel_rfl) (fun p hp => by
    simp only [List.mem_singleton] at hp
    subst hp
    exact out10) (fun x => by kernel_rfl) (fun x h => ret10 (of_decide_eq_true (h _ (List.mem_cons_self ..))))
end Go.Proofs.Ytbdgnghllalbgaa

/- Contracts: tstateref20.states. -/
namespace Go.Proofs.Ytbdgnghllalbgaa
open Go Go.Sx
set_option maxRecDepth 100000
def itmIds : List (Nat × Kind) := [(0, kI), (1, kI), (2, .i .u16), (3, .i .u8), (4, kI), (5, kI), (6, kI), (7, kB), (8, kB)]
def itmB9 : List (Nat × Blk) := [(9, .c 44 [.v 0, .v 1, .v 2, .v 3, .v 4, .v 5, .v 6, .v 7, .v 8])]
def A25_3 : LAnn := { n := 2000000, s := [(1, ⟨[], .c (.p 9 0)⟩), (5, ⟨[], .c (.v 4361)⟩), (6, ⟨[], .c (.v 1000001)⟩)], b := itmB9, ids := itmIds ++ [(4361, kI), (1000001, kI)], ps := [.s 3, .s 7], ks := [.ow 0, kI] }
/-- a number of states at most -/
def lim (wt : Int) : Int := mnI wt 65536
theorem lim_le (wt : Int) : lim wt ≤ 65536 := by unfold lim mnI; split <;> omega
abbrev K25_3 := Int × Int × Int × Int × Int × Int × Int × Bool × Bool × Int × Int × Unit
abbrev T25_3 := (List Int) × Int × Unit
def step25_3 (wt : Int) (j : Int) (out : List Int) (q : Int) : Option T25_3 := bif (bif j == 2 then decide (q < lim wt) else false) then some (out ++ [7], IntKind.i64.wrap (q + 1), ()) else none
def I25_3 (wt : Int) (j : Int) (out : List Int) (q : Int) : Prop := 0 ≤ q ∧ (j = 2 → (out.length : Int) ≤ 10 + q)
def mu25_3 (wt : Int) (j : Int) (out : List Int) (q : Int) : Nat := (65536 - q).toNat
def tree25_3 (wt : Int) (j : Int) (out : List Int) (q : Int) : RR cfg := .br (bif j == 2 then decide (q < lim wt) else false) (.next [decide (out.length + 1 ≤ mostLen)] [.ro 0 (out ++ [7]), .i .i64 (IntKind.i64.wrap (q + 1))]) (.stop [])
noncomputable def E25_3 : Sx.Loc → Env cfg → Option (Out × Env cfg) := stepL (gamL []) (fun _ => none) Try.f25.ntmps 3 (bodyOf Try.f25 3) A25_3 (fun (κ : K25_3) (σ : T25_3) => I25_3 κ.2.2.2.2.2.1 κ.2.2.2.2.2.2.2.2.2.2.1 σ.1 σ.2.1) (fun (κ : K25_3) (σ : T25_3) => step25_3 κ.2.2.2.2.2.1 κ.2.2.2.2.2.2.2.2.2.2.1 σ.1 σ.2.1) (fun (κ : K25_3) (σ : T25_3) => mu25_3 κ.2.2.2.2.2.1 κ.2.2.2.2.2.2.2.2.2.2.1 σ.1 σ.2.1)
theorem rd25_3 {wt j out q} (hI : I25_3 wt j out q) : (tree25_3 wt j out q).ok ((step25_3 wt j out q).map fun σ => [.ro 0 σ.1, .i .i64 σ.2.1]) := by
  obtain ⟨h1, h2⟩ := hI
  simp only [tree25_3, RR.ok, step25_3, allT_cons, allT_nil, decide_eq_true_eq]
  refine ⟨fun hc => ⟨by rw [hc]; rfl, ?_, trivial⟩, fun hc => ⟨by rw [hc]; rfl, trivial⟩⟩
  by_cases hj : j = 2
  · simp [hj] at hc
    unfold mostLen
    have := h2 hj
    have := lim_le wt
    omega
  · simp [hj] at hc
theorem next25_3 {wt j out q} (hI : I25_3 wt j out q) {σ' : T25_3} (h : step25_3 wt j out q = some σ') : j = 2 ∧ q < lim wt ∧ σ' = (out ++ [7], q + 1, ()) := by
  obtain ⟨h1, h2⟩ := hI
  unfold step25_3 at h
  by_cases hj : j = 2
  · by_cases hq : q < lim wt
    · have : IntKind.i64.wrap (q + 1) = q + 1 := wrap_next (by have := lim_le wt; omega) h1
      simp [hj, hq, this] at h
      exact ⟨hj, hq, h.symm⟩
    · rw [decide_eq_false hq, Bool.cond_self] at h; cases h
  · rw [show (j == 2) = false by simpa using hj] at h; cases h
theorem plain25_3 {wt j out q} (hI : I25_3 wt j out q) : ∀ σ', step25_3 wt j out q = some σ' → I25_3 wt j σ'.1 σ'.2.1 ∧ mu25_3 wt j σ'.1 σ'.2.1 < mu25_3 wt j out q := by
  intro σ' h
  obtain ⟨hj, hq, rfl⟩ := next25_3 hI h
  obtain ⟨h1, h2⟩ := hI
  have : q < 65536 := by have := lim_le wt; omega
  refine ⟨⟨by simp only; omega, fun _ => ?_⟩, by simp only [mu25_3]; omega⟩
  have := h2 hj
  simp only [List.length_append, List.length_cons, List.length_nil]
  omega
theorem out25_3 : ∀ m g r, E25_3 m g = some r → OutOK cfg Try.f25.ntmps (stmtFn Try.f25 3) m g r := fun m g r h => stmt_loop (by kernel_rfl) (
  stepL_ok (A := A25_3) (I := fun (κ : K25_3) (σ : T25_3) => I25_3 κ.2.2.2.2.2.1 κ.2.2.2.2.2.2.2.2.2.2.1 σ.1 σ.2.1) (step := fun (κ : K25_3) (σ : T25_3) => step25_3 κ.2.2.2.2.2.1 κ.2.2.2.2.2.2.2.2.2.2.1 σ.1 σ.2.1) (μ := fun (κ : K25_3) (σ : T25_3) => mu25_3 κ.2.2.2.2.2.1 κ.2.2.2.2.2.2.2.2.2.2.1 σ.1 σ.2.1) cfg_ok gamL_nil loops_none
    (fun κ σ hI => plain25_3 hI) (tree := fun (κ : K25_3) (σ : T25_3) => tree25_3 κ.2.2.2.2.2.1 κ.2.2.2.2.2.2.2.2.2.2.1 σ.1 σ.2.1) (fun κ σ => by kernel_rfl) (fun κ σ hI => rd25_3 hI) m g r h)
noncomputable def fin25_3 (wt : Int) (j : Int) (σ : T25_3) : T25_3 := stepFin (fun (σ : T25_3) => step25_3 wt j σ.1 σ.2.1) (fun (σ : T25_3) => mu25_3 wt j σ.1 σ.2.1) σ
theorem fin25_3_end (wt : Int) (j : Int) {σ : T25_3} (h : I25_3 wt j σ.1 σ.2.1) : step25_3 wt j (fin25_3 wt j σ).1 (fin25_3 wt j σ).2.1 = none ∧ I25_3 wt j (fin25_3 wt j σ).1 (fin25_3 wt j σ).2.1 := stepFin_end (I := fun (σ : T25_3) => I25_3 wt j σ.1 σ.2.1) (fun _ hI => plain25_3 hI) h
theorem fin25_3_eq (wt : Int) (j : Int) {G : T25_3 → T25_3} (hs : ∀ σ : T25_3, I25_3 wt j σ.1 σ.2.1 → step25_3 wt j σ.1 σ.2.1 = none → G σ = σ) (hn : ∀ σ : T25_3, I25_3 wt j σ.1 σ.2.1 → ∀ σ', step25_3 wt j σ.1 σ.2.1 = some σ' → G σ' = G σ) {σ : T25_3} (h : I25_3 wt j σ.1 σ.2.1) : fin25_3 wt j σ = G σ := stepFin_eq (I := fun (σ : T25_3) => I25_3 wt j σ.1 σ.2.1) (fun _ hI => plain25_3 hI) hs hn h
/-- how many waits come yet -/
def wts (wt j q : Int) : Nat := if j = 2 then (lim wt - q).toNat else 0
theorem wts25 (wt j : Int) {σ : T25_3} (h : I25_3 wt j σ.1 σ.2.1) : fin25_3 wt j σ = (σ.1 ++ List.replicate (wts wt j σ.2.1) 7, σ.2.1 + (wts wt j σ.2.1 : Nat), ()) := by
  refine fin25_3_eq wt j (G := fun σ => (σ.1 ++ List.replicate (wts wt j σ.2.1) 7, σ.2.1 + (wts wt j σ.2.1 : Nat), ())) ?_ ?_ h
  · rintro ⟨out, q, u⟩ hI hs
    have : wts wt j q = 0 := by
      simp only [step25_3] at hs
      unfold wts
      split
      · rename_i hj
        by_cases hq : q < lim wt
        · simp [hj, hq] at hs
        · omega
      · rfl
    simp [this]
  · rintro ⟨out, q, u⟩ hI σ' hs
    obtain ⟨hj, hq, rfl⟩ := next25_3 hI hs
    simp only at hq
    have h1 : wts wt j q = wts wt j (q + 1) + 1 := by unfold wts; rw [if_pos hj, if_pos hj]; omega
    simp only [h1, List.replicate_succ, List.append_assoc, List.cons_append, List.nil_append]
    simp only [Prod.mk.injEq, true_and, and_true]
    omega

/-- the states of a machine cycle, with its waits -/
def cyc (wt : Int) : Nat → List Int
  | 0 => []
  | k + 1 => cyc wt k ++ (((k + 1 : Nat) : Int) :: List.replicate (if k = 1 then (lim wt).toNat else 0) 7)
theorem cyc_len (wt : Int) : ∀ k, (k ≤ 1 → (cyc wt k).length = k) ∧ (cyc wt k).length ≤ k + 65536
  | 0 => ⟨fun _ => rfl, Nat.zero_le _⟩
  | k + 1 => by
    obtain ⟨h1, h2⟩ := cyc_len wt k
    have := lim_le wt
    simp only [cyc, List.length_append, List.length_cons, List.length_replicate]
    split <;> omega
def A25_1 : LAnn := { n := 1000000, s := [(1, ⟨[], .c (.p 9 0)⟩), (5, ⟨[], .c (.v 4361)⟩)], b := itmB9, ids := itmIds ++ [(4361, kI)], ps := [.s 3, .s 6], ks := [.ow 0, kI] }
abbrev K25_1 := Int × Int × Int × Int × Int × Int × Int × Bool × Bool × Int × Unit
abbrev T25_1 := (List Int) × Int × Unit
noncomputable def step25_1 (m : Int) (wt : Int) (out : List Int) (j : Int) : Option T25_1 := bif decide (j ≤ m) then some ((fin25_3 wt j (out ++ [j], 0, ())).1, IntKind.i64.wrap (j + 1), ()) else none
def I25_1 (m : Int) (wt : Int) (out : List Int) (j : Int) : Prop := m ≤ 6 ∧ 1 ≤ j ∧ j ≤ m + 1 ∧ out = cyc wt (j - 1).toNat
def mu25_1 (m : Int) (wt : Int) (out : List Int) (j : Int) : Nat := (m + 1 - j).toNat
noncomputable def tree25_1 (m : Int) (wt : Int) (out : List Int) (j : Int) : RR cfg := .br (decide (j ≤ m)) (.br (bif j == 2 then decide ((fin25_3 wt j (out ++ [j], 0, ())).2.1 < lim wt) else false) .fail (.next [decide (out.length + 1 ≤ mostLen), dec (I25_3 wt j (out ++ [j]) 0)] [.ro 0 (fin25_3 wt j (out ++ [j], 0, ())).1, .i .i64 (IntKind.i64.wrap (j + 1))])) (.stop [])
noncomputable def E25_1 : Sx.Loc → Env cfg → Option (Out × Env cfg) := stepL (gamL []) (loopsL cfg [(3, E25_3)]) Try.f25.ntmps 1 (bodyOf Try.f25 1) A25_1 (fun (κ : K25_1) (σ : T25_1) => I25_1 κ.2.2.2.2.2.2.2.2.2.1 κ.2.2.2.2.2.1 σ.1 σ.2.1) (fun (κ : K25_1) (σ : T25_1) => step25_1 κ.2.2.2.2.2.2.2.2.2.1 κ.2.2.2.2.2.1 σ.1 σ.2.1) (fun (κ : K25_1) (σ : T25_1) => mu25_1 κ.2.2.2.2.2.2.2.2.2.1 κ.2.2.2.2.2.1 σ.1 σ.2.1)
theorem in25_1 {m wt out j} (hI : I25_1 m wt out j) (hj : j ≤ m) : I25_3 wt j (out ++ [j]) 0 := by
  obtain ⟨h1, h2, h3, rfl⟩ := hI
  refine ⟨Int.le_refl _, fun h => ?_⟩
  subst h
  have := (cyc_len wt ((2 : Int) - 1).toNat).1 (by decide)
  simp only [List.length_append, List.length_cons, List.length_nil, this]
  decide
theorem rd25_1 {m wt out j} (hI : I25_1 m wt out j) : (tree25_1 m wt out j).ok ((step25_1 m wt out j).map fun σ => [.ro 0 σ.1, .i .i64 σ.2.1]) := by
  simp only [tree25_1, RR.ok, step25_1, allT_cons, allT_nil, dec_iff, decide_eq_true_eq, decide_eq_false_iff_not]
  refine ⟨fun hj => ?_, fun hj => ⟨by rw [decide_eq_false hj]; rfl, trivial⟩⟩
  have h0 := in25_1 hI hj
  have e := (fin25_3_end wt j (σ := (out ++ [j], 0, ())) h0).1
  unfold step25_3 at e
  refine ⟨fun hc => ?_, fun hc => ⟨by rw [decide_eq_true hj]; rfl, ?_, h0, trivial⟩⟩
  · rw [hc] at e; cases e
  · obtain ⟨h1, h2, h3, rfl⟩ := hI
    have := (cyc_len wt (j - 1).toNat).2
    unfold mostLen
    omega
theorem plain25_1 {m wt out j} (hI : I25_1 m wt out j) : ∀ σ', step25_1 m wt out j = some σ' → I25_1 m wt σ'.1 σ'.2.1 ∧ mu25_1 m wt σ'.1 σ'.2.1 < mu25_1 m wt out j := by
  intro σ' h
  unfold step25_1 at h
  by_cases hj : j ≤ m
  · have h0 := in25_1 hI hj
    obtain ⟨h1, h2, h3, rfl⟩ := hI
    rw [wts25 wt j h0, wrap_next (by omega) (by omega), decide_eq_true hj, cond, Option.some.injEq] at h
    subst h
    refine ⟨⟨h1, by simp only; omega, by simp only; omega, ?_⟩, by simp only [mu25_1]; omega⟩
    simp only
    rw [show (j + 1 - 1).toNat = (j - 1).toNat + 1 by omega, cyc, List.append_assoc]
    simp only [List.singleton_append, List.append_cancel_left_eq, List.cons.injEq]
    refine ⟨by omega, ?_⟩
    unfold wts
    by_cases h2j : j = 2
    · subst h2j; simp
    · rw [if_neg h2j, if_neg (by omega)]
  · rw [decide_eq_false hj, cond] at h; cases h
theorem lok25_1 : LoopsOK cfg Try.f25.ntmps (loopsL cfg [(3, E25_3)]) (bodyOf Try.f25 1) :=
  loopsL_ok (by kernel_rfl) fun p hp => by
    simp only [List.mem_singleton] at hp
    subst hp
    exact out25_3
theorem out25_1 : ∀ m g r, E25_1 m g = some r → OutOK cfg Try.f25.ntmps (stmtFn Try.f25 1) m g r := fun m g r h => stmt_loop (by kernel_rfl) (
  stepL_ok (A := A25_1) (I := fun (κ : K25_1) (σ : T25_1) => I25_1 κ.2.2.2.2.2.2.2.2.2.1 κ.2.2.2.2.2.1 σ.1 σ.2.1) (step := fun (κ : K25_1) (σ : T25_1) => step25_1 κ.2.2.2.2.2.2.2.2.2.1 κ.2.2.2.2.2.1 σ.1 σ.2.1) (μ := fun (κ : K25_1) (σ : T25_1) => mu25_1 κ.2.2.2.2.2.2.2.2.2.1 κ.2.2.2.2.2.1 σ.1 σ.2.1) cfg_ok gamL_nil lok25_1
    (fun κ σ hI => plain25_1 hI) (tree := fun (κ : K25_1) (σ : T25_1) => tree25_1 κ.2.2.2.2.2.2.2.2.2.1 κ.2.2.2.2.2.1 σ.1 σ.2.1) (fun κ σ => by kernel_rfl) (fun κ σ hI => rd25_1 hI) m g r h)
noncomputable def fin25_1 (m : Int) (wt : Int) (σ : T25_1) : T25_1 := stepFin (fun (σ : T25_1) => step25_1 m wt σ.1 σ.2.1) (fun (σ : T25_1) => mu25_1 m wt σ.1 σ.2.1) σ
theorem fin25_1_end (m : Int) (wt : Int) {σ : T25_1} (h : I25_1 m wt σ.1 σ.2.1) : step25_1 m wt (fin25_1 m wt σ).1 (fin25_1 m wt σ).2.1 = none ∧ I25_1 m wt (fin25_1 m wt σ).1 (fin25_1 m wt σ).2.1 := stepFin_end (I := fun (σ : T25_1) => I25_1 m wt σ.1 σ.2.1) (fun _ hI => plain25_1 hI) h
theorem fin25_1_eq (m : Int) (wt : Int) {G : T25_1 → T25_1} (hs : ∀ σ : T25_1, I25_1 m wt σ.1 σ.2.1 → step25_1 m wt σ.1 σ.2.1 = none → G σ = σ) (hn : ∀ σ : T25_1, I25_1 m wt σ.1 σ.2.1 → ∀ σ', step25_1 m wt σ.1 σ.2.1 = some σ' → G σ' = G σ) {σ : T25_1} (h : I25_1 m wt σ.1 σ.2.1) : fin25_1 m wt σ = G σ := stepFin_eq (I := fun (σ : T25_1) => I25_1 m wt σ.1 σ.2.1) (fun _ hI => plain25_1 hI) hs hn h
def A25_5 : LAnn := { n := 5000000, s := [(1, ⟨[], .c (.p 9 0)⟩)], b := itmB9, ids := itmIds, ps := [.s 3, .s 8], ks := [.ow 0, kI] }
/-- the state of an item that is no machine cycle -/
def sel3 (k : Int) : Int := bif IntKind.i64.wrap (k - 2) == 0 then 8 else bif IntKind.i64.wrap (k - 2) == 1 then 9 else 10
abbrev K25_5 := Int × Int × Int × Int × Int × Int × Int × Bool × Bool × Unit
abbrev T25_5 := (List Int) × Int × Unit
def step25_5 (k : Int) (n : Int) (out : List Int) (j : Int) : Option T25_5 := bif decide (j < lim n) then some (out ++ [sel3 k], IntKind.i64.wrap (j + 1), ()) else none
def I25_5 (k : Int) (n : Int) (out : List Int) (j : Int) : Prop := 2 ≤ k ∧ k ≤ 4 ∧ 0 ≤ j ∧ (0 < j → j ≤ lim n) ∧ out = List.replicate j.toNat (sel3 k)
def mu25_5 (k : Int) (n : Int) (out : List Int) (j : Int) : Nat := (lim n - j).toNat
def tree25_5 (k : Int) (n : Int) (out : List Int) (j : Int) : RR cfg := .br (decide (j < lim n)) (.next [decide (0 ≤ IntKind.i64.wrap (k - 2)), decide (IntKind.i64.wrap (k - 2) < ((3 : Nat) : Int)), decide (out.length + 1 ≤ mostLen)] [.ro 0 (out ++ [sel3 k]), .i .i64 (IntKind.i64.wrap (j + 1))]) (.stop [])
noncomputable def E25_5 : Sx.Loc → Env cfg → Option (Out × Env cfg) := stepL (gamL []) (fun _ => none) Try.f25.ntmps 5 (bodyOf Try.f25 5) A25_5 (fun (κ : K25_5) (σ : T25_5) => I25_5 κ.1 κ.2.2.2.2.2.2.1 σ.1 σ.2.1) (fun (κ : K25_5) (σ : T25_5) => step25_5 κ.1 κ.2.2.2.2.2.2.1 σ.1 σ.2.1) (fun (κ : K25_5) (σ : T25_5) => mu25_5 κ.1 κ.2.2.2.2.2.2.1 σ.1 σ.2.1)
theorem rd25_5 {k n out j} (hI : I25_5 k n out j) : (tree25_5 k n out j).ok ((step25_5 k n out j).map fun σ => [.ro 0 σ.1, .i .i64 σ.2.1]) := by
  obtain ⟨h1, h2, h3, h4, rfl⟩ := hI
  simp only [tree25_5, RR.ok, step25_5, allT_cons, allT_nil, decide_eq_true_eq, decide_eq_false_iff_not]
  refine ⟨fun hj => ⟨by rw [decide_eq_true hj]; rfl, ?_⟩, fun hj => ⟨by rw [decide_eq_false hj]; rfl, trivial⟩⟩
  have := lim_le n
  rw [wrap_i64 (by omega) (by omega), List.length_replicate]
  unfold mostLen
  refine ⟨by omega, ?_, by omega, trivial⟩
  show k - 2 < 3
  omega
theorem plain25_5 {k n out j} (hI : I25_5 k n out j) : ∀ σ', step25_5 k n out j = some σ' → I25_5 k n σ'.1 σ'.2.1 ∧ mu25_5 k n σ'.1 σ'.2.1 < mu25_5 k n out j := by
  obtain ⟨h1, h2, h3, h4, rfl⟩ := hI
  intro σ' h
  unfold step25_5 at h
  have := lim_le n
  by_cases hj : j < lim n
  · rw [wrap_next (by omega) (by omega), decide_eq_true hj, cond, Option.some.injEq] at h
    subst h
    refine ⟨⟨h1, h2, by simp only; omega, by simp only; omega, ?_⟩, by simp only [mu25_5]; omega⟩
    simp only
    rw [show (j + 1).toNat = j.toNat + 1 by omega, List.replicate_succ']
  · rw [decide_eq_false hj, cond] at h; cases h
theorem out25_5 : ∀ m g r, E25_5 m g = some r → OutOK cfg Try.f25.ntmps (stmtFn Try.f25 5) m g r := fun m g r h => stmt_loop (by kernel_rfl) (
  stepL_ok (A := A25_5) (I := fun (κ : K25_5) (σ : T25_5) => I25_5 κ.1 κ.2.2.2.2.2.2.1 σ.1 σ.2.1) (step := fun (κ : K25_5) (σ : T25_5) => step25_5 κ.1 κ.2.2.2.2.2.2.1 σ.1 σ.2.1) (μ := fun (κ : K25_5) (σ : T25_5) => mu25_5 κ.1 κ.2.2.2.2.2.2.1 σ.1 σ.2.1) cfg_ok gamL_nil loops_none
    (fun κ σ hI => plain25_5 hI) (tree := fun (κ : K25_5) (σ : T25_5) => tree25_5 κ.1 κ.2.2.2.2.2.2.1 σ.1 σ.2.1) (fun κ σ => by kernel_rfl) (fun κ σ hI => rd25_5 hI) m g r h)
noncomputable def fin25_5 (k : Int) (n : Int) (σ : T25_5) : T25_5 := stepFin (fun (σ : T25_5) => step25_5 k n σ.1 σ.2.1) (fun (σ : T25_5) => mu25_5 k n σ.1 σ.2.1) σ
theorem fin25_5_end (k : Int) (n : Int) {σ : T25_5} (h : I25_5 k n σ.1 σ.2.1) : step25_5 k n (fin25_5 k n σ).1 (fin25_5 k n σ).2.1 = none ∧ I25_5 k n (fin25_5 k n σ).1 (fin25_5 k n σ).2.1 := stepFin_end (I := fun (σ : T25_5) => I25_5 k n σ.1 σ.2.1) (fun _ hI => plain25_5 hI) h
theorem fin25_5_eq (k : Int) (n : Int) {G : T25_5 → T25_5} (hs : ∀ σ : T25_5, I25_5 k n σ.1 σ.2.1 → step25_5 k n σ.1 σ.2.1 = none → G σ = σ) (hn : ∀ σ : T25_5, I25_5 k n σ.1 σ.2.1 → ∀ σ', step25_5 k n σ.1 σ.2.1 = some σ' → G σ' = G σ) {σ : T25_5} (h : I25_5 k n σ.1 σ.2.1) : fin25_5 k n σ = G σ := stepFin_eq (I := fun (σ : T25_5) => I25_5 k n σ.1 σ.2.1) (fun _ hI => plain25_5 hI) hs hn h

noncomputable def toItm (x : KsT cfg itmK) : Itm := { kind := x.1, ck := x.2.1, at' := x.2.2.1, data := x.2.2.2.1, states := x.2.2.2.2.1, waits := x.2.2.2.2.2.1, n := x.2.2.2.2.2.2.1, inte := x.2.2.2.2.2.2.2.1, sod := x.2.2.2.2.2.2.2.2.1 }
/-- how many states of a machine cycle there are -/
def cycN (x : Itm) : Int := mxI 1 (mnI x.n (mxI 3 (mnI x.states 6)))
/-- the states of an item -/
def statesF (x : Itm) : List Int := if x.kind = 1 then cyc x.waits (cycN x).toNat else if 2 ≤ x.kind ∧ x.kind ≤ 4 then List.replicate (lim x.n).toNat (x.kind + 6) else []
noncomputable def S25 : FSum cfg := FSum.of [.v true itmK] [.v false [.ro 0]] (fun _ => []) (fun x => ((statesF (toItm x.1), ()), ()))
noncomputable def tree_25 (x : Itm) : RT cfg :=
  let f1 := fin25_1 (cycN x) x.waits ([], 1, ())
  let f5 := fin25_5 x.kind x.n ([], 0, ())
  .br (x.kind == 1) (.br (decide (f1.2.1 ≤ cycN x)) (.br (bif f1.2.1 == 2 then decide ((fin25_3 x.waits f1.2.1 (f1.1 ++ [f1.2.1], 0, ())).2.1 < lim x.waits) else false) .fail .fail) (.ret [dec (I25_1 (cycN x) x.waits [] 1)] [[.ro 0 f1.1]]))
    (.br (bif x.kind == 2 then x.kind == 2 else bif x.kind == 3 then x.kind == 3 else x.kind == 4) (.br (decide (f5.2.1 < lim x.n)) .fail (.ret [dec (I25_5 x.kind x.n [] 0)] [[.ro 0 f5.1]])) (.ret [] [[.ro 0 []]]))
theorem sel3_of {k : Int} (h1 : 2 ≤ k) (h2 : k ≤ 4) : sel3 k = k + 6 := by
  unfold sel3
  rw [wrap_i64 (by omega) (by omega)]
  rcases (by omega : k = 2 ∨ k = 3 ∨ k = 4) with rfl | rfl | rfl <;> rfl
theorem cycN_le (x : Itm) : 1 ≤ cycN x ∧ cycN x ≤ 6 := by unfold cycN mxI mnI; repeat' split <;> omega
theorem ret25 (x : Itm) : (tree_25 x).ok [[.ro 0 (statesF x)]] := by
  obtain ⟨c1, c2⟩ := cycN_le x
  simp only [tree_25, RT.ok, allT_cons, allT_nil, dec_iff, decide_eq_true_eq, decide_eq_false_iff_not]
  refine ⟨fun hk => ?_, fun hk => ⟨fun hk2 => ?_, fun hk2 => ?_⟩⟩
  · have hk : x.kind = 1 := by simpa using hk
    have h0 : I25_1 (cycN x) x.waits [] 1 := ⟨c2, Int.le_refl _, by omega, rfl⟩
    obtain ⟨e, h1, h2, h3, h4⟩ := fin25_1_end (cycN x) x.waits (σ := ([], 1, ())) h0
    generalize fin25_1 (cycN x) x.waits ([], 1, ()) = f at e h1 h2 h3 h4 ⊢
    by_cases hj : f.2.1 ≤ cycN x
    · unfold step25_1 at e
      rw [decide_eq_true hj] at e; cases e
    · refine ⟨fun h => absurd h hj, fun _ => ⟨?_, h0, trivial⟩⟩
      rw [h4]
      unfold statesF
      rw [if_pos hk, show f.2.1 - 1 = cycN x by omega]
  · have hk2 : 2 ≤ x.kind ∧ x.kind ≤ 4 := by
      by_cases h2 : x.kind = 2
      · omega
      · by_cases h3 : x.kind = 3
        · omega
        · simp [h2, h3] at hk2; omega
    have h0 : I25_5 x.kind x.n [] 0 := ⟨hk2.1, hk2.2, Int.le_refl _, fun h => by omega, rfl⟩
    obtain ⟨e, h1, h2, h3, h4, h5⟩ := fin25_5_end x.kind x.n (σ := ([], 0, ())) h0
    generalize fin25_5 x.kind x.n ([], 0, ()) = f at e h1 h2 h3 h4 h5 ⊢
    by_cases hj : f.2.1 < lim x.n
    · unfold step25_5 at e
      rw [decide_eq_true hj] at e; cases e
    · refine ⟨fun h => absurd h hj, fun _ => ⟨?_, h0, trivial⟩⟩
      rw [h5, sel3_of hk2.1 hk2.2]
      unfold statesF
      rw [if_neg (by omega), if_pos hk2]
      by_cases hz : 0 < f.2.1
      · rw [show f.2.1 = lim x.n by have := h4 hz; omega]
      · rw [show f.2.1.toNat = (lim x.n).toNat by omega]
  · have hk : x.kind ≠ 1 := by simpa using hk
    have : x.kind ≠ 2 ∧ x.kind ≠ 3 ∧ x.kind ≠ 4 := by
      by_cases h2 : x.kind = 2
      · simp [h2] at hk2
      · by_cases h3 : x.kind = 3
        · simp [h3] at hk2
        · simp [h2, h3] at hk2; exact ⟨h2, h3, hk2⟩
    unfold statesF
    rw [if_neg hk, if_neg (by omega)]
    trivial
theorem lok25 : ∀ p ∈ [(1, E25_1), (5, E25_5)], ∀ m g r, p.2 m g = some r → OutOK cfg Try.f25.ntmps (stmtFn Try.f25 p.1) m g r := by
  intro p hp
  simp only [List.mem_cons, List.not_mem_nil, or_false] at hp
  rcases hp with rfl | rfl
  · exact out25_1
  · exact out25_5
theorem ok25 : FnOK cfg 25 S25 :=
  fn_loops (l := [(1, E25_1), (5, E25_5)]) (tree := fun x => tree_25 (toItm x.1)) cfg_ok gamL_nil (fn := Try.f25) (by kernel_rfl) rfl (by kernel_rfl) lok25 (fun x => by kernel_rfl) (fun x h => ret25 _)
end Go.Proofs.Ytbdgnghllalbgaa

/- Contracts: tstateref20.Pins and Expand. -/
namespace Go.Proofs.Ytbdgnghllalbgaa
open Go Go.Sx
set_option maxRecDepth 100000
/-- the pins of a state, by the reference -/
def refPins (chip st ck ad da bus : Int) (inte sod : Bool) : Pns :=
  let on := on85F chip
  let h := st == 8
  let l := st == 9
  let r := st == 10
  let t1 := st == 1
  let ack := bif ck == 8 then true else ck == 9
  let sync := bif bif t1 then ck != 11 else false then ck != 12 else false
  let mid := bif bif st == 2 then true else st == 7 then true else st == 3
  let rd := bif mid then readsR ck else false
  let wr := bif mid then writesF ck else false
  let d := bif bif st == 3 then readsR ck else false then bus else bif wr then da else 0
  { st := st
    ad := bif h then 0 else bif l then bif !on then ad else 0 else bif r then 0 else ad
    da := bif h then 0 else bif l then 0 else bif r then 0 else bif on then bif t1 then IntKind.u8.wrap ad else d else bif sync then byteF ck else d
    sync := bif h then false else bif l then false else bif r then false else bif on then false else bif sync then true else false
    dbin := bif h then false else bif l then false else bif r then false else bif on then false else rd
    wait := bif h then false else bif l then !on else bif r then false else bif on then false else st == 7
    inte := bif !on then inte else false
    ale := bif h then false else bif l then false else bif r then false else bif on then t1 else false
    iom := bif h then false else bif l then false else bif r then false else bif on then (linesF ck).1 else false
    s1 := bif h then false else bif l then false else bif r then false else bif on then (linesF ck).2.1 else false
    s0 := bif h then false else bif l then false else bif r then false else bif on then (linesF ck).2.2 else false
    rd := bif h then false else bif l then false else bif r then false else bif on then bif rd then !ack else false else false
    inta := bif h then false else bif l then false else bif r then false else bif on then bif mid then ack else false else false
    sod := bif on then sod else false
    wr := bif h then false else bif l then false else bif r then false else bif on then wr else bif writesF ck then bif st == 7 then true else st == 3 else false
    hlda := bif h then true else false
    flt := bif h then true else bif l then on else bif r then on else false }
def cyK : List Kind := [kI, .i .u16, .i .u8, kI]
noncomputable def S26 : FSum cfg := FSum.of [.v false [kI], .v false [kI], .v true cyK, .v false [.i .u8], .v false [kB], .v false [kB]] [.v true pnsK] (fun _ => [])
  (fun x => (ofPns (refPins x.1.1 x.2.1.1 x.2.2.1.1 x.2.2.1.2.1 x.2.2.1.2.2.1 x.2.2.2.1.1 x.2.2.2.2.1.1 x.2.2.2.2.2.1.1), ()))
theorem en18 : Enters cfg.P 18 := enters_of (fn := Try.f18) (by kernel_rfl) (by kernel_rfl) (by kernel_rfl)
theorem en19 : Enters cfg.P 19 := enters_of (fn := Try.f19) (by kernel_rfl) (by kernel_rfl) (by kernel_rfl)
theorem en37 : Enters cfg.P 37 := enters_of (fn := Try.f37) (by kernel_rfl) (by kernel_rfl) (by kernel_rfl)
theorem en38 : Enters cfg.P 38 := enters_of (fn := Try.f38) (by kernel_rfl) (by kernel_rfl) (by kernel_rfl)
theorem en39 : Enters cfg.P 39 := enters_of (fn := Try.f39) (by kernel_rfl) (by kernel_rfl) (by kernel_rfl)
noncomputable def G26 : Nat → Option (FSum cfg) := gamL [(18, S18), (19, S33), (37, S37), (38, S41), (39, S42)]
theorem g26 : GamOK cfg G26 := gamL_cons en18 ok18 (gamL_cons en19 ok19 (gamL_cons en37 ok37 (gamL_cons en38 ok38 (gamL_cons en39 ok39 gamL_nil))))
theorem ok26 : FnOK cfg 26 S26 := fn_flat cfg_ok g26 (fn := Try.f26) (by kernel_rfl) rfl (fun x _ => ⟨[], by kernel_rfl, by simp⟩)
end Go.Proofs.Ytbdgnghllalbgaa

/- Contracts: tstateref20.Expand. -/
namespace Go.Sx
theorem drop_next {α : Type} {ss : List α} {j : Int} (d : α) (h0 : 0 ≤ j) (h : j < (ss.length : Int)) : ss.drop j.toNat = ss.getD j.toNat d :: ss.drop (j + 1).toNat := by
  have l1 : j.toNat < ss.length := by omega
  rw [List.drop_eq_getElem_cons l1, show (j + 1).toNat = j.toNat + 1 by omega]
  simp [List.getD_eq_getElem?_getD, List.getElem?_eq_getElem l1]
theorem take_next {α : Type} {ss : List α} {j : Int} (d : α) (h0 : 0 ≤ j) (h : j < (ss.length : Int)) : ss.take (j + 1).toNat = ss.take j.toNat ++ [ss.getD j.toNat d] := by
  have l1 : j.toNat < ss.length := by omega
  rw [show (j + 1).toNat = j.toNat + 1 by omega, List.take_succ_eq_append_getElem l1]
  simp [List.getD_eq_getElem?_getD, List.getElem?_eq_getElem l1]
theorem drop_end {α : Type} {ss : List α} {j : Int} (h : ¬ j < (ss.length : Int)) : ss.drop j.toNat = [] := List.drop_eq_nil_of_le (by omega)
end Go.Sx
namespace Go.Proofs.Ytbdgnghllalbgaa
open Go Go.Sx
set_option maxRecDepth 100000
theorem en25 : Enters cfg.P 25 := enters_of (fn := Try.f25) (by kernel_rfl) (by kernel_rfl) (by kernel_rfl)
theorem en26 : Enters cfg.P 26 := enters_of (fn := Try.f26) (by kernel_rfl) (by kernel_rfl) (by kernel_rfl)
noncomputable def G12 : Nat → Option (FSum cfg) := gamL [(25, S25), (26, S26)]
theorem g12 : GamOK cfg G12 := gamL_cons en25 ok25 (gamL_cons en26 ok26 gamL_nil)
def A12_2 : LAnn := { n := 2000000, s := [(0, ⟨[], .c (.v 0)⟩), (7, ⟨[], .c (.p 1001024 0)⟩), (11, ⟨[], .c (.v 770)⟩), (17, ⟨[], .c (.v 1001792)⟩), (12, ⟨[], .c (.v 1000001)⟩), (10, ⟨[], .c (.v 1)⟩), (18, ⟨[], .c (.v 1002048)⟩)], b := [(1001024, .c 44 [.v 1000768, .v 1000769, .v 1000770, .v 1000771, .v 1000772, .v 1000773, .v 1000774, .v 1000775, .v 1000776])], ids := [(0, kI), (1, .ro 1), (770, kI), (1000001, kI), (1000768, kI), (1000769, kI), (1000770, .i .u16), (1000771, .i .u8), (1000772, kI), (1000773, kI), (1000774, kI), (1000775, kB), (1000776, kB), (1001792, .ro 0), (1002048, kI)], ps := [.s 19, .s 5], ks := [kI, .ow 2] }
abbrev K12_2 := Int × (List Itm) × Int × Int × Int × Int × Int × Int × Int × Int × Int × Bool × Bool × (List Int) × Int × Unit
abbrev T12_2 := Int × (List Pns) × Unit
def pin12 (chip ck a d : Int) (inte sod : Bool) (s : Int) : Pns := refPins chip s ck a d d inte sod
def step12_2 (chip : Int) (ck : Int) (a : Int) (d : Int) (inte : Bool) (sod : Bool) (ss : List Int) (m : Int) (j : Int) (out : List Pns) : Option T12_2 := bif decide (j < m) then some (IntKind.i64.wrap (j + 1), out ++ [pin12 chip ck a d inte sod (ss.getD j.toNat 0)], ()) else none
def I12_2 (chip : Int) (ck : Int) (a : Int) (d : Int) (inte : Bool) (sod : Bool) (ss : List Int) (m : Int) (j : Int) (out : List Pns) : Prop := ss.length ≤ mostLen ∧ m = ss.length ∧ 0 ≤ j ∧ j ≤ m ∧ out.length + (ss.drop j.toNat).length ≤ mostLen
def mu12_2 (chip : Int) (ck : Int) (a : Int) (d : Int) (inte : Bool) (sod : Bool) (ss : List Int) (m : Int) (j : Int) (out : List Pns) : Nat := (m - j).toNat
noncomputable def tree12_2 (chip : Int) (ck : Int) (a : Int) (d : Int) (inte : Bool) (sod : Bool) (ss : List Int) (m : Int) (j : Int) (out : List Pns) : RR cfg := .br (decide (j < m)) (.next [decide (0 ≤ j), decide (j < (ss.length : Int)), decide (out.length + 1 ≤ mostLen)] [.i .i64 (IntKind.i64.wrap (j + 1)), .ro 2 (out ++ [pin12 chip ck a d inte sod (ss.getD j.toNat 0)])]) (.stop [])
noncomputable def E12_2 : Sx.Loc → Env cfg → Option (Out × Env cfg) := stepL (G12) (fun _ => none) Try.f12.ntmps 2 (bodyOf Try.f12 2) A12_2 (fun (κ : K12_2) (σ : T12_2) => I12_2 κ.1 κ.2.2.2.2.2.1 κ.2.2.2.2.2.2.1 κ.2.2.2.2.2.2.2.1 κ.2.2.2.2.2.2.2.2.2.2.2.1 κ.2.2.2.2.2.2.2.2.2.2.2.2.1 κ.2.2.2.2.2.2.2.2.2.2.2.2.2.1 κ.2.2.2.2.2.2.2.2.2.2.2.2.2.2.1 σ.1 σ.2.1) (fun (κ : K12_2) (σ : T12_2) => step12_2 κ.1 κ.2.2.2.2.2.1 κ.2.2.2.2.2.2.1 κ.2.2.2.2.2.2.2.1 κ.2.2.2.2.2.2.2.2.2.2.2.1 κ.2.2.2.2.2.2.2.2.2.2.2.2.1 κ.2.2.2.2.2.2.2.2.2.2.2.2.2.1 κ.2.2.2.2.2.2.2.2.2.2.2.2.2.2.1 σ.1 σ.2.1) (fun (κ : K12_2) (σ : T12_2) => mu12_2 κ.1 κ.2.2.2.2.2.1 κ.2.2.2.2.2.2.1 κ.2.2.2.2.2.2.2.1 κ.2.2.2.2.2.2.2.2.2.2.2.1 κ.2.2.2.2.2.2.2.2.2.2.2.2.1 κ.2.2.2.2.2.2.2.2.2.2.2.2.2.1 κ.2.2.2.2.2.2.2.2.2.2.2.2.2.2.1 σ.1 σ.2.1)
theorem rd12_2 {chip ck a d inte sod ss m j out} (hI : I12_2 chip ck a d inte sod ss m j out) : (tree12_2 chip ck a d inte sod ss m j out).ok ((step12_2 chip ck a d inte sod ss m j out).map fun σ => [.i .i64 σ.1, .ro 2 σ.2.1]) := by
  obtain ⟨h0, h1, h2, h3, h4⟩ := hI
  simp only [tree12_2, RR.ok, step12_2, allT_cons, allT_nil, decide_eq_true_eq, decide_eq_false_iff_not]
  refine ⟨fun hj => ⟨by rw [decide_eq_true hj]; rfl, ?_⟩, fun hj => ⟨by rw [decide_eq_false hj]; rfl, trivial⟩⟩
  rw [drop_next 0 h2 (by omega)] at h4
  simp only [List.length_cons] at h4
  exact ⟨h2, by omega, by omega, trivial⟩
theorem plain12_2 {chip ck a d inte sod ss m j out} (hI : I12_2 chip ck a d inte sod ss m j out) : ∀ σ', step12_2 chip ck a d inte sod ss m j out = some σ' → I12_2 chip ck a d inte sod ss m σ'.1 σ'.2.1 ∧ mu12_2 chip ck a d inte sod ss m σ'.1 σ'.2.1 < mu12_2 chip ck a d inte sod ss m j out := by
  obtain ⟨h0, h1, h2, h3, h4⟩ := hI
  intro σ' h
  unfold step12_2 at h
  by_cases hj : j < m
  · rw [wrap_next (by unfold mostLen at h0; omega) h2, decide_eq_true hj, cond, Option.some.injEq] at h
    subst h
    rw [drop_next 0 h2 (by omega)] at h4
    simp only [List.length_cons] at h4
    refine ⟨⟨h0, h1, by simp only; omega, by simp only; omega, by simp only [List.length_append, List.length_cons, List.length_nil]; omega⟩, by simp only [mu12_2]; omega⟩
  · rw [decide_eq_false hj, cond] at h; cases h
theorem out12_2 : ∀ m g r, E12_2 m g = some r → OutOK cfg Try.f12.ntmps (stmtFn Try.f12 2) m g r := fun m g r h => stmt_loop (by kernel_rfl) (
  stepL_ok (A := A12_2) (I := fun (κ : K12_2) (σ : T12_2) => I12_2 κ.1 κ.2.2.2.2.2.1 κ.2.2.2.2.2.2.1 κ.2.2.2.2.2.2.2.1 κ.2.2.2.2.2.2.2.2.2.2.2.1 κ.2.2.2.2.2.2.2.2.2.2.2.2.1 κ.2.2.2.2.2.2.2.2.2.2.2.2.2.1 κ.2.2.2.2.2.2.2.2.2.2.2.2.2.2.1 σ.1 σ.2.1) (step := fun (κ : K12_2) (σ : T12_2) => step12_2 κ.1 κ.2.2.2.2.2.1 κ.2.2.2.2.2.2.1 κ.2.2.2.2.2.2.2.1 κ.2.2.2.2.2.2.2.2.2.2.2.1 κ.2.2.2.2.2.2.2.2.2.2.2.2.1 κ.2.2.2.2.2.2.2.2.2.2.2.2.2.1 κ.2.2.2.2.2.2.2.2.2.2.2.2.2.2.1 σ.1 σ.2.1) (μ := fun (κ : K12_2) (σ : T12_2) => mu12_2 κ.1 κ.2.2.2.2.2.1 κ.2.2.2.2.2.2.1 κ.2.2.2.2.2.2.2.1 κ.2.2.2.2.2.2.2.2.2.2.2.1 κ.2.2.2.2.2.2.2.2.2.2.2.2.1 κ.2.2.2.2.2.2.2.2.2.2.2.2.2.1 κ.2.2.2.2.2.2.2.2.2.2.2.2.2.2.1 σ.1 σ.2.1) cfg_ok g12 loops_none
    (fun κ σ hI => plain12_2 hI) (tree := fun (κ : K12_2) (σ : T12_2) => tree12_2 κ.1 κ.2.2.2.2.2.1 κ.2.2.2.2.2.2.1 κ.2.2.2.2.2.2.2.1 κ.2.2.2.2.2.2.2.2.2.2.2.1 κ.2.2.2.2.2.2.2.2.2.2.2.2.1 κ.2.2.2.2.2.2.2.2.2.2.2.2.2.1 κ.2.2.2.2.2.2.2.2.2.2.2.2.2.2.1 σ.1 σ.2.1) (fun κ σ => by kernel_rfl) (fun κ σ hI => rd12_2 hI) m g r h)
noncomputable def fin12_2 (chip : Int) (ck : Int) (a : Int) (d : Int) (inte : Bool) (sod : Bool) (ss : List Int) (m : Int) (σ : T12_2) : T12_2 := stepFin (fun (σ : T12_2) => step12_2 chip ck a d inte sod ss m σ.1 σ.2.1) (fun (σ : T12_2) => mu12_2 chip ck a d inte sod ss m σ.1 σ.2.1) σ
theorem fin12_2_end (chip : Int) (ck : Int) (a : Int) (d : Int) (inte : Bool) (sod : Bool) (ss : List Int) (m : Int) {σ : T12_2} (h : I12_2 chip ck a d inte sod ss m σ.1 σ.2.1) : step12_2 chip ck a d inte sod ss m (fin12_2 chip ck a d inte sod ss m σ).1 (fin12_2 chip ck a d inte sod ss m σ).2.1 = none ∧ I12_2 chip ck a d inte sod ss m (fin12_2 chip ck a d inte sod ss m σ).1 (fin12_2 chip ck a d inte sod ss m σ).2.1 := stepFin_end (I := fun (σ : T12_2) => I12_2 chip ck a d inte sod ss m σ.1 σ.2.1) (fun _ hI => plain12_2 hI) h
theorem fin12_2_eq (chip : Int) (ck : Int) (a : Int) (d : Int) (inte : Bool) (sod : Bool) (ss : List Int) (m : Int) {G : T12_2 → T12_2} (hs : ∀ σ : T12_2, I12_2 chip ck a d inte sod ss m σ.1 σ.2.1 → step12_2 chip ck a d inte sod ss m σ.1 σ.2.1 = none → G σ = σ) (hn : ∀ σ : T12_2, I12_2 chip ck a d inte sod ss m σ.1 σ.2.1 → ∀ σ', step12_2 chip ck a d inte sod ss m σ.1 σ.2.1 = some σ' → G σ' = G σ) {σ : T12_2} (h : I12_2 chip ck a d inte sod ss m σ.1 σ.2.1) : fin12_2 chip ck a d inte sod ss m σ = G σ := stepFin_eq (I := fun (σ : T12_2) => I12_2 chip ck a d inte sod ss m σ.1 σ.2.1) (fun _ hI => plain12_2 hI) hs hn h

theorem app12 {chip ck a d : Int} {inte sod : Bool} {ss : List Int} {m : Int} {σ : T12_2} (h : I12_2 chip ck a d inte sod ss m σ.1 σ.2.1) : fin12_2 chip ck a d inte sod ss m σ = (m, σ.2.1 ++ (ss.drop σ.1.toNat).map (pin12 chip ck a d inte sod), ()) := by
  refine fin12_2_eq chip ck a d inte sod ss m (G := fun σ => (m, σ.2.1 ++ (ss.drop σ.1.toNat).map (pin12 chip ck a d inte sod), ())) ?_ ?_ h
  · rintro ⟨j, out, u⟩ ⟨h0, h1, h2, h3, h4⟩ hs
    simp only at h1 h2 h3 h4
    unfold step12_2 at hs
    by_cases hj : j < m
    · rw [decide_eq_true hj] at hs; cases hs
    · simp only
      rw [drop_end (by omega), show m = j by omega]
      simp
  · rintro ⟨j, out, u⟩ ⟨h0, h1, h2, h3, h4⟩ σ' hs
    simp only at h1 h2 h3 h4
    unfold step12_2 at hs
    simp only at hs
    by_cases hj : j < m
    · rw [wrap_next (by unfold mostLen at h0; omega) h2, decide_eq_true hj, cond, Option.some.injEq] at hs
      subst hs
      simp only
      rw [drop_next 0 h2 (by omega)]
      simp
    · rw [decide_eq_false hj, cond] at hs; cases hs
def A12_0 : LAnn := { n := 1000000, s := [(0, ⟨[], .c (.v 0)⟩), (10, ⟨[], .c (.v 1)⟩), (11, ⟨[], .c (.v 770)⟩)], b := [], ids := [(0, kI), (1, .ro 1), (770, kI)], ps := [.s 5, .s 12], ks := [.ow 2, kI] }
/-- the pins of an item, by the reference -/
def expandI (chip : Int) (x : Itm) : List Pns := (statesF x).map (pin12 chip x.ck x.at' x.data x.inte x.sod)
def expandR (chip : Int) (l : List Itm) : List Pns := l.flatMap (expandI chip)
def iz : Itm := ⟨0, 0, 0, 0, 0, 0, 0, false, false⟩
theorem statesF_len (x : Itm) : (statesF x).length ≤ 70000 := by
  unfold statesF
  split
  · have := (cyc_len x.waits (cycN x).toNat).2
    have := cycN_le x
    omega
  · split
    · rw [List.length_replicate]; have := lim_le x.n; omega
    · simp
abbrev K12_0 := Int × (List Itm) × Int × Unit
abbrev T12_0 := (List Pns) × Int × Unit
noncomputable def f12_0 (chip : Int) (x : Itm) (out : List Pns) : T12_2 := fin12_2 chip x.ck x.at' x.data x.inte x.sod (statesF x) (statesF x).length (0, out, ())
noncomputable def step12_0 (chip : Int) (l : List Itm) (n : Int) (out : List Pns) (i : Int) : Option T12_0 := bif decide (i < n) then some ((f12_0 chip (l.getD i.toNat iz) out).2.1, IntKind.i64.wrap (i + 1), ()) else none
def I12_0 (chip : Int) (l : List Itm) (n : Int) (out : List Pns) (i : Int) : Prop := n = l.length ∧ l.length ≤ topLen ∧ 0 ≤ i ∧ i ≤ n ∧ (expandR chip l).length ≤ mostLen ∧ out = expandR chip (l.take i.toNat)
def mu12_0 (chip : Int) (l : List Itm) (n : Int) (out : List Pns) (i : Int) : Nat := (n - i).toNat
noncomputable def tree12_0 (chip : Int) (l : List Itm) (n : Int) (out : List Pns) (i : Int) : RR cfg :=
  let x := l.getD i.toNat iz
  let f := f12_0 chip x out
  .br (decide (i < n)) (.br (decide (f.1 < ((statesF x).length : Int))) .fail (.next [decide (0 ≤ i), decide (i < (l.length : Int)), dec (I12_2 chip x.ck x.at' x.data x.inte x.sod (statesF x) (statesF x).length 0 out)] [.ro 2 f.2.1, .i .i64 (IntKind.i64.wrap (i + 1))])) (.stop [])
noncomputable def E12_0 : Sx.Loc → Env cfg → Option (Out × Env cfg) := stepL (G12) (loopsL cfg [(2, E12_2)]) Try.f12.ntmps 0 (bodyOf Try.f12 0) A12_0 (fun (κ : K12_0) (σ : T12_0) => I12_0 κ.1 κ.2.1 κ.2.2.1 σ.1 σ.2.1) (fun (κ : K12_0) (σ : T12_0) => step12_0 κ.1 κ.2.1 κ.2.2.1 σ.1 σ.2.1) (fun (κ : K12_0) (σ : T12_0) => mu12_0 κ.1 κ.2.1 κ.2.2.1 σ.1 σ.2.1)
theorem len12 {chip : Int} {l : List Itm} {i : Int} (h0 : 0 ≤ i) (h : i < (l.length : Int)) : (expandR chip (l.take i.toNat)).length + (statesF (l.getD i.toNat iz)).length ≤ (expandR chip l).length := by
  have e : l = l.take i.toNat ++ l.drop i.toNat := (List.take_append_drop ..).symm
  have e2 : (expandR chip l).length = (expandR chip (l.take i.toNat)).length + (expandR chip (l.drop i.toNat)).length := by
    conv => lhs; rw [e]
    simp only [expandR, List.flatMap_append, List.length_append]
  rw [e2, drop_next iz h0 h]
  simp only [expandR, List.flatMap_cons, List.length_append, expandI, List.length_map]
  omega
theorem in12_0 {chip l n out i} (hI : I12_0 chip l n out i) (hi : i < n) : I12_2 chip (l.getD i.toNat iz).ck (l.getD i.toNat iz).at' (l.getD i.toNat iz).data (l.getD i.toNat iz).inte (l.getD i.toNat iz).sod (statesF (l.getD i.toNat iz)) (statesF (l.getD i.toNat iz)).length 0 out := by
  obtain ⟨h1, h2, h3, h4, h5, rfl⟩ := hI
  have := len12 (chip := chip) (l := l) h3 (by omega)
  have := statesF_len (l.getD i.toNat iz)
  refine ⟨by unfold mostLen; omega, rfl, Int.le_refl _, by omega, ?_⟩
  simp only [Int.toNat_zero, List.drop_zero]
  omega
theorem rd12_0 {chip l n out i} (hI : I12_0 chip l n out i) : (tree12_0 chip l n out i).ok ((step12_0 chip l n out i).map fun σ => [.ro 2 σ.1, .i .i64 σ.2.1]) := by
  simp only [tree12_0, RR.ok, step12_0, allT_cons, allT_nil, dec_iff, decide_eq_true_eq, decide_eq_false_iff_not]
  refine ⟨fun hi => ?_, fun hi => ⟨by rw [decide_eq_false hi]; rfl, trivial⟩⟩
  have h0 := in12_0 hI hi
  refine ⟨fun hf => ?_, fun _ => ⟨by rw [decide_eq_true hi]; rfl, ?_, ?_, h0, trivial⟩⟩
  · unfold f12_0 at hf
    rw [app12 (σ := (0, out, ())) h0] at hf
    simp at hf
  · exact hI.2.2.1
  · have := hI.1; omega
theorem plain12_0 {chip l n out i} (hI : I12_0 chip l n out i) : ∀ σ', step12_0 chip l n out i = some σ' → I12_0 chip l n σ'.1 σ'.2.1 ∧ mu12_0 chip l n σ'.1 σ'.2.1 < mu12_0 chip l n out i := by
  intro σ' h
  unfold step12_0 at h
  by_cases hi : i < n
  · have h0 := in12_0 hI hi
    obtain ⟨h1, h2, h3, h4, h5, rfl⟩ := hI
    unfold f12_0 at h
    rw [app12 (σ := (0, expandR chip (l.take i.toNat), ())) h0, wrap_next (by unfold topLen at h2; omega) h3, decide_eq_true hi, cond, Option.some.injEq] at h
    subst h
    refine ⟨⟨h1, h2, by simp only; omega, by simp only; omega, h5, ?_⟩, by simp only [mu12_0]; omega⟩
    simp only
    rw [take_next iz h3 (by omega)]
    simp [expandR, expandI]
  · rw [decide_eq_false hi, cond] at h; cases h
theorem lok12_0 : LoopsOK cfg Try.f12.ntmps (loopsL cfg [(2, E12_2)]) (bodyOf Try.f12 0) :=
  loopsL_ok (by kernel_rfl) fun p hp => by
    simp only [List.mem_singleton] at hp
    subst hp
    exact out12_2
theorem out12_0 : ∀ m g r, E12_0 m g = some r → OutOK cfg Try.f12.ntmps (stmtFn Try.f12 0) m g r := fun m g r h => stmt_loop (by kernel_rfl) (
  stepL_ok (A := A12_0) (I := fun (κ : K12_0) (σ : T12_0) => I12_0 κ.1 κ.2.1 κ.2.2.1 σ.1 σ.2.1) (step := fun (κ : K12_0) (σ : T12_0) => step12_0 κ.1 κ.2.1 κ.2.2.1 σ.1 σ.2.1) (μ := fun (κ : K12_0) (σ : T12_0) => mu12_0 κ.1 κ.2.1 κ.2.2.1 σ.1 σ.2.1) cfg_ok g12 lok12_0
    (fun κ σ hI => plain12_0 hI) (tree := fun (κ : K12_0) (σ : T12_0) => tree12_0 κ.1 κ.2.1 κ.2.2.1 σ.1 σ.2.1) (fun κ σ => by kernel_rfl) (fun κ σ hI => rd12_0 hI) m g r h)
noncomputable def fin12_0 (chip : Int) (l : List Itm) (n : Int) (σ : T12_0) : T12_0 := stepFin (fun (σ : T12_0) => step12_0 chip l n σ.1 σ.2.1) (fun (σ : T12_0) => mu12_0 chip l n σ.1 σ.2.1) σ
theorem fin12_0_end (chip : Int) (l : List Itm) (n : Int) {σ : T12_0} (h : I12_0 chip l n σ.1 σ.2.1) : step12_0 chip l n (fin12_0 chip l n σ).1 (fin12_0 chip l n σ).2.1 = none ∧ I12_0 chip l n (fin12_0 chip l n σ).1 (fin12_0 chip l n σ).2.1 := stepFin_end (I := fun (σ : T12_0) => I12_0 chip l n σ.1 σ.2.1) (fun _ hI => plain12_0 hI) h
theorem fin12_0_eq (chip : Int) (l : List Itm) (n : Int) {G : T12_0 → T12_0} (hs : ∀ σ : T12_0, I12_0 chip l n σ.1 σ.2.1 → step12_0 chip l n σ.1 σ.2.1 = none → G σ = σ) (hn : ∀ σ : T12_0, I12_0 chip l n σ.1 σ.2.1 → ∀ σ', step12_0 chip l n σ.1 σ.2.1 = some σ' → G σ' = G σ) {σ : T12_0} (h : I12_0 chip l n σ.1 σ.2.1) : fin12_0 chip l n σ = G σ := stepFin_eq (I := fun (σ : T12_0) => I12_0 chip l n σ.1 σ.2.1) (fun _ hI => plain12_0 hI) hs hn h
noncomputable def S12 : FSum cfg := FSum.of [.v false [kI], .v false [.ro 1]] [.v false [.ro 2]] (fun x => [decide (List.length (α := Itm) x.2.1.1 ≤ topLen), decide ((expandR x.1.1 x.2.1.1).length ≤ mostLen)]) (fun x => ((expandR x.1.1 x.2.1.1, ()), ()))
noncomputable def tree_12 (chip : Int) (l : List Itm) : RT cfg :=
  let f := fin12_0 chip l l.length ([], 0, ())
  .br (decide (f.2.1 < (l.length : Int))) (.br (decide ((f12_0 chip (l.getD f.2.1.toNat iz) f.1).1 < ((statesF (l.getD f.2.1.toNat iz)).length : Int))) .fail .fail) (.ret [dec (I12_0 chip l l.length [] 0)] [[.ro 2 f.1]])
theorem ret12 {chip : Int} {l : List Itm} (h1 : l.length ≤ topLen) (h2 : (expandR chip l).length ≤ mostLen) : (tree_12 chip l).ok [[.ro 2 (expandR chip l)]] := by
  simp only [tree_12, RT.ok, allT_cons, allT_nil, dec_iff, decide_eq_true_eq, decide_eq_false_iff_not]
  have h0 : I12_0 chip l l.length [] 0 := ⟨rfl, h1, Int.le_refl _, by omega, h2, rfl⟩
  obtain ⟨e, q1, q2, q3, q4, q5, q6⟩ := fin12_0_end chip l l.length (σ := ([], 0, ())) h0
  generalize fin12_0 chip l l.length ([], 0, ()) = f at e q1 q2 q3 q4 q5 q6 ⊢
  by_cases hj : f.2.1 < (l.length : Int)
  · unfold step12_0 at e
    rw [decide_eq_true hj] at e; cases e
  · refine ⟨fun h => absurd h hj, fun _ => ⟨?_, h0, trivial⟩⟩
    rw [q6, show f.2.1 = (l.length : Int) by omega, Int.toNat_natCast, List.take_length]
theorem lok12 : ∀ p ∈ [(0, E12_0)], ∀ m g r, p.2 m g = some r → OutOK cfg Try.f12.ntmps (stmtFn Try.f12 p.1) m g r := by
  intro p hp
  simp only [List.mem_singleton] at hp
  subst hp
  exact out12_0
theorem ok12 : FnOK cfg 12 S12 :=
  fn_loops (l := [(0, E12_0)]) (tree := fun x => tree_12 x.1.1 x.2.1.1) cfg_ok g12 (fn := Try.f12) (by kernel_rfl) rfl (by kernel_rfl) lok12 (fun x => by kernel_rfl)
    (fun x h => ret12 (of_decide_eq_true (h _ (by exact List.mem_cons_self ..))) (of_decide_eq_true (h _ (by exact List.mem_cons_of_mem _ (List.mem_cons_self ..)))))
end Go.Proofs.Ytbdgnghllalbgaa

/- Contracts: tstatemake.Numbers. -/
namespace Go.Proofs.Ytbdgnghllalbgaa
open Go Go.Sx
set_option maxRecDepth 100000
/-- Place, as Go has it -/
def placeF (x n : Int) : Int := IntKind.i64.wrap ((IntKind.u64.wrap x).tmod (IntKind.u64.wrap n))
theorem wrap_u64 (y : Int) : IntKind.u64.wrap y = y % 18446744073709551616 := by simp [IntKind.wrap, IntKind.bits, IntKind.signed]
theorem placeF_eq (x : Int) {n : Int} (h0 : 0 < n) (h : n ≤ 4611686018427387904) : placeF x n = (x % 18446744073709551616) % n := by
  unfold placeF
  rw [wrap_u64, wrap_u64, Int.emod_eq_of_lt (a := n) (by omega) (by omega), Int.tmod_eq_emod_of_nonneg (Int.emod_nonneg _ (by omega))]
  have h1 := Int.emod_nonneg (x % 18446744073709551616) (show n ≠ 0 by omega)
  have h2 := Int.emod_lt_of_pos (x % 18446744073709551616) h0
  exact wrap_i64 (by omega) (by omega)
theorem placeF_range (x : Int) {n : Int} (h0 : 0 < n) (h : n ≤ 4611686018427387904) : 0 ≤ placeF x n ∧ placeF x n < n := by
  rw [placeF_eq x h0 h]
  exact ⟨Int.emod_nonneg _ (by omega), Int.emod_lt_of_pos _ h0⟩
def okPlace (n : Int) : Prop := 0 < n ∧ n ≤ 4611686018427387904
noncomputable def S13 : FSum cfg := FSum.of [.v false [kI], .v false [kI]] [.v false [kI]] (fun x => [dec (okPlace x.2.1.1)]) (fun x => ((placeF x.1.1 x.2.1.1, ()), ()))
theorem nz64 {n : Int} (h0 : 0 < n) (h1 : n ≤ 4611686018427387904) : (IntKind.u64.wrap n != 0) = true := by
  rw [wrap_u64, Int.emod_eq_of_lt (by omega) (by omega)]
  simp only [bne_iff_ne, ne_eq]
  omega
theorem ok13 : FnOK cfg 13 S13 := fn_loops (l := []) (tree := fun x => .ret [IntKind.u64.wrap x.2.1.1 != 0] [[.i .i64 (placeF x.1.1 x.2.1.1)]]) cfg_ok gamL_nil (fn := Try.f13) (by kernel_rfl) rfl (by kernel_rfl) (fun p hp => by cases hp) (fun x => by kernel_rfl) (fun x h => by
  obtain ⟨⟨x, _⟩, ⟨n, _⟩, _⟩ := x
  have h : allT [dec (okPlace n)] := h
  obtain ⟨h0, h1⟩ := allT_dec.mp h
  refine ⟨rfl, allT_cons.mpr ⟨?_, allT_nil.mpr trivial⟩⟩
  exact nz64 h0 h1)
theorem en13 : Enters cfg.P 13 := enters_of (fn := Try.f13) (by kernel_rfl) (by kernel_rfl) (by kernel_rfl)
abbrev nmK : List Kind := [.ro 0, kI]
abbrev nmP : PSpec := .p 63 nmK 0
noncomputable def S14 : FSum cfg := FSum.of [.v false [.ro 0]] [nmP] (fun _ => []) (fun x => ((x.1.1, (0 : Int), ()), ()))
theorem ok14 : FnOK cfg 14 S14 := fn_flat cfg_ok gamL_nil (fn := Try.f14) (by kernel_rfl) rfl (fun x _ => ⟨[], by kernel_rfl, by simp⟩)
theorem en14 : Enters cfg.P 14 := enters_of (fn := Try.f14) (by kernel_rfl) (by kernel_rfl) (by kernel_rfl)
/-- The next number -/
def nextF (l : List Int) (k n : Int) : Int := bif decide (k ≥ (l.length : Int)) then 0 else placeF (l.getD k.toNat 0) n
theorem nextF_range (l : List Int) (k : Int) {n : Int} (h : okPlace n) : 0 ≤ nextF l k n ∧ nextF l k n < n := by
  unfold nextF
  cases decide (k ≥ (l.length : Int)) with
  | true => exact ⟨Int.le_refl _, h.1⟩
  | false => exact placeF_range _ h.1 h.2
def inc (k : Int) : Int := k + 1
def okK (k : Int) : Prop := 0 ≤ k ∧ k < 1000000000000000
theorem okK_next {k : Int} (h : okK k) : IntKind.i64.wrap (k + 1) = k + 1 := wrap_next (by have := h.2; omega) h.1
noncomputable def S15 : FSum cfg := FSum.of [nmP, .v false [kI]] [.v false [kI]] (fun x => [dec (okK x.1.2.1 ∧ okPlace x.2.1.1)]) (fun x => ((nextF x.1.1 x.1.2.1 x.2.1.1, ()), (x.1.1, inc x.1.2.1, ()), ()))
noncomputable def tree_15 (l : List Int) (k n : Int) : RT cfg :=
  let x0 := (l.length : Int)
  let x1 := IntKind.i64.wrap (k + 1)
  let x2 := decide (k ≥ x0)
  let x3 := IntKind.i64.wrap (x1 - 1)
  .ret [bif x2 then true else decide (0 ≤ x3), bif x2 then true else decide (x3 < x0), bif x2 then true else dec (okPlace n)] [[.i .i64 (bif x2 then 0 else placeF (l.getD x3.toNat 0) n)], [.ro 0 l, .i .i64 (bif x2 then x1 else x1)]]
noncomputable def G15 : Nat → Option (FSum cfg) := gamL [(13, S13)]
theorem g15 : GamOK cfg G15 := gamL_cons en13 ok13 gamL_nil
theorem ret15 {l : List Int} {k n : Int} (hk : okK k) (hn : okPlace n) : (tree_15 l k n).ok [[.i .i64 (nextF l k n)], [.ro 0 l, .i .i64 (inc k)]] := by
  unfold tree_15 inc
  simp only [okK_next hk, show k + 1 - 1 = k by omega, wrap_i64 (n := k) (by have := hk.1; omega) (by have := hk.2; omega), Bool.cond_self]
  refine ⟨rfl, ?_⟩
  by_cases h : k ≥ (l.length : Int)
  · rw [decide_eq_true h]; simp [allT]
  · rw [decide_eq_false h]
    have h1 := hk.1
    have h2 : k < (l.length : Int) := by omega
    simp only [cond, allT_cons, allT_nil, decide_eq_true_eq, dec_iff]
    exact ⟨h1, h2, hn, trivial⟩
theorem ok15 : FnOK cfg 15 S15 := fn_loops (l := []) (tree := fun x => tree_15 x.1.1 x.1.2.1 x.2.1.1) cfg_ok g15 (fn := Try.f15) (by kernel_rfl) rfl (by kernel_rfl) (fun p hp => by cases hp) (fun x => by kernel_rfl) (fun x h => by
  have h : allT [dec (okK x.1.2.1 ∧ okPlace x.2.1.1)] := h
  obtain ⟨h0, h1⟩ := allT_dec.mp h
  exact ret15 h0 h1)
theorem en15 : Enters cfg.P 15 := enters_of (fn := Try.f15) (by kernel_rfl) (by kernel_rfl) (by kernel_rfl)

noncomputable def G16 : Nat → Option (FSum cfg) := gamL [(15, S15)]
theorem g16 : GamOK cfg G16 := gamL_cons en15 ok15 gamL_nil
theorem okK_inc {k : Int} (h : okK k) (h2 : k < 999999999999999) : okK (inc k) := by unfold okK inc at *; omega
/-- k: room for calls yet to come -/
def okN (k n : Int) : Prop := 0 ≤ k ∧ k + n ≤ 1000000000000000
theorem okN_K {k n : Int} (h : okN k n) (hn : 0 < n) : okK k := by unfold okK okN at *; omega
theorem okN_inc {k n : Int} (h : okN k n) : okN (inc k) (n - 1) := by unfold okN inc at *; omega
def flagF (l : List Int) (k : Int) : Bool := nextF l k 2 == 1
noncomputable def S22 : FSum cfg := FSum.of [nmP] [.v false [kB]] (fun x => [dec (okN x.1.2.1 1)]) (fun x => ((flagF x.1.1 x.1.2.1, ()), (x.1.1, inc x.1.2.1, ()), ()))
theorem ok22 : FnOK cfg 22 S22 := fn_loops (l := []) (tree := fun x => .ret [dec (okK x.1.2.1 ∧ okPlace 2)] [[.b (flagF x.1.1 x.1.2.1)], [.ro 0 x.1.1, .i .i64 (inc x.1.2.1)]]) cfg_ok g16 (fn := Try.f22) (by kernel_rfl) rfl (by kernel_rfl) (fun p hp => by cases hp) (fun x => by kernel_rfl) (fun x h => by
  have h : allT [dec (okN x.1.2.1 1)] := h
  have h0 := allT_dec.mp h
  exact ⟨rfl, allT_dec.mpr ⟨okN_K h0 (by omega), by decide, by decide⟩⟩)
theorem en22 : Enters cfg.P 22 := enters_of (fn := Try.f22) (by kernel_rfl) (by kernel_rfl) (by kernel_rfl)
def byteT : List Int := [0, 1, 127, 128, 255, 15, 16, 153, 154, 9, 102, 254, 129, 85, 170, 64]
def byteMk (l : List Int) (k : Int) : Int := bif decide (nextF l k 512 ≥ 256) then byteT.getD ((nextF l k 512).tmod 16).toNat 0 else IntKind.u8.wrap (nextF l k 512)
noncomputable def S17 : FSum cfg := FSum.of [nmP] [.v false [.i .u8]] (fun x => [dec (okN x.1.2.1 1)]) (fun x => ((byteMk x.1.1 x.1.2.1, ()), (x.1.1, inc x.1.2.1, ()), ()))
noncomputable def tree_17 (l : List Int) (k : Int) : RT cfg :=
  let x0 := nextF l k 512
  let x1 := x0.tmod 16
  let x2 := decide (x0 ≥ 256)
  .ret [dec (okK k ∧ okPlace 512), bif x2 then (16 : Int) != 0 else true, bif x2 then decide (0 ≤ x1) else true, bif x2 then decide (x1 < ((16 : Nat) : Int)) else true] [[.i .u8 (byteMk l k)], [.ro 0 l, .i .i64 (inc k)]]
theorem ret17 {l : List Int} {k : Int} (h : okN k 1) : (tree_17 l k).ok [[.i .u8 (byteMk l k)], [.ro 0 l, .i .i64 (inc k)]] := by
  have hp : okPlace 512 := ⟨by decide, by decide⟩
  obtain ⟨r1, r2⟩ := nextF_range l k hp
  refine ⟨rfl, ?_⟩
  have e : (nextF l k 512).tmod 16 = (nextF l k 512) % 16 := Int.tmod_eq_emod_of_nonneg r1
  have e1 : 0 ≤ (nextF l k 512).tmod 16 := by rw [e]; omega
  have e2 : (nextF l k 512).tmod 16 < ((16 : Nat) : Int) := by rw [e]; show _ < (16 : Int); omega
  simp only [allT_cons, allT_nil, dec_iff]
  refine ⟨⟨okN_K h (by omega), hp⟩, ?_, ?_, ?_, trivial⟩
  · cases decide (nextF l k 512 ≥ 256) <;> rfl
  · cases decide (nextF l k 512 ≥ 256) with
    | true => exact decide_eq_true e1
    | false => rfl
  · cases decide (nextF l k 512 ≥ 256) with
    | true => exact decide_eq_true e2
    | false => rfl
theorem ok17 : FnOK cfg 17 S17 := fn_loops (l := []) (tree := fun x => tree_17 x.1.1 x.1.2.1) cfg_ok g16 (fn := Try.f17) (by kernel_rfl) rfl (by kernel_rfl) (fun p hp => by cases hp) (fun x => by kernel_rfl) (fun x h => ret17 (allT_dec.mp h))
theorem en17 : Enters cfg.P 17 := enters_of (fn := Try.f17) (by kernel_rfl) (by kernel_rfl) (by kernel_rfl)
def wordT : List Int := [0, 1, 65535, 65534, 32767, 32768, 255, 256]
def wordF (l : List Int) (k : Int) : Int := bif nextF l k 5 == 0 then wordT.getD (nextF l (inc k) 8).toNat 0 else bif nextF l k 5 == 1 then IntKind.u16.wrap (nextF l (inc k) 65536) else IntKind.u16.wrap (nextF l (inc k) 64)
noncomputable def S16 : FSum cfg := FSum.of [nmP] [.v false [.i .u16]] (fun x => [dec (okN x.1.2.1 2)]) (fun x => ((wordF x.1.1 x.1.2.1, ()), (x.1.1, inc (inc x.1.2.1), ()), ()))
noncomputable def tree_16 (l : List Int) (k : Int) : RT cfg :=
  let x0 := inc (inc k)
  let x1 := nextF l k 5
  let x2 := nextF l (inc k) 8
  let x3 := dec (okK k ∧ okPlace 5)
  let x4 := x1 == 1
  let x5 := x1 == 0
  .ret [bif x5 then x3 else true, bif x5 then dec (okK (inc k) ∧ okPlace 8) else true, bif x5 then decide (0 ≤ x2) else true, bif x5 then decide (x2 < ((8 : Nat) : Int)) else true, bif x5 then true else bif x4 then x3 else true, bif x5 then true else bif x4 then dec (okK (inc k) ∧ okPlace 65536) else true, bif x5 then true else bif x4 then true else x3, bif x5 then true else bif x4 then true else dec (okK (inc k) ∧ okPlace 64)] [[.i .u16 (wordF l k)], [.ro 0 (bif x5 then l else bif x4 then l else l), .i .i64 (bif x5 then x0 else bif x4 then x0 else x0)]]
theorem cond_all {c a b : Bool} (ha : a = true) (hb : b = true) : (bif c then a else b) = true := by cases c <;> assumption
theorem ret16 {l : List Int} {k : Int} (h : okN k 2) : (tree_16 l k).ok [[.i .u16 (wordF l k)], [.ro 0 l, .i .i64 (inc (inc k))]] := by
  obtain ⟨r1, r2⟩ := nextF_range l (inc k) (n := 8) ⟨by decide, by decide⟩
  have k0 := okN_K h (by omega)
  have k1 := okN_K (okN_inc h) (by omega)
  have e2 : nextF l (inc k) 8 < ((8 : Nat) : Int) := by show _ < (8 : Int); omega
  have P : ∀ {k n : Int}, okK k → 0 < n → n ≤ 4611686018427387904 → dec (okK k ∧ okPlace n) = true := fun a b c => dec_iff.mpr ⟨a, b, c⟩
  refine ⟨?_, ?_⟩
  · generalize (nextF l k 5 == 0) = a, (nextF l k 5 == 1) = b
    cases a <;> cases b <;> rfl
  simp only [allT_cons, allT_nil]
  refine ⟨cond_all (P k0 (by decide) (by decide)) rfl, cond_all (P k1 (by decide) (by decide)) rfl, cond_all (decide_eq_true r1) rfl, cond_all (decide_eq_true e2) rfl, cond_all rfl (cond_all (P k0 (by decide) (by decide)) rfl),
    cond_all rfl (cond_all (P k1 (by decide) (by decide)) rfl), cond_all rfl (cond_all rfl (P k0 (by decide) (by decide))), cond_all rfl (cond_all rfl (P k1 (by decide) (by decide))), trivial⟩
theorem ok16 : FnOK cfg 16 S16 := fn_loops (l := []) (tree := fun x => tree_16 x.1.1 x.1.2.1) cfg_ok g16 (fn := Try.f16) (by kernel_rfl) rfl (by kernel_rfl) (fun p hp => by cases hp) (fun x => by kernel_rfl) (fun x h => ret16 (allT_dec.mp h))
theorem en16 : Enters cfg.P 16 := enters_of (fn := Try.f16) (by kernel_rfl) (by kernel_rfl) (by kernel_rfl)
end Go.Proofs.Ytbdgnghllalbgaa

/- Contracts: tstatelaw26.made. -/
namespace Go.Proofs.Ytbdgnghllalbgaa
open Go Go.Sx
set_option maxRecDepth 100000
noncomputable def G9 : Nat → Option (FSum cfg) := gamL [(14, S14), (15, S15), (16, S16), (17, S17), (22, S22)]
theorem g9 : GamOK cfg G9 := gamL_cons en14 ok14 (gamL_cons en15 ok15 (gamL_cons en16 ok16 (gamL_cons en17 ok17 (gamL_cons en22 ok22 gamL_nil))))
def A9_0 : LAnn := { n := 1000000, s := [(3, ⟨[], .c (.p 513 0)⟩)], b := [(513, .c 63 [.v 1539, .v 1540])], ids := [(1539, .ro 0), (1540, kI)], ps := [.s 5, .s 4, .c 513 0, .c 513 1], ks := [kI, .ow 1, .ro 0, kI] }
def kindT : List Int := [1, 1, 1, 2, 3, 4, 0, 5]
def waitT : List Int := [0, 0, 0, 1, 3, -1]
def inc4 (k : Int) : Int := inc (inc (inc (inc k)))
/-- whether an item is made whole -/
def mkC (l : List Int) (k : Int) : Bool := bif decide (nextF l (inc4 (inc4 (inc (inc k)))) 3 > 0) then kindT.getD (nextF l k 8).toNat 0 == 1 else false
/-- the item that is made of the numbers from k on -/
def mkI (l : List Int) (k : Int) : Itm :=
  { kind := kindT.getD (nextF l k 8).toNat 0, ck := nextF l (inc4 (inc k)) 14, at' := wordF l (inc4 (inc (inc k))), data := byteMk l (inc4 (inc4 k)),
    states := bif mkC l k then IntKind.i64.wrap (3 + nextF l (inc4 (inc4 (inc (inc (inc k))))) 4) else nextF l (inc4 (inc4 (inc k))) 8
    waits := waitT.getD (nextF l (inc k) 6).toNat 0
    n := bif mkC l k then IntKind.i64.wrap (3 + nextF l (inc4 (inc4 (inc (inc (inc k))))) 4) else IntKind.i64.wrap (nextF l (inc (inc k)) 8 - 1)
    inte := flagF l (inc (inc (inc k))), sod := flagF l (inc4 k) }
abbrev K9_0 := (List Int) × Int × Unit
abbrev T9_0 := Int × (List Itm) × (List Int) × Int × Unit
def step9_0 (l0 : List Int) (i : Int) (out : List Itm) (l : List Int) (k : Int) : Option T9_0 := bif decide (i > 0) then some (IntKind.i64.wrap (i - 1), out ++ [mkI l k], l, bif mkC l k then inc4 (inc4 (inc4 k)) else inc4 (inc4 (inc (inc (inc k)))), ()) else none
def I9_0 (l0 : List Int) (i : Int) (out : List Itm) (l : List Int) (k : Int) : Prop := l = l0 ∧ i ≤ 11 ∧ 0 ≤ k ∧ k + 20 * (if 0 ≤ i then i else 0) ≤ 1000 ∧ out.length + i.toNat ≤ 11 ∧ ∀ x ∈ out, x.waits ≤ 3 ∧ x.n ≤ 7
def mu9_0 (l0 : List Int) (i : Int) (out : List Itm) (l : List Int) (k : Int) : Nat := i.toNat
noncomputable def tree9_0 (l0 : List Int) (i : Int) (out : List Itm) (l : List Int) (k : Int) : RR cfg :=
  let x0 := inc (inc k)
  let x1 := inc x0
  let x2 := inc x1
  let x3 := inc x2
  let x4 := inc x3
  let x5 := nextF l k 8
  let x6 := inc (inc x4)
  let x7 := nextF l (inc k) 6
  let x8 := inc x6
  let x9 := inc x8
  let x10 := inc x9
  .br (decide (i > 0)) (.next [dec (okK k ∧ okPlace 8), decide (0 ≤ x5), decide (x5 < ((8 : Nat) : Int)), dec (okK (inc k) ∧ okPlace 6), decide (0 ≤ x7), decide (x7 < ((6 : Nat) : Int)), dec (okK x0 ∧ okPlace 8), dec (okN x1 1), dec (okN x2 1), dec (okK x3 ∧ okPlace 14), dec (okN x4 2), dec (okN x6 1), dec (okK x8 ∧ okPlace 8), dec (okK x9 ∧ okPlace 3), bif mkC l k then dec (okK x10 ∧ okPlace 4) else true, decide (out.length + 1 ≤ mostLen)]
    [.i .i64 (IntKind.i64.wrap (i - 1)), .ro 1 (out ++ [mkI l k]), .ro 0 (bif mkC l k then l else l), .i .i64 (bif mkC l k then inc x10 else x10)]) (.stop [])
noncomputable def E9_0 : Sx.Loc → Env cfg → Option (Out × Env cfg) := stepL (G9) (fun _ => none) Try.f9.ntmps 0 (bodyOf Try.f9 0) A9_0 (fun (κ : K9_0) (σ : T9_0) => I9_0 κ.1 σ.1 σ.2.1 σ.2.2.1 σ.2.2.2.1) (fun (κ : K9_0) (σ : T9_0) => step9_0 κ.1 σ.1 σ.2.1 σ.2.2.1 σ.2.2.2.1) (fun (κ : K9_0) (σ : T9_0) => mu9_0 κ.1 σ.1 σ.2.1 σ.2.2.1 σ.2.2.2.1)
theorem okP {k n : Int} (h1 : 0 ≤ k) (h2 : k < 2000) (h3 : 0 < n) (h4 : n ≤ 4611686018427387904) : dec (okK k ∧ okPlace n) = true := dec_iff.mpr ⟨⟨h1, by omega⟩, h3, h4⟩
theorem okQ {k n : Int} (h1 : 0 ≤ k) (h2 : k + n < 2000) : dec (okN k n) = true := dec_iff.mpr ⟨h1, by omega⟩
theorem rd9_0 {l0 i out l k} (hI : I9_0 l0 i out l k) : (tree9_0 l0 i out l k).ok ((step9_0 l0 i out l k).map fun σ => [.i .i64 σ.1, .ro 1 σ.2.1, .ro 0 σ.2.2.1, .i .i64 σ.2.2.2.1]) := by
  obtain ⟨h0, h1, h2, h3, h4, h5⟩ := hI
  simp only [tree9_0, RR.ok, step9_0, allT_cons, allT_nil, decide_eq_true_eq, decide_eq_false_iff_not]
  refine ⟨fun hi => ?_, fun hi => ⟨by rw [decide_eq_false hi]; rfl, trivial⟩⟩
  rw [if_pos (by omega)] at h3
  obtain ⟨a1, a2⟩ := nextF_range l k (n := 8) ⟨by decide, by decide⟩
  obtain ⟨b1, b2⟩ := nextF_range l (inc k) (n := 6) ⟨by decide, by decide⟩
  refine ⟨?_, ?_⟩
  · rw [decide_eq_true hi]
    cases mkC l k <;> rfl
  · have c : ∀ c : Bool, (bif c then dec (okK (inc4 (inc4 (inc (inc (inc k))))) ∧ okPlace 4) else true) = true := fun c => cond_all (okP (by unfold inc4 inc; omega) (by unfold inc4 inc; omega) (by decide) (by decide)) rfl
    refine ⟨okP h2 (by omega) (by decide) (by decide), a1, a2, okP (by unfold inc; omega) (by unfold inc; omega) (by decide) (by decide), b1, b2, okP (by unfold inc; omega) (by unfold inc; omega) (by decide) (by decide), okQ (by unfold inc; omega) (by unfold inc; omega), okQ (by unfold inc; omega) (by unfold inc; omega),
      okP (by unfold inc; omega) (by unfold inc; omega) (by decide) (by decide), okQ (by unfold inc; omega) (by unfold inc; omega), okQ (by unfold inc; omega) (by unfold inc; omega), okP (by unfold inc; omega) (by unfold inc; omega) (by decide) (by decide), okP (by unfold inc; omega) (by unfold inc; omega) (by decide) (by decide), c _, ?_, trivial⟩
    unfold mostLen; omega
theorem mkI_small (l : List Int) (k : Int) : (mkI l k).waits ≤ 3 ∧ (mkI l k).n ≤ 7 := by
  obtain ⟨b1, b2⟩ := nextF_range l (inc k) (n := 6) ⟨by decide, by decide⟩
  obtain ⟨c1, c2⟩ := nextF_range l (inc4 (inc4 (inc (inc (inc k))))) (n := 4) ⟨by decide, by decide⟩
  obtain ⟨d1, d2⟩ := nextF_range l (inc (inc k)) (n := 8) ⟨by decide, by decide⟩
  refine ⟨?_, ?_⟩
  · show waitT.getD (nextF l (inc k) 6).toNat 0 ≤ 3
    have : ∀ j : Nat, j < 6 → waitT.getD j 0 ≤ 3 := by decide
    exact this _ (by omega)
  · show (bif mkC l k then IntKind.i64.wrap (3 + nextF l (inc4 (inc4 (inc (inc (inc k))))) 4) else IntKind.i64.wrap (nextF l (inc (inc k)) 8 - 1)) ≤ 7
    rw [wrap_i64 (by omega) (by omega), wrap_i64 (by omega) (by omega)]
    cases mkC l k <;> simp only [cond] <;> omega
theorem plain9_0 {l0 i out l k} (hI : I9_0 l0 i out l k) : ∀ σ', step9_0 l0 i out l k = some σ' → I9_0 l0 σ'.1 σ'.2.1 σ'.2.2.1 σ'.2.2.2.1 ∧ mu9_0 l0 σ'.1 σ'.2.1 σ'.2.2.1 σ'.2.2.2.1 < mu9_0 l0 i out l k := by
  obtain ⟨h0, h1, h2, h3, h4, h5⟩ := hI
  intro σ' h
  unfold step9_0 at h
  by_cases hi : i > 0
  · rw [if_pos (by omega)] at h3
    rw [wrap_i64 (by omega) (by omega), decide_eq_true hi, cond, Option.some.injEq] at h
    subst h
    have hk : k ≤ (bif mkC l k then inc4 (inc4 (inc4 k)) else inc4 (inc4 (inc (inc (inc k))))) ∧ (bif mkC l k then inc4 (inc4 (inc4 k)) else inc4 (inc4 (inc (inc (inc k))))) ≤ k + 20 := by
      unfold inc4 inc
      cases mkC l k <;> simp only [cond] <;> omega
    refine ⟨⟨h0, by simp only; omega, by simp only; omega, ?_, ?_, ?_⟩, by simp only [mu9_0]; omega⟩
    · simp only; rw [if_pos (by omega)]; omega
    · simp only [List.length_append, List.length_cons, List.length_nil]; omega
    · intro x hx
      simp only [List.mem_append, List.mem_singleton] at hx
      rcases hx with hx | rfl
      · exact h5 x hx
      · exact mkI_small l k
  · rw [decide_eq_false hi, cond] at h; cases h
theorem out9_0 : ∀ m g r, E9_0 m g = some r → OutOK cfg Try.f9.ntmps (stmtFn Try.f9 0) m g r := fun m g r h => stmt_loop (by kernel_rfl) (
  stepL_ok (A := A9_0) (I := fun (κ : K9_0) (σ : T9_0) => I9_0 κ.1 σ.1 σ.2.1 σ.2.2.1 σ.2.2.2.1) (step := fun (κ : K9_0) (σ : T9_0) => step9_0 κ.1 σ.1 σ.2.1 σ.2.2.1 σ.2.2.2.1) (μ := fun (κ : K9_0) (σ : T9_0) => mu9_0 κ.1 σ.1 σ.2.1 σ.2.2.1 σ.2.2.2.1) cfg_ok g9 loops_none
    (fun κ σ hI => plain9_0 hI) (tree := fun (κ : K9_0) (σ : T9_0) => tree9_0 κ.1 σ.1 σ.2.1 σ.2.2.1 σ.2.2.2.1) (fun κ σ => by kernel_rfl) (fun κ σ hI => rd9_0 hI) m g r h)
noncomputable def fin9_0 (l0 : List Int) (σ : T9_0) : T9_0 := stepFin (fun (σ : T9_0) => step9_0 l0 σ.1 σ.2.1 σ.2.2.1 σ.2.2.2.1) (fun (σ : T9_0) => mu9_0 l0 σ.1 σ.2.1 σ.2.2.1 σ.2.2.2.1) σ
theorem fin9_0_end (l0 : List Int) {σ : T9_0} (h : I9_0 l0 σ.1 σ.2.1 σ.2.2.1 σ.2.2.2.1) : step9_0 l0 (fin9_0 l0 σ).1 (fin9_0 l0 σ).2.1 (fin9_0 l0 σ).2.2.1 (fin9_0 l0 σ).2.2.2.1 = none ∧ I9_0 l0 (fin9_0 l0 σ).1 (fin9_0 l0 σ).2.1 (fin9_0 l0 σ).2.2.1 (fin9_0 l0 σ).2.2.2.1 := stepFin_end (I := fun (σ : T9_0) => I9_0 l0 σ.1 σ.2.1 σ.2.2.1 σ.2.2.2.1) (fun _ hI => plain9_0 hI) h
theorem fin9_0_eq (l0 : List Int) {G : T9_0 → T9_0} (hs : ∀ σ : T9_0, I9_0 l0 σ.1 σ.2.1 σ.2.2.1 σ.2.2.2.1 → step9_0 l0 σ.1 σ.2.1 σ.2.2.1 σ.2.2.2.1 = none → G σ = σ) (hn : ∀ σ : T9_0, I9_0 l0 σ.1 σ.2.1 σ.2.2.1 σ.2.2.2.1 → ∀ σ', step9_0 l0 σ.1 σ.2.1 σ.2.2.1 σ.2.2.2.1 = some σ' → G σ' = G σ) {σ : T9_0} (h : I9_0 l0 σ.1 σ.2.1 σ.2.2.1 σ.2.2.2.1) : fin9_0 l0 σ = G σ := stepFin_eq (I := fun (σ : T9_0) => I9_0 l0 σ.1 σ.2.1 σ.2.2.1 σ.2.2.2.1) (fun _ hI => plain9_0 hI) hs hn h
/-- the items that are made of numbers -/
noncomputable def madeF (l : List Int) : List Itm := (fin9_0 l (nextF l 0 12, [], l, 1, ())).2.1
theorem made0 (l : List Int) : I9_0 l (nextF l 0 12) [] l 1 := by
  obtain ⟨a1, a2⟩ := nextF_range l 0 (n := 12) ⟨by decide, by decide⟩
  refine ⟨rfl, by omega, by decide, ?_, ?_, by simp⟩
  · rw [if_pos a1]; omega
  · simp; omega
theorem madeF_small (l : List Int) : (madeF l).length ≤ 11 ∧ ∀ x ∈ madeF l, x.waits ≤ 3 ∧ x.n ≤ 7 := by
  obtain ⟨_, h0, h1, h2, h3, h4, h5⟩ := fin9_0_end l (σ := (nextF l 0 12, [], l, 1, ())) (made0 l)
  exact ⟨by unfold madeF; omega, h5⟩
noncomputable def S9 : FSum cfg := FSum.of [.v false [.ro 0]] [.v false [.ro 1]] (fun _ => []) (fun x => ((madeF x.1.1, ()), ()))
noncomputable def tree_9 (l : List Int) : RT cfg :=
  .br (decide ((fin9_0 l (nextF l 0 12, [], l, inc 0, ())).1 > 0)) .fail (.ret [dec (okK 0 ∧ okPlace 12), dec (I9_0 l (nextF l 0 12) [] l (inc 0))] [[.ro 1 (fin9_0 l (nextF l 0 12, [], l, inc 0, ())).2.1]])
theorem ret9 (l : List Int) : (tree_9 l).ok [[.ro 1 (madeF l)]] := by
  have h0 : I9_0 l (nextF l 0 12) [] l (inc 0) := made0 l
  have e := (fin9_0_end l (σ := (nextF l 0 12, [], l, inc 0, ())) h0).1
  refine ⟨fun h => ?_, fun _ => ⟨rfl, ?_⟩⟩
  · unfold step9_0 at e
    rw [h] at e; cases e
  · exact allT_cons.mpr ⟨okP (by decide) (by decide) (by decide) (by decide), allT_dec.mpr h0⟩
theorem lok9 : ∀ p ∈ [(0, E9_0)], ∀ m g r, p.2 m g = some r → OutOK cfg Try.f9.ntmps (stmtFn Try.f9 p.1) m g r := by
  intro p hp
  simp only [List.mem_singleton] at hp
  subst hp
  exact out9_0
theorem ok9 : FnOK cfg 9 S9 :=
  fn_loops (l := [(0, E9_0)]) (tree := fun x => tree_9 x.1.1) cfg_ok g9 (fn := Try.f9) (by kernel_rfl) rfl (by kernel_rfl) lok9 (fun x => by kernel_rfl) (fun x h => ret9 x.1.1)
theorem en9 : Enters cfg.P 9 := enters_of (fn := Try.f9) (by kernel_rfl) (by kernel_rfl) (by kernel_rfl)
end Go.Proofs.Ytbdgnghllalbgaa

/- Contracts: package grammar: counts. -/
namespace Go.Proofs.Ytbdgnghllalbgaa
open Go Go.Sx
set_option maxRecDepth 100000
def limF (n lo hi : Int) : Int := mxI lo (mnI n hi)
noncomputable def S30 : FSum cfg := FSum.of [.v false [kI], .v false [kI], .v false [kI]] [.v false [kI]] (fun _ => []) (fun x => ((limF x.1.1 x.2.1.1 x.2.2.1.1, ()), ()))
theorem ok30 : FnOK cfg 30 S30 := fn_flat cfg_ok gamL_nil (fn := Try.f30) (by kernel_rfl) rfl (fun x _ => ⟨[], by kernel_rfl, by simp⟩)
theorem en30 : Enters cfg.P 30 := enters_of (fn := Try.f30) (by kernel_rfl) (by kernel_rfl) (by kernel_rfl)
def accF (n : Int) : Bool := bif bif n != 10 then n != 11 else false then n != 12 else false
noncomputable def S43 : FSum cfg := FSum.of [.v false [kI]] [.v false [kB]] (fun _ => []) (fun x => ((accF x.1.1, ()), ()))
theorem ok43 : FnOK cfg 43 S43 := fn_flat cfg_ok gamL_nil (fn := Try.f43) (by kernel_rfl) rfl (fun x _ => ⟨[], by kernel_rfl, by simp⟩)
theorem en43 : Enters cfg.P 43 := enters_of (fn := Try.f43) (by kernel_rfl) (by kernel_rfl) (by kernel_rfl)
theorem ok40 : FnOK cfg 40 S43 := fn_flat (Γ := gamL [(43, S43)]) cfg_ok (gamL_cons en43 ok43 gamL_nil) (fn := Try.f40) (by kernel_rfl) rfl (fun x _ => ⟨[], by kernel_rfl, by simp⟩)
theorem en40 : Enters cfg.P 40 := enters_of (fn := Try.f40) (by kernel_rfl) (by kernel_rfl) (by kernel_rfl)
def repS (k : Int) : Int := bif k == 2 then 8 else bif k == 3 then 9 else bif k == 4 then 10 else 0
def repT (k n : Int) : Int := bif k == 2 then limF n 0 65536 else bif k == 3 then limF n 0 65536 else bif k == 4 then limF n 0 65536 else 0
noncomputable def S28 : FSum cfg := FSum.of [.v true itmK] [.v false [kI], .v false [kI]] (fun _ => []) (fun x => ((repS (toItm x.1).kind, ()), (repT (toItm x.1).kind (toItm x.1).n, ()), ()))
theorem ok28 : FnOK cfg 28 S28 := fn_flat (Γ := gamL [(30, S30)]) cfg_ok (gamL_cons en30 ok30 gamL_nil) (fn := Try.f28) (by kernel_rfl) rfl (fun x _ => ⟨[], by kernel_rfl, by simp⟩)
theorem en28 : Enters cfg.P 28 := enters_of (fn := Try.f28) (by kernel_rfl) (by kernel_rfl) (by kernel_rfl)
def fitsF (x : Itm) (free : Bool) : Bool :=
  bif bif bif bif bif decide (x.states < 3) then true else decide (x.states > 6) then true else decide (x.n < 1) then true else decide (x.n > x.states) then true else bif !free then x.n != x.states else false then false
  else bif bif decide (x.waits < 0) then true else bif decide (x.n < 2) then x.waits != 0 else false then false else bif x.waits == 0 then true else accF x.ck
noncomputable def S27 : FSum cfg := FSum.of [.v true itmK, .v false [kB]] [.v false [kB]] (fun _ => []) (fun x => ((fitsF (toItm x.1) x.2.1.1, ()), ()))
theorem ok27 : FnOK cfg 27 S27 := fn_flat (Γ := gamL [(40, S43)]) cfg_ok (gamL_cons en40 ok40 gamL_nil) (fn := Try.f27) (by kernel_rfl) rfl (fun x _ => ⟨[], by kernel_rfl, by simp⟩)
theorem en27 : Enters cfg.P 27 := enters_of (fn := Try.f27) (by kernel_rfl) (by kernel_rfl) (by kernel_rfl)
/-- the numbers of states: cycles, waits, holds, halts, resets -/
structure Cnt where
  c : Int
  w : Int
  h : Int
  t : Int
  z : Int
def cntStep (s : Cnt) (x : Itm) : Cnt :=
  { c := bif x.kind == 1 then IntKind.i64.wrap (s.c + mxI x.n 0) else s.c
    w := bif x.kind == 1 then IntKind.i64.wrap (s.w + mxI x.waits 0) else s.w
    h := bif x.kind == 1 then s.h else bif x.kind == 2 then IntKind.i64.wrap (s.h + mxI x.n 0) else s.h
    t := bif x.kind == 1 then s.t else bif x.kind == 2 then s.t else bif x.kind == 3 then IntKind.i64.wrap (s.t + mxI x.n 0) else s.t
    z := bif x.kind == 1 then s.z else bif x.kind == 2 then s.z else bif x.kind == 3 then s.z else bif x.kind == 4 then IntKind.i64.wrap (s.z + mxI x.n 0) else s.z }
def cntF (l : List Itm) : Cnt := l.foldl cntStep ⟨0, 0, 0, 0, 0⟩
def A20_0 : LAnn := { n := 1000000, s := [(11, ⟨[], .c (.v 1537)⟩), (10, ⟨[], .c (.v 0)⟩)], b := [], ids := [(0, .ro 1), (1537, kI)], ps := [.s 2, .s 3, .s 4, .s 5, .s 6, .s 12], ks := [kI, kI, kI, kI, kI, kI] }
abbrev K20_0 := (List Itm) × Int × Unit
abbrev T20_0 := Int × Int × Int × Int × Int × Int × Unit
def step20_0 (l : List Itm) (n : Int) (c : Int) (w : Int) (h : Int) (t : Int) (z : Int) (i : Int) : Option T20_0 := bif decide (i < n) then (let s := cntStep ⟨c, w, h, t, z⟩ (l.getD i.toNat iz); some (s.c, s.w, s.h, s.t, s.z, IntKind.i64.wrap (i + 1), ())) else none
def I20_0 (l : List Itm) (n : Int) (c : Int) (w : Int) (h : Int) (t : Int) (z : Int) (i : Int) : Prop := n = l.length ∧ l.length ≤ topLen ∧ 0 ≤ i ∧ i ≤ n ∧ (⟨c, w, h, t, z⟩ : Cnt) = cntF (l.take i.toNat)
def mu20_0 (l : List Itm) (n : Int) (c : Int) (w : Int) (h : Int) (t : Int) (z : Int) (i : Int) : Nat := (n - i).toNat
def tree20_0 (l : List Itm) (n : Int) (c : Int) (w : Int) (h : Int) (t : Int) (z : Int) (i : Int) : RR cfg := let s := cntStep ⟨c, w, h, t, z⟩ (l.getD i.toNat iz); .br (decide (i < n)) (.next [decide (0 ≤ i), decide (i < (l.length : Int))] [.i .i64 s.c, .i .i64 s.w, .i .i64 s.h, .i .i64 s.t, .i .i64 s.z, .i .i64 (IntKind.i64.wrap (i + 1))]) (.stop [])
noncomputable def E20_0 : Sx.Loc → Env cfg → Option (Out × Env cfg) := stepL (gamL []) (fun _ => none) Try.f20.ntmps 0 (bodyOf Try.f20 0) A20_0 (fun (κ : K20_0) (σ : T20_0) => I20_0 κ.1 κ.2.1 σ.1 σ.2.1 σ.2.2.1 σ.2.2.2.1 σ.2.2.2.2.1 σ.2.2.2.2.2.1) (fun (κ : K20_0) (σ : T20_0) => step20_0 κ.1 κ.2.1 σ.1 σ.2.1 σ.2.2.1 σ.2.2.2.1 σ.2.2.2.2.1 σ.2.2.2.2.2.1) (fun (κ : K20_0) (σ : T20_0) => mu20_0 κ.1 κ.2.1 σ.1 σ.2.1 σ.2.2.1 σ.2.2.2.1 σ.2.2.2.2.1 σ.2.2.2.2.2.1)
theorem rd20_0 {l n c w h t z i} (hI : I20_0 l n c w h t z i) : (tree20_0 l n c w h t z i).ok ((step20_0 l n c w h t z i).map fun σ => [.i .i64 σ.1, .i .i64 σ.2.1, .i .i64 σ.2.2.1, .i .i64 σ.2.2.2.1, .i .i64 σ.2.2.2.2.1, .i .i64 σ.2.2.2.2.2.1]) := by
  obtain ⟨h1, h2, h3, h4, h5⟩ := hI
  simp only [tree20_0, RR.ok, step20_0, allT_cons, allT_nil, decide_eq_true_eq, decide_eq_false_iff_not]
  exact ⟨fun hi => ⟨by rw [decide_eq_true hi]; rfl, h3, by omega, trivial⟩, fun hi => ⟨by rw [decide_eq_false hi]; rfl, trivial⟩⟩
theorem plain20_0 {l n c w h t z i} (hI : I20_0 l n c w h t z i) : ∀ σ', step20_0 l n c w h t z i = some σ' → I20_0 l n σ'.1 σ'.2.1 σ'.2.2.1 σ'.2.2.2.1 σ'.2.2.2.2.1 σ'.2.2.2.2.2.1 ∧ mu20_0 l n σ'.1 σ'.2.1 σ'.2.2.1 σ'.2.2.2.1 σ'.2.2.2.2.1 σ'.2.2.2.2.2.1 < mu20_0 l n c w h t z i := by
  obtain ⟨h1, h2, h3, h4, h5⟩ := hI
  intro σ' h
  unfold step20_0 at h
  by_cases hi : i < n
  · rw [wrap_next (by unfold topLen at h2; omega) h3, decide_eq_true hi, cond, Option.some.injEq] at h
    subst h
    refine ⟨⟨h1, h2, by simp only; omega, by simp only; omega, ?_⟩, by simp only [mu20_0]; omega⟩
    simp only
    rw [take_next iz h3 (by omega)]
    unfold cntF
    rw [List.foldl_append, List.foldl_cons, List.foldl_nil]
    show cntStep _ _ = cntStep (cntF (l.take i.toNat)) _
    rw [h5]
  · rw [decide_eq_false hi, cond] at h; cases h
theorem out20_0 : ∀ m g r, E20_0 m g = some r → OutOK cfg Try.f20.ntmps (stmtFn Try.f20 0) m g r := fun m g r h => stmt_loop (by kernel_rfl) (
  stepL_ok (A := A20_0) (I := fun (κ : K20_0) (σ : T20_0) => I20_0 κ.1 κ.2.1 σ.1 σ.2.1 σ.2.2.1 σ.2.2.2.1 σ.2.2.2.2.1 σ.2.2.2.2.2.1) (step := fun (κ : K20_0) (σ : T20_0) => step20_0 κ.1 κ.2.1 σ.1 σ.2.1 σ.2.2.1 σ.2.2.2.1 σ.2.2.2.2.1 σ.2.2.2.2.2.1) (μ := fun (κ : K20_0) (σ : T20_0) => mu20_0 κ.1 κ.2.1 σ.1 σ.2.1 σ.2.2.1 σ.2.2.2.1 σ.2.2.2.2.1 σ.2.2.2.2.2.1) cfg_ok gamL_nil loops_none
    (fun κ σ hI => plain20_0 hI) (tree := fun (κ : K20_0) (σ : T20_0) => tree20_0 κ.1 κ.2.1 σ.1 σ.2.1 σ.2.2.1 σ.2.2.2.1 σ.2.2.2.2.1 σ.2.2.2.2.2.1) (fun κ σ => by kernel_rfl) (fun κ σ hI => rd20_0 hI) m g r h)
noncomputable def fin20_0 (l : List Itm) (n : Int) (σ : T20_0) : T20_0 := stepFin (fun (σ : T20_0) => step20_0 l n σ.1 σ.2.1 σ.2.2.1 σ.2.2.2.1 σ.2.2.2.2.1 σ.2.2.2.2.2.1) (fun (σ : T20_0) => mu20_0 l n σ.1 σ.2.1 σ.2.2.1 σ.2.2.2.1 σ.2.2.2.2.1 σ.2.2.2.2.2.1) σ
theorem fin20_0_end (l : List Itm) (n : Int) {σ : T20_0} (h : I20_0 l n σ.1 σ.2.1 σ.2.2.1 σ.2.2.2.1 σ.2.2.2.2.1 σ.2.2.2.2.2.1) : step20_0 l n (fin20_0 l n σ).1 (fin20_0 l n σ).2.1 (fin20_0 l n σ).2.2.1 (fin20_0 l n σ).2.2.2.1 (fin20_0 l n σ).2.2.2.2.1 (fin20_0 l n σ).2.2.2.2.2.1 = none ∧ I20_0 l n (fin20_0 l n σ).1 (fin20_0 l n σ).2.1 (fin20_0 l n σ).2.2.1 (fin20_0 l n σ).2.2.2.1 (fin20_0 l n σ).2.2.2.2.1 (fin20_0 l n σ).2.2.2.2.2.1 := stepFin_end (I := fun (σ : T20_0) => I20_0 l n σ.1 σ.2.1 σ.2.2.1 σ.2.2.2.1 σ.2.2.2.2.1 σ.2.2.2.2.2.1) (fun _ hI => plain20_0 hI) h
theorem fin20_0_eq (l : List Itm) (n : Int) {G : T20_0 → T20_0} (hs : ∀ σ : T20_0, I20_0 l n σ.1 σ.2.1 σ.2.2.1 σ.2.2.2.1 σ.2.2.2.2.1 σ.2.2.2.2.2.1 → step20_0 l n σ.1 σ.2.1 σ.2.2.1 σ.2.2.2.1 σ.2.2.2.2.1 σ.2.2.2.2.2.1 = none → G σ = σ) (hn : ∀ σ : T20_0, I20_0 l n σ.1 σ.2.1 σ.2.2.1 σ.2.2.2.1 σ.2.2.2.2.1 σ.2.2.2.2.2.1 → ∀ σ', step20_0 l n σ.1 σ.2.1 σ.2.2.1 σ.2.2.2.1 σ.2.2.2.2.1 σ.2.2.2.2.2.1 = some σ' → G σ' = G σ) {σ : T20_0} (h : I20_0 l n σ.1 σ.2.1 σ.2.2.1 σ.2.2.2.1 σ.2.2.2.2.1 σ.2.2.2.2.2.1) : fin20_0 l n σ = G σ := stepFin_eq (I := fun (σ : T20_0) => I20_0 l n σ.1 σ.2.1 σ.2.2.1 σ.2.2.2.1 σ.2.2.2.2.1 σ.2.2.2.2.2.1) (fun _ hI => plain20_0 hI) hs hn h
noncomputable def S20 : FSum cfg := FSum.of [.v false [.ro 1]] [.v false [kI], .v false [kI], .v false [kI], .v false [kI], .v false [kI]] (fun x => [decide (List.length (α := Itm) x.1.1 ≤ topLen)]) (fun x => (((cntF x.1.1).c, ()), ((cntF x.1.1).w, ()), ((cntF x.1.1).h, ()), ((cntF x.1.1).t, ()), ((cntF x.1.1).z, ()), ()))
noncomputable def tree_20 (l : List Itm) : RT cfg :=
  let f := fin20_0 l l.length (0, 0, 0, 0, 0, 0, ())
  .br (decide (f.2.2.2.2.2.1 < (l.length : Int))) .fail (.ret [dec (I20_0 l l.length 0 0 0 0 0 0)] [[.i .i64 f.1], [.i .i64 f.2.1], [.i .i64 f.2.2.1], [.i .i64 f.2.2.2.1], [.i .i64 f.2.2.2.2.1]])
theorem ret20 {l : List Itm} (h1 : l.length ≤ topLen) : (tree_20 l).ok [[.i .i64 (cntF l).c], [.i .i64 (cntF l).w], [.i .i64 (cntF l).h], [.i .i64 (cntF l).t], [.i .i64 (cntF l).z]] := by
  simp only [tree_20, RT.ok, allT_cons, allT_nil, dec_iff, decide_eq_true_eq, decide_eq_false_iff_not]
  have h0 : I20_0 l l.length 0 0 0 0 0 0 := ⟨rfl, h1, Int.le_refl _, by omega, rfl⟩
  obtain ⟨e, q1, q2, q3, q4, q5⟩ := fin20_0_end l l.length (σ := (0, 0, 0, 0, 0, 0, ())) h0
  generalize fin20_0 l l.length (0, 0, 0, 0, 0, 0, ()) = f at e q1 q2 q3 q4 q5 ⊢
  refine ⟨fun hj => ?_, fun hj => ⟨?_, h0, trivial⟩⟩
  · unfold step20_0 at e
    rw [decide_eq_true hj] at e; cases e
  · rw [show f.2.2.2.2.2.1 = (l.length : Int) by omega, Int.toNat_natCast, List.take_length] at q5
    rw [← q5]
theorem lok20 : ∀ p ∈ [(0, E20_0)], ∀ m g r, p.2 m g = some r → OutOK cfg Try.f20.ntmps (stmtFn Try.f20 p.1) m g r := by
  intro p hp
  simp only [List.mem_singleton] at hp
  subst hp
  exact out20_0
theorem ok20 : FnOK cfg 20 S20 :=
  fn_loops (l := [(0, E20_0)]) (tree := fun x => tree_20 x.1.1) cfg_ok gamL_nil (fn := Try.f20) (by kernel_rfl) rfl (by kernel_rfl) lok20 (fun x => by kernel_rfl) (fun x h => ret20 (of_decide_eq_true (h _ (by exact List.mem_cons_self ..))))
theorem en20 : Enters cfg.P 20 := enters_of (fn := Try.f20) (by kernel_rfl) (by kernel_rfl) (by kernel_rfl)

noncomputable def G21 : Nat → Option (FSum cfg) := gamL [(27, S27), (28, S28)]
theorem g21 : GamOK cfg G21 := gamL_cons en27 ok27 (gamL_cons en28 ok28 gamL_nil)
/-- whether an item breaks the rules, by the one before and the one behind -/
def badA (l : List Itm) (i : Int) : Bool := bif (l.getD i.toNat iz).kind == 1 then !fitsF (l.getD i.toNat iz) (bif IntKind.i64.wrap (i + 1) == (l.length : Int) then true else (l.getD (IntKind.i64.wrap (i + 1)).toNat iz).kind == 4) else false
def badB (x : Itm) : Bool := bif bif repS x.kind == 0 then true else decide (x.n < 1) then true else x.waits != 0
def sameA (l : List Itm) (i : Int) : Bool := bif decide (i > 0) then (l.getD (IntKind.i64.wrap (i - 1)).toNat iz).kind == (l.getD i.toNat iz).kind else false
def sameB (l : List Itm) (i : Int) : Bool := bif sameA l i then (l.getD (IntKind.i64.wrap (i - 1)).toNat iz).inte == (l.getD i.toNat iz).inte else false
def sameC (l : List Itm) (i : Int) : Bool := bif sameB l i then (l.getD (IntKind.i64.wrap (i - 1)).toNat iz).sod == (l.getD i.toNat iz).sod else false
def badAt (l : List Itm) (i : Int) : Bool := bif badA l i then true else bif (l.getD i.toNat iz).kind == 1 then false else bif badB (l.getD i.toNat iz) then true else sameC l i
def A21_0 : LAnn := { n := 1000000, s := [(1, ⟨[], .c (.v 1)⟩), (11, ⟨[], .c (.v 514)⟩), (10, ⟨[], .c (.v 1)⟩)], b := [], ids := [(1, .ro 1), (514, kI)], ps := [.s 12], ks := [kI] }
abbrev K21_0 := (List Itm) × Int × Unit
abbrev T21_0 := Int × Unit
def step21_0 (l : List Itm) (n : Int) (i : Int) : Option T21_0 := bif decide (i < n) then (bif badAt l i then none else some (IntKind.i64.wrap (i + 1), ())) else none
def I21_0 (l : List Itm) (n : Int) (i : Int) : Prop := n = l.length ∧ l.length ≤ topLen ∧ 0 ≤ i ∧ i ≤ n ∧ ∀ j : Nat, (j : Int) < i → badAt l j = false
def mu21_0 (l : List Itm) (n : Int) (i : Int) : Nat := (n - i).toNat
/-- what the tests ask -/
def ob21 (l : List Itm) (i : Int) : List Bool :=
  let x0 := (l.length : Int)
  let x2 := IntKind.i64.wrap (i + 1)
  let x8 := !(x2 == x0) && true
  [decide (0 ≤ i), decide (i < x0), bif x8 then decide (0 ≤ x2) else true, bif x8 then decide (x2 < x0) else true]
def oc21 (l : List Itm) (i : Int) : List Bool :=
  let x0 := (l.length : Int)
  let x1 := IntKind.i64.wrap (i - 1)
  let x5 := decide (i > 0) && true
  [bif x5 then decide (0 ≤ x1) else true, bif x5 then decide (x1 < x0) else true, bif sameA l i && true then decide (0 ≤ x1) else true, bif sameA l i && true then decide (x1 < x0) else true, bif sameB l i && true then decide (0 ≤ x1) else true, bif sameB l i && true then decide (x1 < x0) else true]
def tree21_0 (l : List Itm) (n : Int) (i : Int) : RR cfg :=
  .br (decide (i < n)) (.br (badA l i) (.stop (ob21 l i)) (.br ((l.getD i.toNat iz).kind == 1) (.next (ob21 l i) [.i .i64 (IntKind.i64.wrap (i + 1))])
    (.br (badB (l.getD i.toNat iz)) (.stop (ob21 l i)) (.br (sameC l i) (.stop (ob21 l i ++ oc21 l i)) (.next (ob21 l i ++ oc21 l i) [.i .i64 (IntKind.i64.wrap (i + 1))]))))) (.stop [])
noncomputable def E21_0 : Sx.Loc → Env cfg → Option (Out × Env cfg) := stepL (G21) (fun _ => none) Try.f21.ntmps 0 (bodyOf Try.f21 0) A21_0 (fun (κ : K21_0) (σ : T21_0) => I21_0 κ.1 κ.2.1 σ.1) (fun (κ : K21_0) (σ : T21_0) => step21_0 κ.1 κ.2.1 σ.1) (fun (κ : K21_0) (σ : T21_0) => mu21_0 κ.1 κ.2.1 σ.1)
theorem ob21_ok {l n i} (hI : I21_0 l n i) (hi : i < n) : allT (ob21 l i) ∧ allT (oc21 l i) := by
  obtain ⟨h1, h2, h3, h4, h5⟩ := hI
  have e1 := wrap_next (i := i) (by unfold topLen at h2; omega) h3
  have e2 : IntKind.i64.wrap (i - 1) = i - 1 := wrap_i64 (by omega) (by unfold topLen at h2; omega)
  have a0 : ∀ c : Bool, (bif c && true then decide (0 ≤ i - 1) else true) = true → True := fun _ _ => trivial
  refine ⟨?_, ?_⟩
  · simp only [ob21, allT_cons, allT_nil, e1, decide_eq_true_eq, and_true]
    refine ⟨h3, by omega, cond_all (decide_eq_true (by omega)) rfl, ?_⟩
    by_cases he : i + 1 = (l.length : Int)
    · rw [show (i + 1 == (l.length : Int)) = true by simpa using he]; rfl
    · exact cond_all (decide_eq_true (by omega)) rfl
  · simp only [oc21, allT_cons, allT_nil, e2, and_true]
    by_cases hp : i > 0
    · have a1 : decide (0 ≤ i - 1) = true := decide_eq_true (by omega)
      have a2 : decide (i - 1 < (l.length : Int)) = true := decide_eq_true (by omega)
      exact ⟨cond_all a1 rfl, cond_all a2 rfl, cond_all a1 rfl, cond_all a2 rfl, cond_all a1 rfl, cond_all a2 rfl⟩
    · have sa : sameA l i = false := by unfold sameA; rw [decide_eq_false hp]; rfl
      have sb : sameB l i = false := by unfold sameB; rw [sa]; rfl
      rw [sa, sb, decide_eq_false hp]
      exact ⟨rfl, rfl, rfl, rfl, rfl, rfl⟩
theorem rd21_0 {l n i} (hI : I21_0 l n i) : (tree21_0 l n i).ok ((step21_0 l n i).map fun σ => [.i .i64 σ.1]) := by
  simp only [tree21_0, RR.ok, step21_0, allT_app, allT_nil, decide_eq_true_eq, decide_eq_false_iff_not]
  refine ⟨fun hi => ?_, fun hi => ⟨by rw [decide_eq_false hi]; rfl, trivial⟩⟩
  obtain ⟨o1, o2⟩ := ob21_ok hI hi
  rw [decide_eq_true hi]
  unfold badAt
  refine ⟨fun ha => ⟨by rw [ha]; rfl, o1⟩, fun ha => ⟨fun hk => ⟨by rw [ha, hk]; rfl, o1⟩, fun hk => ⟨fun hb => ⟨by rw [ha, hk, hb]; rfl, o1⟩, fun hb => ⟨fun hc => ⟨by rw [ha, hk, hb, hc]; rfl, o1, o2⟩, fun hc => ⟨by rw [ha, hk, hb, hc]; rfl, o1, o2⟩⟩⟩⟩⟩
theorem plain21_0 {l n i} (hI : I21_0 l n i) : ∀ σ', step21_0 l n i = some σ' → I21_0 l n σ'.1 ∧ mu21_0 l n σ'.1 < mu21_0 l n i := by
  obtain ⟨h1, h2, h3, h4, h5⟩ := hI
  intro σ' h
  unfold step21_0 at h
  by_cases hi : i < n
  · rw [wrap_next (by unfold topLen at h2; omega) h3, decide_eq_true hi, cond] at h
    cases hb : badAt l i with
    | true => rw [hb] at h; cases h
    | false =>
      rw [hb, cond, Option.some.injEq] at h
      subst h
      refine ⟨⟨h1, h2, by simp only; omega, by simp only; omega, fun j hj => ?_⟩, by simp only [mu21_0]; omega⟩
      simp only at hj
      by_cases hji : (j : Int) = i
      · rw [hji]; exact hb
      · exact h5 j (by omega)
  · rw [decide_eq_false hi, cond] at h; cases h
theorem out21_0 : ∀ m g r, E21_0 m g = some r → OutOK cfg Try.f21.ntmps (stmtFn Try.f21 0) m g r := fun m g r h => stmt_loop (by kernel_rfl) (
  stepL_ok (A := A21_0) (I := fun (κ : K21_0) (σ : T21_0) => I21_0 κ.1 κ.2.1 σ.1) (step := fun (κ : K21_0) (σ : T21_0) => step21_0 κ.1 κ.2.1 σ.1) (μ := fun (κ : K21_0) (σ : T21_0) => mu21_0 κ.1 κ.2.1 σ.1) cfg_ok g21 loops_none
    (fun κ σ hI => plain21_0 hI) (tree := fun (κ : K21_0) (σ : T21_0) => tree21_0 κ.1 κ.2.1 σ.1) (fun κ σ => by kernel_rfl) (fun κ σ hI => rd21_0 hI) m g r h)
noncomputable def fin21_0 (l : List Itm) (n : Int) (σ : T21_0) : T21_0 := stepFin (fun (σ : T21_0) => step21_0 l n σ.1) (fun (σ : T21_0) => mu21_0 l n σ.1) σ
theorem fin21_0_end (l : List Itm) (n : Int) {σ : T21_0} (h : I21_0 l n σ.1) : step21_0 l n (fin21_0 l n σ).1 = none ∧ I21_0 l n (fin21_0 l n σ).1 := stepFin_end (I := fun (σ : T21_0) => I21_0 l n σ.1) (fun _ hI => plain21_0 hI) h
theorem fin21_0_eq (l : List Itm) (n : Int) {G : T21_0 → T21_0} (hs : ∀ σ : T21_0, I21_0 l n σ.1 → step21_0 l n σ.1 = none → G σ = σ) (hn : ∀ σ : T21_0, I21_0 l n σ.1 → ∀ σ', step21_0 l n σ.1 = some σ' → G σ' = G σ) {σ : T21_0} (h : I21_0 l n σ.1) : fin21_0 l n σ = G σ := stepFin_eq (I := fun (σ : T21_0) => I21_0 l n σ.1) (fun _ hI => plain21_0 hI) hs hn h
def validF (l : List Itm) : Bool := (List.range l.length).all fun j => !badAt l (j : Int)
noncomputable def S21 : FSum cfg := FSum.of [.v false [kI], .v false [.ro 1]] [.v false [kB]] (fun x => [decide (List.length (α := Itm) x.2.1.1 ≤ topLen)]) (fun x => ((validF x.2.1.1, ()), ()))
noncomputable def tree_21 (l : List Itm) : RT cfg :=
  let i := (fin21_0 l l.length (0, ())).1
  let I := dec (I21_0 l l.length 0)
  .br (decide (i < (l.length : Int))) (.br (badA l i) (.ret (I :: ob21 l i) [[.b false]]) (.br ((l.getD i.toNat iz).kind == 1) .fail
    (.br (badB (l.getD i.toNat iz)) (.ret (I :: ob21 l i) [[.b false]]) (.br (sameC l i) (.ret (I :: (ob21 l i ++ oc21 l i)) [[.b false]]) .fail)))) (.ret [I] [[.b true]])
theorem ret21 {l : List Itm} (h1 : l.length ≤ topLen) : (tree_21 l).ok [[.b (validF l)]] := by
  simp only [tree_21, RT.ok, allT_cons, allT_app, allT_nil, dec_iff, decide_eq_true_eq, decide_eq_false_iff_not]
  have h0 : I21_0 l l.length 0 := ⟨rfl, h1, Int.le_refl _, by omega, fun j hj => by omega⟩
  obtain ⟨e, hI⟩ := fin21_0_end l l.length (σ := (0, ())) h0
  generalize (fin21_0 l l.length (0, ())).1 = i at e hI ⊢
  unfold step21_0 at e
  have no : i < (l.length : Int) → badAt l i = true := fun hi => by
    rw [decide_eq_true hi] at e
    cases hb : badAt l i with
    | true => rfl
    | false => rw [hb] at e; cases e
  have fl : i < (l.length : Int) → [[Ent.b false]] = [[Ent.b (R := cfg.R) (validF l)]] := fun hi => by
    have : validF l = false := by
      unfold validF
      rw [List.all_eq_false]
      have h3 := hI.2.2.1
      refine ⟨i.toNat, List.mem_range.mpr (by omega), ?_⟩
      rw [show ((i.toNat : Nat) : Int) = i by have := hI.2.2.1; omega, no hi]; simp
    rw [this]
  refine ⟨fun hi => ?_, fun hi => ⟨?_, h0, trivial⟩⟩
  · obtain ⟨o1, o2⟩ := ob21_ok hI hi
    have nb := no hi
    unfold badAt at nb
    refine ⟨fun ha => ⟨fl hi, h0, o1⟩, fun ha => ⟨fun hk => ?_, fun hk => ⟨fun hb => ⟨fl hi, h0, o1⟩, fun hb => ⟨fun hc => ⟨fl hi, h0, o1, o2⟩, fun hc => ?_⟩⟩⟩⟩
    · rw [ha, hk] at nb; cases nb
    · rw [ha, hk, hb, hc] at nb; cases nb
  · have : validF l = true := by
      unfold validF
      rw [List.all_eq_true]
      intro j hj
      rw [hI.2.2.2.2 j (by have := List.mem_range.mp hj; have := hI.2.2.2.1; show (j : Int) < i; omega)]; rfl
    rw [this]
theorem lok21 : ∀ p ∈ [(0, E21_0)], ∀ m g r, p.2 m g = some r → OutOK cfg Try.f21.ntmps (stmtFn Try.f21 p.1) m g r := by
  intro p hp
  simp only [List.mem_singleton] at hp
  subst hp
  exact out21_0
theorem ok21 : FnOK cfg 21 S21 :=
  fn_loops (l := [(0, E21_0)]) (tree := fun x => tree_21 x.2.1.1) cfg_ok g21 (fn := Try.f21) (by kernel_rfl) rfl (by kernel_rfl) lok21 (fun x => by kernel_rfl) (fun x h => ret21 (of_decide_eq_true (h _ (by exact List.mem_cons_self ..))))
theorem en21 : Enters cfg.P 21 := enters_of (fn := Try.f21) (by kernel_rfl) (by kernel_rfl) (by kernel_rfl)
end Go.Proofs.Ytbdgnghllalbgaa
