/- What the rows of this seat have in common: the two tables that are laid stand in memory word by word; one start at which they are laid. -/
import Derived.Test.YtmokinjncelmbaaDoorRRRRows
import Derived.Test.YtmokinjncelmbaaDoorRRRWk
import Derived.WalkKit
import Derived.ProofKit
import Derived.OpenShut
import Derived.ShutString
import Derived.ChangeOld
import Derived.Below
import Derived.LaidLaws
import Derived.SliceStrings
import Derived.Lib.LaidU8
namespace Go.Proofs.YtmokinjncelmbaaDoorRRR
open Go.Sx Go.Sha

/-- An array of integers of one kind, that reads as these numbers, holds them, cell for cell. -/
theorem ints_of_array {H : Type} {enc : TypeId × Value → H} {P : Program} {w : World} {base : Nat} {sp : Nat → Bool} {held : Bool} {fuel : Nat} {t e : TypeId} {len : Nat} {k : IntKind} {cs : List Value} {zs : List Int} {p : List MemPlace}
    (ht : P.underlying t = some (.array len e)) (he : P.underlying e = some (.int k)) (hc : P.cellsOf e = 1) (hct : P.cellsOf t = len)
    (h : DataW.trod enc P w base sp held fuel t cs = some (.agg (zs.map fun z => .lit (.int k z)), p)) : cs = zs.map fun z => Value.int k z := by
  obtain ⟨xs, n, rfl, hx, hl, hxl, hall⟩ := DataW.trod_array ht h
  have hxs : xs.map (·.1) = zs.map fun z => (DataW.lit (.int k z) : DataW H) := by
    have := congrArg Prod.fst hx
    simpa using this.symm
  have hzl : zs.length = len := by
    have := congrArg List.length hxs
    simp at this
    omega
  apply List.ext_getElem?
  intro i
  by_cases hi : i < len
  · have h1 := hall i hi
    obtain ⟨b, hb⟩ : ∃ b, xs[i]? = some b := ⟨xs[i]'(by omega), List.getElem?_eq_getElem (by omega)⟩
    rw [hb, hc] at h1
    obtain ⟨z, hcz, rfl, _⟩ := DataW.trod_int he h1
    have h2 : cs[i]? = some (.int k z) := by
      have := congrArg (·[0]?) hcz
      simpa [List.getElem?_take, List.getElem?_drop] using this
    have h3 : (xs.map (·.1))[i]? = some (DataW.lit (.int k z) : DataW H) := by simp [hb]
    rw [hxs] at h3
    simp only [List.getElem?_map, Option.map_eq_some_iff, DataW.lit.injEq, Lit.int.injEq, true_and] at h3
    obtain ⟨z', hz', rfl⟩ := h3
    simp [h2, hz']
  · rw [List.getElem?_eq_none (by omega), List.getElem?_eq_none (by simp; omega)]

abbrev laidBoth : List (String × DataW Unit) := [("replevin/sha256.initial", Rows.laid_replevin_sha256_initial), ("replevin/sha256.constants", Rows.laid_replevin_sha256_constants)]

theorem g0 : Tryd.prog.globalNamed "replevin/sha256.initial" = some 0 := by kernel_rfl
theorem g1 : Tryd.prog.globalNamed "replevin/sha256.constants" = some 1 := by kernel_rfl
theorem g0t : (Tryd.prog.globals[0]?).map (·.type) = some 55 := by kernel_rfl
theorem g1t : (Tryd.prog.globals[1]?).map (·.type) = some 68 := by kernel_rfl
theorem cells54 : Tryd.prog.cellsOf 54 = 1 := by kernel_rfl
theorem cells55 : Tryd.prog.cellsOf 55 = 8 := by kernel_rfl
theorem cells68 : Tryd.prog.cellsOf 68 = 64 := by kernel_rfl
theorem own : ownKnob Tryd.prog.godebug = none := by kernel_rfl
theorem laidOut : laidOutB Tryd.prog = true := by kernel_rfl

def zs0 : List Int := H0.list.map fun x => (x.toNat : Int)
def zsK : List Int := K.map fun x => (x.toNat : Int)
theorem data0 : (Rows.laid_replevin_sha256_initial : DataW Unit) = .agg (zs0.map fun z => .lit (.int .u32 z)) := by kernel_rfl
theorem dataK : (Rows.laid_replevin_sha256_constants : DataW Unit) = .agg (zsK.map fun z => .lit (.int .u32 z)) := by kernel_rfl
theorem vals0 : (zs0.map fun z => Value.int .u32 z) = H0.list.map u32 := by simp [zs0, u32]
theorem valsK : (zsK.map fun z => Value.int .u32 z) = K.map u32 := by simp [zsK, u32]

theorem tables_of_laid {W : World} (h : laidMet Tryd.prog laidBoth W) : Tables W := by
  obtain ⟨g, t, cs, fuel, p, hg, ht, hvar, hd⟩ := Lib.laidMet.reads h (n := "replevin/sha256.initial") (d := Rows.laid_replevin_sha256_initial) (by simp)
  obtain ⟨g', t', cs', fuel', p', hg', ht', hvar', hd'⟩ := Lib.laidMet.reads h (n := "replevin/sha256.constants") (d := Rows.laid_replevin_sha256_constants) (by simp)
  obtain rfl := Option.some.inj (g0.symm.trans hg)
  obtain rfl := Option.some.inj (g0t.symm.trans ht)
  obtain rfl := Option.some.inj (g1.symm.trans hg')
  obtain rfl := Option.some.inj (g1t.symm.trans ht')
  rw [data0] at hd
  rw [dataK] at hd'
  have e0 := ints_of_array Tryd.underlying55 Tryd.underlying54 cells54 cells55 hd
  have e1 := ints_of_array Tryd.underlying68 Tryd.underlying54 cells54 cells68 hd'
  rw [vals0] at e0
  rw [valsK] at e1
  refine ⟨fun i v hv => ?_, fun i v hv => ?_⟩
  · rw [Nat.zero_add, World.var?_cell g0 hvar i, ← Array.getElem?_toList, e0]
    exact hv
  · rw [Nat.zero_add, World.var?_cell g1 hvar' i, ← Array.getElem?_toList, e1]
    exact hv

theorem u8_of_wf {z : Int} (h : (Lit.int .u8 z).wf = true) : ∃ a : BitVec 8, z = (a.toNat : Int) := by
  have a1 : IntKind.u8.min = 0 := rfl
  have a2 : IntKind.u8.max = 255 := rfl
  simp only [Lit.wf, Bool.and_eq_true, decide_eq_true_eq] at h
  refine ⟨BitVec.ofNat 8 z.toNat, ?_⟩
  rw [BitVec.toNat_ofNat]
  omega

theorem cells5 : Tryd.prog.cellsOf 5 = 1 := by kernel_rfl
/-- An array of bytes that came in. -/
theorem open_bytes {H : Type} {enc : TypeId × Value → H} {P : Program} {w : World} {base b0 : Nat} {r : Reach} {sp : Nat → Bool} {held : Bool} {t e : TypeId} {len : Nat} {v : Value} {d : DataW H} {p : List MemPlace}
    (ht : P.underlying t = some (.array len e)) (he : P.underlying e = some (.int .u8)) (hc : P.cellsOf e = 1) (hct : P.cellsOf t = len) (hv : Value.okWide P w r b0 t v) (h : DataW.Trod enc P w base sp held t v d p) :
    ∃ A : List (BitVec 8), A.length = len ∧ v = .agg (A.map u8).toArray := by
  simp only [Value.okWide, ht] at hv
  obtain ⟨⟨cs⟩, rfl, hsz, _⟩ := hv
  obtain ⟨fuel, hf⟩ := h
  obtain ⟨xs, n, _, _, hl, hxl, hall⟩ := DataW.trod_array ht hf
  have hcl : cs.length = len := by simpa [hct] using hsz
  have hcell : ∀ i, i < len → ∃ a : BitVec 8, cs[i]? = some (u8 a) := fun i hi => by
    have h1 := hall i hi
    obtain ⟨b, hb⟩ : ∃ b, xs[i]? = some b := ⟨xs[i]'(by omega), List.getElem?_eq_getElem (by omega)⟩
    rw [hb, hc] at h1
    obtain ⟨z, hcz, rfl, hw⟩ := DataW.trod_int he h1
    obtain ⟨a, rfl⟩ := u8_of_wf hw
    have := congrArg (·[0]?) hcz
    exact ⟨a, by simpa [Value.cells, List.getElem?_take, List.getElem?_drop] using this⟩
  let f : Nat → BitVec 8 := fun i => match cs[i]? with
    | some (Value.int _ z) => BitVec.ofNat 8 z.toNat
    | _ => 0
  have hf' : ∀ i a, cs[i]? = some (u8 a) → f i = a := fun i a ha => by simp [f, ha]
  refine ⟨(List.range len).map f, by simp, ?_⟩
  congr 2
  apply List.ext_getElem?
  intro i
  by_cases hi : i < len
  · obtain ⟨a, ha⟩ := hcell i hi
    simp [hi, ha, hf' i a ha]
  · rw [List.getElem?_eq_none (by omega), List.getElem?_eq_none (by simp; omega)]

theorem slice_here {x : Addr} {w : World} {len : Nat} {f : Nat → Value} (h : ∀ i, i < len → w.cell? (x.add i) = some (f i)) (h0 : 0 < len) : ∃ b o, x = ⟨b, o, none⟩ ∧ ∀ i, i < len → w.cell? ⟨b, o + i, none⟩ = some (f i) := by
  obtain ⟨b, o, spot⟩ := x
  have hc := h 0 h0
  have hspot : spot = none := by simpa [Addr.add] using World.cell?_spot hc
  subst hspot
  exact ⟨b, o, rfl, fun i hi => by rw [← add_lit]; exact h i hi⟩

/-- A slice of bytes that came in. -/
theorem open_row8 {H : Type} {enc : TypeId × Value → H} {P : Program} {w : World} {held : Bool} {t e : TypeId} {a : Option Addr} {len cap : Nat} {d : DataW H} {p : List MemPlace}
    (ht : P.underlying t = some (.slice e)) (he : P.underlying e = some (.int .u8)) (hc : P.cellsOf e = 1) (h : DataW.Trod enc P w 0 (fun _ => true) held t (.slice a len cap) d p) : ∃ zs, Row8 w a len zs := by
  obtain ⟨fuel, hf⟩ := h
  rcases ChangeShapes.open_ints ht he hc hf with ⟨hcs, _⟩ | ⟨x, l, c, zs, hcs, _, hl, hm, hz, _, hcell, hwz⟩
  · simp [Value.cells] at hcs
    obtain ⟨rfl, rfl, rfl⟩ := hcs
    exact ⟨[], rfl, Nat.zero_le _, fun h => absurd h (by omega)⟩
  · simp [Value.cells] at hcs
    obtain ⟨rfl, rfl, rfl⟩ := hcs
    have hzl : zs.length = cap := by simpa using hz
    refine ⟨(zs.take len).map fun z => BitVec.ofNat 8 z.toNat, by simp; omega, by omega, fun h0 => ?_⟩
    obtain ⟨b, o, rfl, hb⟩ := slice_here (len := len) (f := fun i => .int .u8 (zs.getD i 0)) (fun i hi => hcell i (by omega)) h0
    refine ⟨b, o, rfl, fun i v hv => ?_⟩
    have hi : i < len := by
      have := (List.getElem?_eq_some_iff.1 hv).1
      simp at this
      omega
    rw [hb i hi]
    have hiz : i < zs.length := by omega
    obtain ⟨y, hy⟩ := u8_of_wf (hwz (zs[i]) (List.getElem_mem hiz))
    rw [← hv]
    simp [hi, hiz, hy]

/-- A slice of texts that came in. -/
theorem open_texts {H : Type} {enc : TypeId × Value → H} {P : Program} {w : World} {held : Bool} {t e : TypeId} {a : Option Addr} {len cap : Nat} {d : DataW H} {p : List MemPlace}
    (ht : P.underlying t = some (.slice e)) (he : P.underlying e = some .string) (hc : P.cellsOf e = 1) (h : DataW.Trod enc P w 0 (fun _ => true) held t (.slice a len cap) d p) : ∃ zs, Texts w a len zs := by
  obtain ⟨fuel, hf⟩ := h
  rcases Go.ChangeShapes.open_strings ht he hc hf with ⟨hcs, _⟩ | ⟨x, l, c, zs, hcs, _, hl, hm, hz, _, hcell, hwz⟩
  · simp [Value.cells] at hcs
    obtain ⟨rfl, rfl, rfl⟩ := hcs
    exact ⟨[], rfl, Nat.zero_le _, by simp, fun h => absurd h (by omega)⟩
  · simp [Value.cells] at hcs
    obtain ⟨rfl, rfl, rfl⟩ := hcs
    have hzl : zs.length = cap := by simpa using hz
    refine ⟨zs.take len, by simp; omega, by omega, fun s hs => hwz s (List.mem_of_mem_take hs), fun h0 => ?_⟩
    obtain ⟨b, o, rfl, hb⟩ := slice_here (len := len) (f := fun i => .string (zs.getD i ByteArray.empty)) (fun i hi => hcell i (by omega)) h0
    refine ⟨b, o, rfl, fun i v hv => ?_⟩
    have hi : i < len := by
      have := (List.getElem?_eq_some_iff.1 hv).1
      simp at this
      omega
    rw [hb i hi]
    have hiz : i < zs.length := by omega
    rw [← hv]
    simp [hi, hiz]

/-- One start: the two tables as their initialisers lay them, 'new' blocks of arguments beyond. -/
noncomputable def laidWorld (os : Os) (new : Array Obj) : World :=
  let w0 := World.holding Tryd.prog os ⟨new, #[], []⟩
  { w0 with heap := (w0.heap.modify 0 fun
      | .cells _ t frozen => .cells (H0.list.map u32).toArray t frozen
      | o => o).modify 1 fun
      | .cells _ t frozen => .cells (K.map u32).toArray t frozen
      | o => o }
theorem laid_met (os : Os) (args : Array Value) : laidMet Tryd.prog laidBoth ((laidWorld os #[]).forCall (fun _ _ => 0) ⟨#[], args, []⟩).memory :=
  laidMet_of_run' 8 (by kernel_rfl) (by kernel_rfl)
end Go.Proofs.YtmokinjncelmbaaDoorRRR
