/- Slices of texts and of bytes that came in; two arrays that differ; what is new. -/
import Derived.Test.YtmokinjncelmbaaDoorRRRXa
namespace Go.Sx
variable {P : Program} {n : Nat} {w0 : World} {O : List Nat} {L : Env} {M : List Blk} {ty : TypeId}
theorem Rd.neqArr {T T' E : TypeId} {x y : Operand} {len : Nat} {A B : List (BitVec 8)} (hx : ev L x = some (.agg (A.map u8).toArray)) (hy : ev L y = some (.agg (B.map u8).toArray)) (hu : P.underlying T = some (.array len E)) (he : P.underlying E = some (.int .u8)) (hs : ∀ w, (sizeOf E).run P w = .ok 1 w) (hg : P.eqGuardType P.depth T = false) (hA : A.length = len) (hB : B.length = len) :
    Rd P n w0 O M L (.binOp .neq T x y T') ty (.bool (!(A == B))) := fun _ _ _ _ a w hk _ => by
  have h : (Op.equal T (.agg ((A.map UInt8.ofBitVec).map Extern.Stop.cell).toArray) (.agg ((B.map UInt8.ofBitVec).map Extern.Stop.cell).toArray)).run P w = .ok (A.map UInt8.ofBitVec == B.map UInt8.ofBitVec) w :=
    run_equalIn_bytes (P := P) w 9998 T E len hu he hs (A.map UInt8.ofBitVec) (B.map UInt8.ofBitVec) (by simpa using hA) (by simpa using hB)
  have e1 : ∀ X : List (BitVec 8), ((X.map UInt8.ofBitVec).map Extern.Stop.cell).toArray = (X.map u8).toArray := fun X => by
    rw [List.map_map]; rfl
  rw [e1, e1] at h
  have h2 : (A.map UInt8.ofBitVec == B.map UInt8.ofBitVec) = (A == B) := by
    rw [Bool.eq_iff_iff]
    simp only [beq_iff_eq]
    refine ⟨fun h => ?_, fun h => by rw [h]⟩
    have := congrArg (List.map UInt8.toBitVec) h
    simpa [Function.comp_def] using this
  rw [h2] at h
  have h1 : binOp .neq T (.agg (A.map u8).toArray) (.agg (B.map u8).toArray) = (do pure (.bool (!(← Op.equal T (.agg (A.map u8).toArray) (.agg (B.map u8).toArray))))) := rfl
  simp only [execOp, hk.eval hx, hk.eval hy, h1]
  simp [eqGuard, hg, h]
theorem Hp.fresh {w : World} (hp : Hp w0 w [] M) {j : Nat} {e : Blk} (hj : M[j]? = some e) : w0.heap.size ≤ e.b := by
  rcases hp.own e (List.mem_of_getElem? hj) with h | h
  · exact h
  · simp at h

/-- A slice of bytes that came in. -/
structure Row8 (w : World) (a : Option Addr) (len : Nat) (zs : List (BitVec 8)) : Prop where
  size : zs.length = len
  small : len ≤ maxLen
  cells : 0 < len → ∃ b o, a = some ⟨b, o, none⟩ ∧ w.rangeAt b o (zs.map u8)
/-- A slice of texts that came in. -/
structure Texts (w : World) (a : Option Addr) (len : Nat) (ss : List ByteArray) : Prop where
  size : ss.length = len
  small : len ≤ maxLen
  sizes : ∀ s ∈ ss, s.size ≤ maxLen
  cells : 0 < len → ∃ b o, a = some ⟨b, o, none⟩ ∧ w.rangeAt b o (ss.map Value.string)
theorem Texts.after {w w' : World} {M : List Blk} {a : Option Addr} {len : Nat} {ss : List ByteArray} (h : Texts w a len ss) (hp : Hp w w' [] M) : Texts w' a len ss :=
  ⟨h.size, h.small, h.sizes, fun h0 => by
    obtain ⟨b, o, e, hc⟩ := h.cells h0
    exact ⟨b, o, e, fun i v hv => hp.old (by simp) (hc i v hv)⟩⟩
theorem maxLen_lt : maxLen < 9223372036854775808 := by decide
end Go.Sx
