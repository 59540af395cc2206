/- What operations on strings and slices yield over known frames and blocks; append, copy, clear, make: no condition. -/
import Derived.Test.YtmokinjncelmbaaDoorRRRKc
import Derived.Stop.BytesEq
namespace Go.Sx
variable {P : Program} {n : Nat} {w0 : World} {O : List Nat} {M : List Blk} {L : Env} {ty : TypeId}

/-! ### Bytes of strings -/
def bsOf (s : ByteArray) : List (BitVec 8) := s.data.toList.map UInt8.toBitVec
def ofBs (l : List (BitVec 8)) : ByteArray := ⟨(l.map UInt8.ofBitVec).toArray⟩

@[simp] theorem bsOf_ofBs (l : List (BitVec 8)) : bsOf (ofBs l) = l := by simp [bsOf, ofBs, Function.comp_def]
@[simp] theorem ofBs_bsOf (s : ByteArray) : ofBs (bsOf s) = s := by
  obtain ⟨⟨l⟩⟩ := s
  simp [bsOf, ofBs, Function.comp_def]
@[simp] theorem bsOf_length (s : ByteArray) : (bsOf s).length = s.size := by simp [bsOf]
@[simp] theorem ofBs_size (l : List (BitVec 8)) : (ofBs l).size = l.length := by rw [← bsOf_length, bsOf_ofBs]
theorem bsOf_inj {s t : ByteArray} (h : bsOf s = bsOf t) : s = t := by rw [← ofBs_bsOf s, h, ofBs_bsOf]
theorem bsOf_extract (s : ByteArray) (a b : Nat) : bsOf (s.extract a b) = ((bsOf s).drop a).take (b - a) := by
  simp [bsOf, ByteArray.data_extract]
theorem bsOf_append (s t : ByteArray) : bsOf (s ++ t) = bsOf s ++ bsOf t := by simp [bsOf, ByteArray.data_append]
theorem cells_string (s : ByteArray) : (s.data.map fun b => Value.int .u8 (b.toNat : Int)) = ((bsOf s).map u8).toArray := by
  obtain ⟨⟨l⟩⟩ := s
  simp [bsOf, Function.comp_def]

/-! ### Builtins -/
/-- A builtin is carried out on the operands' values. -/
def Bn (P : Program) (n : Nat) (L : Env) (o : Op) (ty : TypeId) (b : Builtin) (ts : Array TypeId) (vs : List Value) : Prop :=
  ∀ (d : Option Tmp) (pos : String) (aft : Array Edge) (g : Option (Nat × Bool)) (a : Act) (w : World), Knows n L a →
    ∃ consts, (execOp a.eval ⟨d, o, ty, pos, aft, g⟩).run P w = (builtin b ts ty consts vs.toArray).run P w

theorem Bn.mk {b : Builtin} {xs : List Operand} {vs : List Value} {ts : Array TypeId} (hv : evs L xs = some vs) : Bn P n L (.call { callee := .builtin b, args := xs.toArray, argTypes := ts }) ty b ts vs := fun _ _ _ _ a w hk => by
  have := hk.evals hv
  exact ⟨_, by simp [execOp, resolve, invoke, this]; rfl⟩

theorem Rd.len {T : TypeId} {x : Operand} {s : ByteArray} (hx : ev L x = some (.string s)) (hu : P.underlying T = some .string) : Rd P n w0 O M L (.call { callee := .builtin .len, args := #[x], argTypes := #[T] }) ty (i64 s.size) := fun d pos aft g a w hk _ => by
  obtain ⟨c, h⟩ := Bn.mk (P := P) (n := n) (L := L) (ty := ty) (b := .len) (xs := [x]) (ts := #[T]) (vs := [.string s]) (by simp [evs, hx]) d pos aft g a w hk
  rw [h]
  simp [builtin, Builtin.len_, run_underlying hu, goInt]
theorem Rd.lenS {T E : TypeId} {x : Operand} {p : Option Addr} {l c : Nat} (hx : ev L x = some (.slice p l c)) (hu : P.underlying T = some (.slice E)) : Rd P n w0 O M L (.call { callee := .builtin .len, args := #[x], argTypes := #[T] }) ty (i64 l) := fun d pos aft g a w hk _ => by
  obtain ⟨k, h⟩ := Bn.mk (P := P) (n := n) (L := L) (ty := ty) (b := .len) (xs := [x]) (ts := #[T]) (vs := [.slice p l c]) (by simp [evs, hx]) d pos aft g a w hk
  rw [h]
  simp [builtin, Builtin.len_, run_underlying hu, goInt]
theorem Rd.minI {ts : Array TypeId} {x y : Operand} {a b : Nat} (hx : ev L x = some (i64 a)) (hy : ev L y = some (i64 b)) : Rd P n w0 O M L (.call { callee := .builtin .min, args := #[x, y], argTypes := ts }) ty (i64 (min a b)) := fun d pos aft g f w hk _ => by
  obtain ⟨k, h⟩ := Bn.mk (P := P) (n := n) (L := L) (ty := ty) (b := .min) (xs := [x, y]) (ts := ts) (vs := [i64 a, i64 b]) (by simp [evs, hx, hy]) d pos aft g f w hk
  rw [h]
  have : (if (b : Int) < (a : Int) then (b : Int) else (a : Int)) = ((min a b : Nat) : Int) := by split <;> omega
  simp [builtin, Builtin.min_, Builtin.min2]
  split <;> omega

/-! ### Strings -/
theorem Rd.strSlice {T : TypeId} {x y : Operand} {s : ByteArray} {b : Nat} (hx : ev L x = some (.string s)) (hy : ev L y = some (i64 b)) (hu : P.underlying T = some .string) (hb : b ≤ s.size) : Rd P n w0 O M L (.slice T x none (some y) none) ty (.string (s.extract 0 b)) := fun _ _ _ _ a w hk _ => by
  simp [execOp, hk.eval hx, hk.eval hy, Instr.sliceAt, run_underlying hu, Instr.slice, Instr.sliceBounds, Instr.sliceBound, asIntOf, hb]
theorem Rd.strFrom {T : TypeId} {x y : Operand} {s : ByteArray} {b : Nat} (hx : ev L x = some (.string s)) (hy : ev L y = some (i64 b)) (hu : P.underlying T = some .string) (hb : b ≤ s.size) : Rd P n w0 O M L (.slice T x (some y) none none) ty (.string (s.extract b s.size)) := fun _ _ _ _ a w hk _ => by
  simp [execOp, hk.eval hx, hk.eval hy, Instr.sliceAt, run_underlying hu, Instr.slice, Instr.sliceBounds, Instr.sliceBound, asIntOf, hb]
theorem Rd.strIdx {T : TypeId} {x y : Operand} {s : ByteArray} {k : Nat} {kk : IntKind} {v : BitVec 8} (hx : ev L x = some (.string s)) (hy : ev L y = some (.int kk (k : Int))) (hu : P.underlying T = some .string) (hv : (bsOf s)[k]? = some v) : Rd P n w0 O M L (.index T x y) ty (u8 v) := fun _ _ _ _ a w hk _ => by
  have hl := (List.getElem?_eq_some_iff.1 hv).1
  have hs : s[k]? = some (UInt8.ofBitVec v) := by
    simp only [bsOf, List.getElem?_map, Option.map_eq_some_iff] at hv
    obtain ⟨b, hb, rfl⟩ := hv
    rw [Array.getElem?_toList] at hb
    have hlt : k < s.size := by simpa using hl
    rw [getElem?_pos s k hlt]
    have : s.data[k]? = some s.data[k] := Array.getElem?_eq_getElem (h := hlt)
    rw [this] at hb
    simpa [ByteArray.getElem_eq_getElem_data] using hb
  simp [execOp, hk.eval hx, hk.eval hy, Instr.index, asIntOf, run_underlying hu, hs]
theorem Rd.strOp {op : BinOp} {T T' : TypeId} {x y : Operand} {a b : ByteArray} {v : Value} (hx : ev L x = some (.string a)) (hy : ev L y = some (.string b)) (h : ∀ w, (Op.stringOp op a b).run P w = .ok v w) (h1 : op ≠ .shl) (h2 : op ≠ .shr) : Rd P n w0 O M L (.binOp op T x y T') ty v := fun d pos aft g f w hk _ => by
  have : binOp op T (.string a) (.string b) = Op.stringOp op a b := by cases op <;> first | rfl | exact absurd rfl h1 | exact absurd rfl h2
  simp only [execOp, hk.eval hx, hk.eval hy, this]
  cases op <;> simp [eqGuard, h w]
theorem Rd.strAdd {T T' : TypeId} {x y : Operand} {a b : ByteArray} (hx : ev L x = some (.string a)) (hy : ev L y = some (.string b)) (h : a.size + b.size < 9223372036854775808) : Rd P n w0 O M L (.binOp .add T x y T') ty (.string (a ++ b)) :=
  .strOp hx hy (fun w => by
    have : ¬ (((a.size + b.size : Nat) : Int) > IntKind.i64.max) := by
      have : IntKind.i64.max = 9223372036854775807 := by decide
      omega
    simp only [Op.stringOp, this, if_false, Sem.run_pure]) (by decide) (by decide)
theorem beq_bytes (a b : ByteArray) : (a.toList == b.toList) = decide (a = b) := by
  rw [ByteArray.toList_eq, ByteArray.toList_eq, Bool.eq_iff_iff]
  simp only [beq_iff_eq, decide_eq_true_eq]
  exact ⟨fun h => by obtain ⟨⟨x⟩⟩ := a; obtain ⟨⟨y⟩⟩ := b; simp at h; simp [h], fun h => by rw [h]⟩
theorem Rd.strEql {T T' : TypeId} {x y : Operand} {a b : ByteArray} (hx : ev L x = some (.string a)) (hy : ev L y = some (.string b)) : Rd P n w0 O M L (.binOp .eql T x y T') ty (.bool (decide (a = b))) :=
  .strOp hx hy (fun w => by rw [← beq_bytes]; rfl) (by decide) (by decide)
theorem Rd.strNeq {T T' : TypeId} {x y : Operand} {a b : ByteArray} (hx : ev L x = some (.string a)) (hy : ev L y = some (.string b)) : Rd P n w0 O M L (.binOp .neq T x y T') ty (.bool (!decide (a = b))) :=
  .strOp hx hy (fun w => by rw [← beq_bytes]; rfl) (by decide) (by decide)
theorem Rd.strLss {T T' : TypeId} {x y : Operand} {a b : ByteArray} (hx : ev L x = some (.string a)) (hy : ev L y = some (.string b)) : Rd P n w0 O M L (.binOp .lss T x y T') ty (.bool (Op.bytesLess a.toList b.toList)) :=
  .strOp hx hy (fun w => rfl) (by decide) (by decide)
theorem Rd.strGtr {T T' : TypeId} {x y : Operand} {a b : ByteArray} (hx : ev L x = some (.string a)) (hy : ev L y = some (.string b)) : Rd P n w0 O M L (.binOp .gtr T x y T') ty (.bool (!(Op.bytesLess a.toList b.toList || decide (a = b)))) :=
  .strOp hx hy (fun w => by rw [← beq_bytes]; rfl) (by decide) (by decide)

/-! ### Slices -/
theorem Rd.slSlice {T E : TypeId} {x y z : Operand} {b o len cap l h size : Nat} (hx : ev L x = some (.slice (some ⟨b, o, none⟩) len cap)) (hy : ev L y = some (i64 l)) (hz : ev L z = some (i64 h)) (hu : P.underlying T = some (.slice E)) (hs : ∀ w, (sizeOf E).run P w = .ok size w) (h1 : l < h) (h2 : h ≤ cap) :
    Rd P n w0 O M L (.slice T x (some y) (some z) none) ty (.slice (some ⟨b, o + l * size, none⟩) (h - l) (cap - l)) := fun _ _ _ _ a w hk _ => by
  have h3 : ¬ (cap = l) := by omega
  simp [execOp, hk.eval hx, hk.eval hy, hk.eval hz, Instr.sliceAt, run_underlying hu, Instr.slice, Instr.sliceBounds, Instr.sliceBound, asIntOf, h2, Nat.le_of_lt h1, hs, h3, add_lit]
/-- 'x[l:]' of an array behind an address. -/
theorem Rd.arrFrom {T E : TypeId} {x y : Operand} {b o len l size : Nat} (hx : ev L x = some (.pointer (some ⟨b, o, none⟩))) (hy : ev L y = some (i64 l)) (hu : P.underlying T = some (.array len E)) (hs : ∀ w, (sizeOf E).run P w = .ok size w) (h1 : l ≤ len) :
    Rd P n w0 O M L (.slice T x (some y) none none) ty (.slice (some (if len = l then ⟨b, o, none⟩ else ⟨b, o + l * size, none⟩)) (len - l) (len - l)) := fun _ _ _ _ a w hk _ => by
  simp [execOp, hk.eval hx, hk.eval hy, Instr.sliceAt, run_underlying hu, Instr.sureAddr, Instr.sliceBounds, Instr.sliceBound, asIntOf, h1, hs, add_lit]
theorem Rd.arrAll {T E : TypeId} {x : Operand} {b o len size : Nat} (hx : ev L x = some (.pointer (some ⟨b, o, none⟩))) (hu : P.underlying T = some (.array len E)) (hs : ∀ w, (sizeOf E).run P w = .ok size w) :
    Rd P n w0 O M L (.slice T x none none none) ty (.slice (some ⟨b, o, none⟩) len len) := fun _ _ _ _ a w hk _ => by
  simp [execOp, hk.eval hx, Instr.sliceAt, run_underlying hu, Instr.sureAddr, Instr.sliceBounds, hs, add_lit]

/-- 'string(b)', the bytes as they lie. -/
theorem run_bytesToString_own {w : World} {b o len cap : Nat} {l : List (BitVec 8)} (hl : l.length = len) (hr : w.rangeAt b o (l.map u8)) : (Conv.bytesToString (.slice (some ⟨b, o, none⟩) len cap)).run P w = .ok (.string (ofBs l)) w := by
  have h1 : (loadCells ⟨b, o, none⟩ len).run P w = .ok ((l.map fun x => (x.toNat : Int)).map (Value.int .u8)).toArray w := by
    have := run_loadCells_list (P := P) w ⟨b, o, none⟩ (l.map u8) (fun j v hv => by rw [add_lit]; exact hr j v hv)
    simpa [hl, Function.comp_def] using this
  rw [run_bytesToString w _ len cap _ h1, foldl_push_bytes]
  simp [ofBs, Function.comp_def, ByteArray.empty, ByteArray.emptyWithCapacity]
  rfl
theorem Rd.toStr {S D E : TypeId} {x : Operand} {b o len cap : Nat} {l : List (BitVec 8)} (hx : ev L x = some (.slice (some ⟨b, o, none⟩) len cap)) (hs : P.underlying S = some (.slice E)) (he : P.underlying E = some (.int .u8)) (hd : P.underlying D = some .string) (hl : l.length = len) (hr : ∀ w, Hp w0 w O M → w.rangeAt b o (l.map u8)) :
    Rd P n w0 O M L (.convert S D x) ty (.string (ofBs l)) := fun _ _ _ _ a w hk hp => by
  simp [execOp, hk.eval hx, run_convert_bytes_string w S D E (some ⟨b, o, none⟩) len cap hs he hd, run_bytesToString_own hl (hr w hp)]
theorem Rd.toStrNil {S D E : TypeId} {x : Operand} {l c : Nat} (hx : ev L x = some (.slice none l c)) (hs : P.underlying S = some (.slice E)) (he : P.underlying E = some (.int .u8)) (hd : P.underlying D = some .string) : Rd P n w0 O M L (.convert S D x) ty (.string (ofBs [])) := fun _ _ _ _ a w hk _ => by
  simp [execOp, hk.eval hx, run_convert_bytes_nil w S E hs he l c D hd]
  rfl

theorem Hp.range {w : World} (hp : Hp w0 w O M) {j b o : Nat} {C vs : List Value} {T : TypeId} (hj : M[j]? = some ⟨b, C, T⟩) (hv : ∀ i v, vs[i]? = some v → C[o + i]? = some v) : w.rangeAt b o vs := fun i v h => by
  have := (hp.get hj).cell (o + i)
  simp only at this
  rw [this]
  exact hv i v h

/-- Two arrays of bytes. -/
theorem Rd.eqlArr {T T' E : TypeId} {x y : Operand} {len : Nat} {A B : List (BitVec 8)} (hx : ev L x = some (.agg (A.map u8).toArray)) (hy : ev L y = some (.agg (B.map u8).toArray)) (hu : P.underlying T = some (.array len E)) (he : P.underlying E = some (.int .u8)) (hs : ∀ w, (sizeOf E).run P w = .ok 1 w) (hg : P.eqGuardType P.depth T = false) (hA : A.length = len) (hB : B.length = len) :
    Rd P n w0 O M L (.binOp .eql T x y T') ty (.bool (A == B)) := fun _ _ _ _ a w hk _ => by
  have h := run_eql_bytes (P := P) w T E len hu he hs (A.map UInt8.ofBitVec) (B.map UInt8.ofBitVec) (by simpa using hA) (by simpa using hB)
  have e1 : ∀ X : List (BitVec 8), ((X.map UInt8.ofBitVec).map Extern.Stop.cell).toArray = (X.map u8).toArray := fun X => by
    rw [List.map_map]; rfl
  rw [e1, e1] at h
  have h2 : (A.map UInt8.ofBitVec == B.map UInt8.ofBitVec) = (A == B) := by
    rw [Bool.eq_iff_iff]
    simp only [beq_iff_eq]
    refine ⟨fun h => ?_, fun h => by rw [h]⟩
    have := congrArg (List.map UInt8.toBitVec) h
    simpa [Function.comp_def] using this
  rw [h2] at h
  simp only [execOp, hk.eval hx, hk.eval hy]
  simp [eqGuard, hg, h]

section
variable {ops : Array Oper} {Q : Exit → Act → World → Prop} {rest : List Oper} {d : Option Tmp} {pos : String} {aft : Array Edge}

theorem Hp.realloc {w : World} (h : Hp w0 w O M) {j : Nat} {e : Blk} (hj : M[j]? = some e) (C : List Value) (T : TypeId) : Hp w0 (w.alloc (.cells C.toArray T)) O (M.set j ⟨w.heap.size, C, T⟩) := by
  have hA := h.alloc C T
  have hjl := (List.getElem?_eq_some_iff.1 hj).1
  refine ⟨hA.os, hA.tape, hA.output, hA.size, hA.frame, fun f hf => ?_, fun f hf => ?_, ?_⟩
  · rcases List.mem_or_eq_of_mem_set hf with hf | rfl
    · exact hA.mem f (by simp [hf])
    · exact hA.mem _ (by simp)
  · rcases List.mem_or_eq_of_mem_set hf with hf | rfl
    · exact hA.own f (by simp [hf])
    · exact hA.own _ (by simp)
  · rw [List.map_set]
    have hn := hA.nodup
    rw [List.map_cons, List.nodup_cons] at hn
    rw [List.nodup_iff_pairwise_ne, List.pairwise_iff_getElem] at *
    intro i k hi hk hik
    simp only [List.getElem_set]
    simp only [List.length_set] at hi hk
    by_cases h1 : j = i
    · subst h1
      rw [if_pos rfl, if_neg (by omega)]
      intro e; exact hn.1 (e ▸ List.getElem_mem _)
    · by_cases h2 : j = k
      · subst h2
        rw [if_neg h1, if_pos rfl]
        intro e; exact hn.1 (e ▸ List.getElem_mem _)
      · rw [if_neg h1, if_neg h2]
        exact hn.2 i k hi hk hik
end
end Go.Sx
