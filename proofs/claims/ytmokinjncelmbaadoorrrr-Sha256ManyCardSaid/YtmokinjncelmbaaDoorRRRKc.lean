/- What single operations yield over known frames and blocks: numbers, addresses, loads, stores, new blocks: no condition. -/
import Derived.Test.YtmokinjncelmbaaDoorRRRKb
namespace Go.Sx
variable {P : Program} {n : Nat} {w0 : World} {O : List Nat} {M : List Blk} {L : Env} {ty : TypeId}

abbrev u8 (x : BitVec 8) : Value := .int .u8 (x.toNat : Int)
abbrev u32 (x : BitVec 32) : Value := .int .u32 (x.toNat : Int)
abbrev u64 (x : BitVec 64) : Value := .int .u64 (x.toNat : Int)
/-- An int that is not negative. -/
abbrev i64 (k : Nat) : Value := .int .i64 (k : Int)

theorem wrap_i64 {x : Int} (h0 : -9223372036854775808 ≤ x) (h1 : x < 9223372036854775808) : IntKind.i64.wrap x = x := by
  simp only [IntKind.wrap, IntKind.bits, IntKind.signed, Bool.true_and, Nat.add_one_sub_one]
  simp
  split <;> omega

theorem wrap_unsigned (k : IntKind) (hk : k.signed = false) (m : Nat) : k.wrap (m : Int) = ((m % 2 ^ k.bits : Nat) : Int) := by
  simp [IntKind.wrap, hk]

theorem wrap_u8 (m : Nat) : IntKind.u8.wrap (m : Int) = ((m % 2 ^ 8 : Nat) : Int) := wrap_unsigned .u8 rfl m
theorem wrap_u32 (m : Nat) : IntKind.u32.wrap (m : Int) = ((m % 2 ^ 32 : Nat) : Int) := wrap_unsigned .u32 rfl m
theorem wrap_u64 (m : Nat) : IntKind.u64.wrap (m : Int) = ((m % 2 ^ 64 : Nat) : Int) := wrap_unsigned .u64 rfl m

theorem wrap_toNat (k : IntKind) (hk : k.signed = false) (r : BitVec k.bits) : k.wrap (r.toNat : Int) = (r.toNat : Int) := by
  rw [wrap_unsigned k hk, Nat.mod_eq_of_lt r.isLt]

/-! ### What an operator yields -/
/-- Both operands numbers of one kind. -/
theorem Rd.int2 {op : BinOp} {T T' : TypeId} {x y : Operand} {k : IntKind} {a b : Int} {v : Value} (hx : ev L x = some (.int k a)) (hy : ev L y = some (.int k b))
    (h : ∀ w, (binOp op T (.int k a) (.int k b)).run P w = .ok v w) : Rd P n w0 O M L (.binOp op T x y T') ty v := fun d pos aft g f w hk _ => by
  simp only [execOp, hk.eval hx, hk.eval hy]
  cases op <;> simp [eqGuard, h w]

/-- A shift. -/
theorem Rd.shift {op : BinOp} {T T' : TypeId} {x y : Operand} {k yk : IntKind} {a b : Int} {v : Value} (hx : ev L x = some (.int k a)) (hy : ev L y = some (.int yk b)) (hop : op = .shl ∨ op = .shr)
    (h : ∀ w, (Op.shift op k a yk b).run P w = .ok v w) : Rd P n w0 O M L (.binOp op T x y T') ty v := fun d pos aft g f w hk _ => by
  simp only [execOp, hk.eval hx, hk.eval hy]
  rcases hop with rfl | rfl <;> simp [eqGuard, binOp, h w]

section
variable {T T' : TypeId} {x y : Operand}

theorem Rd.move {v : Value} (hx : ev L x = some v) : Rd P n w0 O M L (.move x) ty v := fun _ _ _ _ _ _ hk _ => by simp [execOp, hk.eval hx]
theorem Rd.assign {v : Value} (hx : ev L x = some v) : Rd P n w0 O M L (.assign x) ty v := fun _ _ _ _ _ _ hk _ => by simp [execOp, hk.eval hx]
theorem Rd.pick {c a b : Operand} {t : Bool} {v : Value} (hc : ev L c = some (.bool t)) (h : ev L (if t then a else b) = some v) : Rd P n w0 O M L (.pick c a b) ty v := fun _ _ _ _ _ _ hk _ => by
  cases t <;> simp at h <;> simp [execOp, hk.eval hc, hk.eval h, asBool]
theorem Rd.nil {p : Addr} (hx : ev L x = some (.pointer (some p))) : Rd P n w0 O M L (.nilCheck x) ty (.pointer (some p)) := fun _ _ _ _ _ _ hk _ => by simp [execOp, hk.eval hx]
theorem Rd.not {b : Bool} (hx : ev L x = some (.bool b)) : Rd P n w0 O M L (.unOp .not T x) ty (.bool !b) := fun _ _ _ _ _ _ hk _ => by simp [execOp, hk.eval hx, Op.unary]

/-! #### ints -/
theorem Rd.add {a b : Int} {c : Int} (hx : ev L x = some (.int .i64 a)) (hy : ev L y = some (.int .i64 b)) (hc : IntKind.i64.wrap (a + b) = c) : Rd P n w0 O M L (.binOp .add T x y T') ty (.int .i64 c) :=
  .int2 hx hy fun w => by simp [binOp, Op.intArith, hc]
theorem Rd.sub {a b : Int} {c : Int} (hx : ev L x = some (.int .i64 a)) (hy : ev L y = some (.int .i64 b)) (hc : IntKind.i64.wrap (a - b) = c) : Rd P n w0 O M L (.binOp .sub T x y T') ty (.int .i64 c) :=
  .int2 hx hy fun w => by simp [binOp, Op.intArith, hc]
theorem Rd.mul {a b : Int} {c : Int} (hx : ev L x = some (.int .i64 a)) (hy : ev L y = some (.int .i64 b)) (hc : IntKind.i64.wrap (a * b) = c) : Rd P n w0 O M L (.binOp .mul T x y T') ty (.int .i64 c) :=
  .int2 hx hy fun w => by simp [binOp, Op.intArith, hc]

theorem Rd.addN {a b : Nat} (hx : ev L x = some (i64 a)) (hy : ev L y = some (i64 b)) (h : a + b < 9223372036854775808) : Rd P n w0 O M L (.binOp .add T x y T') ty (i64 (a + b)) :=
  .add hx hy (by rw [wrap_i64 (by omega) (by omega)]; simp)
theorem Rd.subN {a b : Nat} (hx : ev L x = some (i64 a)) (hy : ev L y = some (i64 b)) (hb : b ≤ a) (h : a < 9223372036854775808) : Rd P n w0 O M L (.binOp .sub T x y T') ty (i64 (a - b)) :=
  .sub hx hy (by rw [wrap_i64 (by omega) (by omega)]; omega)
theorem Rd.mulN {a b : Nat} (hx : ev L x = some (i64 a)) (hy : ev L y = some (i64 b)) (h : a * b < 9223372036854775808) : Rd P n w0 O M L (.binOp .mul T x y T') ty (i64 (a * b)) :=
  .mul hx hy (by rw [← Int.natCast_mul, wrap_i64 (by omega) (by omega)])
theorem Rd.remN {a b : Nat} (hx : ev L x = some (i64 a)) (hy : ev L y = some (i64 b)) (hb : 0 < b) : Rd P n w0 O M L (.binOp .rem T x y T') ty (i64 (a % b)) :=
  .int2 hx hy fun w => by
    have h0 : b ≠ 0 := by omega
    have h1 : (a : Int).tmod (b : Int) = (a : Int) % (b : Int) := Int.tmod_eq_emod_of_nonneg (by omega)
    simp [binOp, Op.intDiv, h0, h1]
theorem Rd.quoN {a b : Nat} (hx : ev L x = some (i64 a)) (hy : ev L y = some (i64 b)) (hb : 0 < b) (h : a < 9223372036854775808) : Rd P n w0 O M L (.binOp .quo T x y T') ty (i64 (a / b)) :=
  .int2 hx hy fun w => by
    have h0 : ¬ ((b : Int) = 0) := by omega
    have h1 : (a : Int).tdiv (b : Int) = ((a / b : Nat) : Int) := by simp
    have h2 : a / b ≤ a := Nat.div_le_self _ _
    have h3 : IntKind.i64.wrap ((a / b : Nat) : Int) = ((a / b : Nat) : Int) := by
      generalize a / b = c at h2
      exact wrap_i64 (by omega) (by omega)
    simp only [binOp, Op.intDiv, h0, if_false, h1, ne_eq, not_true_eq_false, h3]
    rfl
theorem Rd.lss {k : IntKind} {a b : Int} (hx : ev L x = some (.int k a)) (hy : ev L y = some (.int k b)) : Rd P n w0 O M L (.binOp .lss T x y T') ty (.bool (decide (a < b))) := .int2 hx hy fun w => by simp [binOp, Op.intCmp]
theorem Rd.leq {k : IntKind} {a b : Int} (hx : ev L x = some (.int k a)) (hy : ev L y = some (.int k b)) : Rd P n w0 O M L (.binOp .leq T x y T') ty (.bool (decide (a ≤ b))) := .int2 hx hy fun w => by simp [binOp, Op.intCmp]
theorem Rd.gtr {k : IntKind} {a b : Int} (hx : ev L x = some (.int k a)) (hy : ev L y = some (.int k b)) : Rd P n w0 O M L (.binOp .gtr T x y T') ty (.bool (decide (b < a))) := .int2 hx hy fun w => by simp [binOp, Op.intCmp]
theorem Rd.geq {k : IntKind} {a b : Int} (hx : ev L x = some (.int k a)) (hy : ev L y = some (.int k b)) : Rd P n w0 O M L (.binOp .geq T x y T') ty (.bool (decide (b ≤ a))) := .int2 hx hy fun w => by simp [binOp, Op.intCmp]
theorem Rd.eql {k : IntKind} {a b : Int} (hx : ev L x = some (.int k a)) (hy : ev L y = some (.int k b)) : Rd P n w0 O M L (.binOp .eql T x y T') ty (.bool (a == b)) := .int2 hx hy fun w => by simp [binOp, Op.intCmp]
theorem Rd.neq {k : IntKind} {a b : Int} (hx : ev L x = some (.int k a)) (hy : ev L y = some (.int k b)) : Rd P n w0 O M L (.binOp .neq T x y T') ty (.bool (a != b)) := .int2 hx hy fun w => by simp [binOp, Op.intCmp]
theorem lssN (a b : Nat) : decide ((a : Int) < (b : Int)) = decide (a < b) := by simp
theorem Rd.lssN {a b : Nat} (hx : ev L x = some (i64 a)) (hy : ev L y = some (i64 b)) : Rd P n w0 O M L (.binOp .lss T x y T') ty (.bool (decide (a < b))) := by rw [← Sx.lssN]; exact .lss hx hy
theorem Rd.gtrN {a b : Nat} (hx : ev L x = some (i64 a)) (hy : ev L y = some (i64 b)) : Rd P n w0 O M L (.binOp .gtr T x y T') ty (.bool (decide (b < a))) := by rw [← Sx.lssN]; exact .gtr hx hy
theorem Rd.geqN {a b : Nat} (hx : ev L x = some (i64 a)) (hy : ev L y = some (i64 b)) : Rd P n w0 O M L (.binOp .geq T x y T') ty (.bool (decide (b ≤ a))) := by
  rw [show decide (b ≤ a) = decide ((b : Int) ≤ (a : Int)) by simp]; exact .geq hx hy
theorem Rd.eqlN {a b : Nat} (hx : ev L x = some (i64 a)) (hy : ev L y = some (i64 b)) : Rd P n w0 O M L (.binOp .eql T x y T') ty (.bool (decide (a = b))) := by
  rw [show decide (a = b) = ((a : Int) == (b : Int)) by rw [Bool.eq_iff_iff]; simp; omega]; exact .eql hx hy
theorem Rd.neqN {a b : Nat} (hx : ev L x = some (i64 a)) (hy : ev L y = some (i64 b)) : Rd P n w0 O M L (.binOp .neq T x y T') ty (.bool (!decide (a = b))) := by
  rw [show (!decide (a = b)) = ((a : Int) != (b : Int)) by rw [Bool.eq_iff_iff]; simp; omega]; exact .neq hx hy
/-- 'x >> s' of an int that is not negative. -/
theorem Rd.shrN {yk : IntKind} {a s : Nat} (hx : ev L x = some (i64 a)) (hy : ev L y = some (.int yk s)) (hs : s ≤ 64) : Rd P n w0 O M L (.binOp .shr T x y T') ty (i64 (a / 2 ^ s)) :=
  .shift hx hy (.inr rfl) fun w => by
    have h0 : ¬ ((s : Int) < 0) := by omega
    have h1 : min s 64 = s := by omega
    have h2 : ((a : Int).fdiv (2 ^ s)) = ((a / 2 ^ s : Nat) : Int) := by
      rw [Int.fdiv_eq_ediv_of_nonneg _ (Int.pow_nonneg (by decide))]; simp
    have h3 : (Op.shift .shr .i64 (a : Int) yk (s : Int)) = pure (.int .i64 ((a / 2 ^ s : Nat) : Int)) := by
      simp only [Op.shift, h0, if_false, Int.toNat_natCast, IntKind.bits, h1, h2]
    rw [h3]; rfl

/-! #### unsigned words -/
theorem ofInt_toNat {m : Nat} (b : BitVec m) : BitVec.ofInt m (b.toNat : Int) = b := by simp

theorem run_bits (k : IntKind) (hk : k.signed = false) (a b : BitVec k.bits) (w : World) :
    (Op.intBits .and k a.toNat b.toNat).run P w = .ok (.int k ((a &&& b).toNat : Int)) w ∧
    (Op.intBits .or k a.toNat b.toNat).run P w = .ok (.int k ((a ||| b).toNat : Int)) w ∧
    (Op.intBits .xor k a.toNat b.toNat).run P w = .ok (.int k ((a ^^^ b).toNat : Int)) w := by
  refine ⟨?_, ?_, ?_⟩ <;> simp only [Op.intBits, ofInt_toNat, Sem.run_pure, wrap_toNat k hk]

theorem Rd.andW {k : IntKind} (hk : k.signed = false) {a b : BitVec k.bits} (hx : ev L x = some (.int k a.toNat)) (hy : ev L y = some (.int k b.toNat)) : Rd P n w0 O M L (.binOp .and T x y T') ty (.int k ((a &&& b).toNat : Int)) :=
  .int2 hx hy fun w => by simp [binOp, (run_bits k hk a b w).1]
theorem Rd.orW {k : IntKind} (hk : k.signed = false) {a b : BitVec k.bits} (hx : ev L x = some (.int k a.toNat)) (hy : ev L y = some (.int k b.toNat)) : Rd P n w0 O M L (.binOp .or T x y T') ty (.int k ((a ||| b).toNat : Int)) :=
  .int2 hx hy fun w => by simp [binOp, (run_bits k hk a b w).2.1]
theorem Rd.xorW {k : IntKind} (hk : k.signed = false) {a b : BitVec k.bits} (hx : ev L x = some (.int k a.toNat)) (hy : ev L y = some (.int k b.toNat)) : Rd P n w0 O M L (.binOp .xor T x y T') ty (.int k ((a ^^^ b).toNat : Int)) :=
  .int2 hx hy fun w => by simp [binOp, (run_bits k hk a b w).2.2]
theorem Rd.addW {k : IntKind} (hk : k.signed = false) {a b : BitVec k.bits} (hx : ev L x = some (.int k a.toNat)) (hy : ev L y = some (.int k b.toNat)) : Rd P n w0 O M L (.binOp .add T x y T') ty (.int k ((a + b).toNat : Int)) :=
  .int2 hx hy fun w => by
    simp only [binOp, Op.intArith, ne_eq, not_true_eq_false, if_false, Sem.run_pure]
    rw [← Int.natCast_add, wrap_unsigned k hk, BitVec.toNat_add]
theorem Rd.subW {k : IntKind} (hk : k.signed = false) {a b : BitVec k.bits} (hx : ev L x = some (.int k a.toNat)) (hy : ev L y = some (.int k b.toNat)) : Rd P n w0 O M L (.binOp .sub T x y T') ty (.int k ((a - b).toNat : Int)) :=
  .int2 hx hy fun w => by
    have h1 : b.toNat < 2 ^ k.bits := b.isLt
    have h2 : ((a.toNat : Int) - (b.toNat : Int)) % (2 ^ k.bits : Int) = (((2 ^ k.bits - b.toNat + a.toNat) % 2 ^ k.bits : Nat) : Int) := by
      have h3 : ((2 ^ k.bits : Nat) : Int) = (2 : Int) ^ k.bits := by simp
      rw [Int.natCast_emod, h3, Int.natCast_add, Int.natCast_sub (Nat.le_of_lt h1), h3, show ((2 : Int) ^ k.bits - (b.toNat : Int) + (a.toNat : Int)) = ((a.toNat : Int) - (b.toNat : Int)) + (2 : Int) ^ k.bits by omega, Int.add_emod_right]
    have h4 : k.wrap ((a.toNat : Int) - (b.toNat : Int)) = (((2 ^ k.bits - b.toNat + a.toNat) % 2 ^ k.bits : Nat) : Int) := by
      simp only [IntKind.wrap, hk, Bool.false_and, Bool.false_eq_true, if_false, h2]
    simp only [binOp, Op.intArith, ne_eq, not_true_eq_false, if_false, Sem.run_pure, h4, BitVec.toNat_sub]
theorem Rd.mulW {k : IntKind} (hk : k.signed = false) {a b : BitVec k.bits} (hx : ev L x = some (.int k a.toNat)) (hy : ev L y = some (.int k b.toNat)) : Rd P n w0 O M L (.binOp .mul T x y T') ty (.int k ((a * b).toNat : Int)) :=
  .int2 hx hy fun w => by
    simp only [binOp, Op.intArith, ne_eq, not_true_eq_false, if_false, Sem.run_pure]
    rw [← Int.natCast_mul, wrap_unsigned k hk, BitVec.toNat_mul]
theorem Rd.shrW {k yk : IntKind} {a : BitVec k.bits} {s : Nat} (hx : ev L x = some (.int k a.toNat)) (hy : ev L y = some (.int yk s)) (hs : s ≤ k.bits) : Rd P n w0 O M L (.binOp .shr T x y T') ty (.int k ((a >>> s).toNat : Int)) :=
  .shift hx hy (.inr rfl) fun w => by
    have h0 : ¬ ((s : Int) < 0) := by omega
    have h1 : min s k.bits = s := by omega
    have h2 : ((a.toNat : Int).fdiv (2 ^ s)) = ((a.toNat / 2 ^ s : Nat) : Int) := by
      rw [Int.fdiv_eq_ediv_of_nonneg _ (Int.pow_nonneg (by decide))]; simp
    simp only [Op.shift, h0, if_false, Int.toNat_natCast, h1, h2, Sem.run_pure, BitVec.toNat_ushiftRight, Nat.shiftRight_eq_div_pow]
theorem Rd.shlW {k yk : IntKind} (hk : k.signed = false) {a : BitVec k.bits} {s : Nat} (hx : ev L x = some (.int k a.toNat)) (hy : ev L y = some (.int yk s)) (hs : s ≤ k.bits) : Rd P n w0 O M L (.binOp .shl T x y T') ty (.int k ((a <<< s).toNat : Int)) :=
  .shift hx hy (.inl rfl) fun w => by
    have h0 : ¬ ((s : Int) < 0) := by omega
    have h1 : min s k.bits = s := by omega
    have h2 : ((a.toNat : Int) * 2 ^ s) = ((a.toNat * 2 ^ s : Nat) : Int) := by simp
    simp only [Op.shift, h0, if_false, Int.toNat_natCast, h1, h2, Sem.run_pure, wrap_unsigned k hk, BitVec.toNat_shiftLeft, Nat.shiftLeft_eq]
theorem Rd.cplW {k : IntKind} (hk : k.signed = false) {a : BitVec k.bits} (hx : ev L x = some (.int k a.toNat)) : Rd P n w0 O M L (.unOp .xor T x) ty (.int k ((~~~ a).toNat : Int)) := fun _ _ _ _ _ w hkn _ => by
  have hm : BitVec.ofInt k.bits k.max = BitVec.allOnes k.bits := by cases k <;> first | (cases hk; done) | decide
  simp only [execOp, hkn.eval hx, Op.unary, hk, Op.intBits, ofInt_toNat, Bool.false_eq_true, if_false, hm, Sem.run_bind, Sem.run_pure, Result.andThen_ok, wrap_toNat k hk, BitVec.allOnes_xor]
theorem beqW {m : Nat} (a b : BitVec m) : ((a.toNat : Int) == (b.toNat : Int)) = (a == b) := by
  rw [Bool.eq_iff_iff]
  simp only [beq_iff_eq]
  exact ⟨fun h => BitVec.eq_of_toNat_eq (by omega), fun h => by rw [h]⟩
theorem Rd.eqlW {k : IntKind} {a b : BitVec k.bits} (hx : ev L x = some (.int k a.toNat)) (hy : ev L y = some (.int k b.toNat)) : Rd P n w0 O M L (.binOp .eql T x y T') ty (.bool (a == b)) := by rw [← beqW]; exact .eql hx hy

/-! #### conversions between numbers -/
theorem Rd.conv {S D : TypeId} {ds : TypeDesc} {k k' : IntKind} {a : Int} (hx : ev L x = some (.int k' a)) (hs : P.underlying S = some ds) (hd : P.underlying D = some (.int k)) : Rd P n w0 O M L (.convert S D x) ty (.int k (k.wrap a)) := fun _ _ _ _ _ w hk _ => by
  simp [execOp, hk.eval hx, convert, run_underlying hs, run_underlying hd, Conv.intToInt]
/-- To an unsigned kind, from a number that is not negative. -/
theorem Rd.convU {S D : TypeId} {ds : TypeDesc} {k k' : IntKind} (hk : k.signed = false) {a : Nat} (hx : ev L x = some (.int k' a)) (hs : P.underlying S = some ds) (hd : P.underlying D = some (.int k)) : Rd P n w0 O M L (.convert S D x) ty (.int k ((BitVec.ofNat k.bits a).toNat : Int)) := by
  have := Rd.conv (P := P) (n := n) (w0 := w0) (O := O) (M := M) (ty := ty) (k := k) hx hs hd
  rwa [wrap_unsigned k hk, ← BitVec.toNat_ofNat] at this
/-- To int, from a number that is not negative. -/
theorem Rd.convI {S D : TypeId} {ds : TypeDesc} {k' : IntKind} {a : Nat} (hx : ev L x = some (.int k' a)) (hs : P.underlying S = some ds) (hd : P.underlying D = some (.int .i64)) (h : a < 9223372036854775808) : Rd P n w0 O M L (.convert S D x) ty (i64 a) := by
  have := Rd.conv (P := P) (n := n) (w0 := w0) (O := O) (M := M) (ty := ty) (k := .i64) hx hs hd
  rwa [wrap_i64 (by omega) (by omega)] at this

theorem Rd.and8 {a b : BitVec 8} (hx : ev L x = some (u8 a)) (hy : ev L y = some (u8 b)) : Rd P n w0 O M L (.binOp .and T x y T') ty (u8 (a &&& b)) := .andW (k := .u8) rfl hx hy
theorem Rd.or8 {a b : BitVec 8} (hx : ev L x = some (u8 a)) (hy : ev L y = some (u8 b)) : Rd P n w0 O M L (.binOp .or T x y T') ty (u8 (a ||| b)) := .orW (k := .u8) rfl hx hy
theorem Rd.xor8 {a b : BitVec 8} (hx : ev L x = some (u8 a)) (hy : ev L y = some (u8 b)) : Rd P n w0 O M L (.binOp .xor T x y T') ty (u8 (a ^^^ b)) := .xorW (k := .u8) rfl hx hy
theorem Rd.add8 {a b : BitVec 8} (hx : ev L x = some (u8 a)) (hy : ev L y = some (u8 b)) : Rd P n w0 O M L (.binOp .add T x y T') ty (u8 (a + b)) := .addW (k := .u8) rfl hx hy
theorem Rd.sub8 {a b : BitVec 8} (hx : ev L x = some (u8 a)) (hy : ev L y = some (u8 b)) : Rd P n w0 O M L (.binOp .sub T x y T') ty (u8 (a - b)) := .subW (k := .u8) rfl hx hy
theorem Rd.mul8 {a b : BitVec 8} (hx : ev L x = some (u8 a)) (hy : ev L y = some (u8 b)) : Rd P n w0 O M L (.binOp .mul T x y T') ty (u8 (a * b)) := .mulW (k := .u8) rfl hx hy
theorem Rd.shr8 {yk : IntKind} {a : BitVec 8} {s : Nat} (hx : ev L x = some (u8 a)) (hy : ev L y = some (.int yk s)) (hs : s ≤ 8) : Rd P n w0 O M L (.binOp .shr T x y T') ty (u8 (a >>> s)) := .shrW (k := .u8) hx hy hs
theorem Rd.shl8 {yk : IntKind} {a : BitVec 8} {s : Nat} (hx : ev L x = some (u8 a)) (hy : ev L y = some (.int yk s)) (hs : s ≤ 8) : Rd P n w0 O M L (.binOp .shl T x y T') ty (u8 (a <<< s)) := .shlW (k := .u8) rfl hx hy hs
theorem Rd.cpl8 {a : BitVec 8} (hx : ev L x = some (u8 a)) : Rd P n w0 O M L (.unOp .xor T x) ty (u8 (~~~ a)) := .cplW (k := .u8) rfl hx
theorem Rd.eql8 {a b : BitVec 8} (hx : ev L x = some (u8 a)) (hy : ev L y = some (u8 b)) : Rd P n w0 O M L (.binOp .eql T x y T') ty (.bool (a == b)) := .eqlW (k := .u8) hx hy
theorem Rd.conv8 {S D : TypeId} {ds : TypeDesc} {k' : IntKind} {a : Nat} (hx : ev L x = some (.int k' a)) (hs : P.underlying S = some ds) (hd : P.underlying D = some (.int .u8)) : Rd P n w0 O M L (.convert S D x) ty (u8 (BitVec.ofNat 8 a)) := .convU (k := .u8) rfl hx hs hd
theorem Rd.and32 {a b : BitVec 32} (hx : ev L x = some (u32 a)) (hy : ev L y = some (u32 b)) : Rd P n w0 O M L (.binOp .and T x y T') ty (u32 (a &&& b)) := .andW (k := .u32) rfl hx hy
theorem Rd.or32 {a b : BitVec 32} (hx : ev L x = some (u32 a)) (hy : ev L y = some (u32 b)) : Rd P n w0 O M L (.binOp .or T x y T') ty (u32 (a ||| b)) := .orW (k := .u32) rfl hx hy
theorem Rd.xor32 {a b : BitVec 32} (hx : ev L x = some (u32 a)) (hy : ev L y = some (u32 b)) : Rd P n w0 O M L (.binOp .xor T x y T') ty (u32 (a ^^^ b)) := .xorW (k := .u32) rfl hx hy
theorem Rd.add32 {a b : BitVec 32} (hx : ev L x = some (u32 a)) (hy : ev L y = some (u32 b)) : Rd P n w0 O M L (.binOp .add T x y T') ty (u32 (a + b)) := .addW (k := .u32) rfl hx hy
theorem Rd.sub32 {a b : BitVec 32} (hx : ev L x = some (u32 a)) (hy : ev L y = some (u32 b)) : Rd P n w0 O M L (.binOp .sub T x y T') ty (u32 (a - b)) := .subW (k := .u32) rfl hx hy
theorem Rd.mul32 {a b : BitVec 32} (hx : ev L x = some (u32 a)) (hy : ev L y = some (u32 b)) : Rd P n w0 O M L (.binOp .mul T x y T') ty (u32 (a * b)) := .mulW (k := .u32) rfl hx hy
theorem Rd.shr32 {yk : IntKind} {a : BitVec 32} {s : Nat} (hx : ev L x = some (u32 a)) (hy : ev L y = some (.int yk s)) (hs : s ≤ 32) : Rd P n w0 O M L (.binOp .shr T x y T') ty (u32 (a >>> s)) := .shrW (k := .u32) hx hy hs
theorem Rd.shl32 {yk : IntKind} {a : BitVec 32} {s : Nat} (hx : ev L x = some (u32 a)) (hy : ev L y = some (.int yk s)) (hs : s ≤ 32) : Rd P n w0 O M L (.binOp .shl T x y T') ty (u32 (a <<< s)) := .shlW (k := .u32) rfl hx hy hs
theorem Rd.cpl32 {a : BitVec 32} (hx : ev L x = some (u32 a)) : Rd P n w0 O M L (.unOp .xor T x) ty (u32 (~~~ a)) := .cplW (k := .u32) rfl hx
theorem Rd.eql32 {a b : BitVec 32} (hx : ev L x = some (u32 a)) (hy : ev L y = some (u32 b)) : Rd P n w0 O M L (.binOp .eql T x y T') ty (.bool (a == b)) := .eqlW (k := .u32) hx hy
theorem Rd.conv32 {S D : TypeId} {ds : TypeDesc} {k' : IntKind} {a : Nat} (hx : ev L x = some (.int k' a)) (hs : P.underlying S = some ds) (hd : P.underlying D = some (.int .u32)) : Rd P n w0 O M L (.convert S D x) ty (u32 (BitVec.ofNat 32 a)) := .convU (k := .u32) rfl hx hs hd
theorem Rd.and64 {a b : BitVec 64} (hx : ev L x = some (u64 a)) (hy : ev L y = some (u64 b)) : Rd P n w0 O M L (.binOp .and T x y T') ty (u64 (a &&& b)) := .andW (k := .u64) rfl hx hy
theorem Rd.or64 {a b : BitVec 64} (hx : ev L x = some (u64 a)) (hy : ev L y = some (u64 b)) : Rd P n w0 O M L (.binOp .or T x y T') ty (u64 (a ||| b)) := .orW (k := .u64) rfl hx hy
theorem Rd.xor64 {a b : BitVec 64} (hx : ev L x = some (u64 a)) (hy : ev L y = some (u64 b)) : Rd P n w0 O M L (.binOp .xor T x y T') ty (u64 (a ^^^ b)) := .xorW (k := .u64) rfl hx hy
theorem Rd.add64 {a b : BitVec 64} (hx : ev L x = some (u64 a)) (hy : ev L y = some (u64 b)) : Rd P n w0 O M L (.binOp .add T x y T') ty (u64 (a + b)) := .addW (k := .u64) rfl hx hy
theorem Rd.sub64 {a b : BitVec 64} (hx : ev L x = some (u64 a)) (hy : ev L y = some (u64 b)) : Rd P n w0 O M L (.binOp .sub T x y T') ty (u64 (a - b)) := .subW (k := .u64) rfl hx hy
theorem Rd.mul64 {a b : BitVec 64} (hx : ev L x = some (u64 a)) (hy : ev L y = some (u64 b)) : Rd P n w0 O M L (.binOp .mul T x y T') ty (u64 (a * b)) := .mulW (k := .u64) rfl hx hy
theorem Rd.shr64 {yk : IntKind} {a : BitVec 64} {s : Nat} (hx : ev L x = some (u64 a)) (hy : ev L y = some (.int yk s)) (hs : s ≤ 64) : Rd P n w0 O M L (.binOp .shr T x y T') ty (u64 (a >>> s)) := .shrW (k := .u64) hx hy hs
theorem Rd.shl64 {yk : IntKind} {a : BitVec 64} {s : Nat} (hx : ev L x = some (u64 a)) (hy : ev L y = some (.int yk s)) (hs : s ≤ 64) : Rd P n w0 O M L (.binOp .shl T x y T') ty (u64 (a <<< s)) := .shlW (k := .u64) rfl hx hy hs
theorem Rd.cpl64 {a : BitVec 64} (hx : ev L x = some (u64 a)) : Rd P n w0 O M L (.unOp .xor T x) ty (u64 (~~~ a)) := .cplW (k := .u64) rfl hx
theorem Rd.eql64 {a b : BitVec 64} (hx : ev L x = some (u64 a)) (hy : ev L y = some (u64 b)) : Rd P n w0 O M L (.binOp .eql T x y T') ty (.bool (a == b)) := .eqlW (k := .u64) hx hy
theorem Rd.conv64 {S D : TypeId} {ds : TypeDesc} {k' : IntKind} {a : Nat} (hx : ev L x = some (.int k' a)) (hs : P.underlying S = some ds) (hd : P.underlying D = some (.int .u64)) : Rd P n w0 O M L (.convert S D x) ty (u64 (BitVec.ofNat 64 a)) := .convU (k := .u64) rfl hx hs hd
theorem Rd.cast {o : Op} {v v' : Value} (h : Rd P n w0 O M L o ty v) (e : v = v') : Rd P n w0 O M L o ty v' := e ▸ h

theorem Rd.neg {a : Int} (hx : ev L x = some (.int .i64 a)) (h0 : -9223372036854775808 < a) (h1 : a < 9223372036854775808) : Rd P n w0 O M L (.unOp .neg T x) ty (.int .i64 (-a)) := fun _ _ _ _ _ w hk _ => by
  have : IntKind.i64.wrap (0 - a) = -a := by rw [wrap_i64 (by omega) (by omega)]; omega
  simp only [execOp, hk.eval hx, Op.unary, Op.intArith, this]
  rfl

/-! #### pointers -/
theorem Rd.ptrNil {p : Addr} (hx : ev L x = some (.pointer (some p))) (hy : ev L y = some (.pointer none)) {e : TypeId} (hu : P.underlying T = some (.pointer e)) : Rd P n w0 O M L (.binOp .eql T x y T') ty (.bool false) := fun _ _ _ _ _ w hk _ => by
  have h1 : binOp .eql T (.pointer (some p)) (.pointer none) = (do pure (.bool (← Op.equal T (.pointer (some p)) (.pointer none)))) := rfl
  have h2 : (Op.equal T (.pointer (some p)) (.pointer none)).run P w = .ok false w := run_equal_pointer_nil w T (some p) (by rw [hu]; simp [Program.pointee, hu])
  simp only [execOp, hk.eval hx, hk.eval hy, h1, eqGuard]
  simp [h2]
theorem add_lit (b o k : Nat) : (⟨b, o, none⟩ : Addr).add k = ⟨b, o + k, none⟩ := Addr.add_mid b o k
theorem Rd.fieldA {s : TypeId} {fs : Array Field} {f : Field} {i b o m : Nat} (hx : ev L x = some (.pointer (some ⟨b, o, none⟩))) (hu : P.underlying s = some (.struct fs)) (hf : fs[i]? = some f) (hs : ∀ w, (sizeOf f.type).run P w = .ok (m + 1) w) :
    Rd P n w0 O M L (.fieldAddr s x i) ty (.pointer (some ⟨b, o + f.offset, none⟩)) := fun _ _ _ _ _ w hk _ => by
  simp [execOp, hk.eval hx, Instr.fieldAt, run_underlying hu, hf, Instr.sureAddr, fieldPlace, hs, add_lit]
theorem Rd.idxA {T E : TypeId} {len b o k size : Nat} {kk : IntKind} (hx : ev L x = some (.pointer (some ⟨b, o, none⟩))) (hy : ev L y = some (.int kk (k : Int))) (hu : P.underlying T = some (.array len E)) (hs : ∀ w, (sizeOf E).run P w = .ok size w) (hk' : k < len) :
    Rd P n w0 O M L (.indexAddr T x y) ty (.pointer (some ⟨b, o + k * size, none⟩)) := fun _ _ _ _ _ w hk _ => by
  simp [execOp, hk.eval hx, hk.eval hy, Instr.indexAt, asIntOf, run_underlying hu, Instr.sureAddr, hk', hs, add_lit]
theorem Rd.idxS {T E : TypeId} {b o k size len cap : Nat} {kk : IntKind} (hx : ev L x = some (.slice (some ⟨b, o, none⟩) len cap)) (hy : ev L y = some (.int kk (k : Int))) (hu : P.underlying T = some (.slice E)) (hs : ∀ w, (sizeOf E).run P w = .ok size w) (hk' : k < len) :
    Rd P n w0 O M L (.indexAddr T x y) ty (.pointer (some ⟨b, o + k * size, none⟩)) := fun _ _ _ _ _ w hk _ => by
  simp [execOp, hk.eval hx, hk.eval hy, Instr.indexAt, asIntOf, run_underlying hu, hk', hs, add_lit]

/-! #### loads -/
theorem loadVar_one {w : World} {t : TypeId} {a : Addr} {v : Value} (hg : ∀ w, (isAgg t).run P w = .ok false w) (hv : w.cell? a = some v) : (loadVar t a).run P w = .ok v w := by
  simp [loadVar, hg, hv]
theorem Rd.ld {t : TypeId} {b i : Nat} {v : Value} {C : List Value} {T : TypeId} (hx : ev L x = some (.pointer (some ⟨b, i, none⟩))) (hg : ∀ w, (isAgg t).run P w = .ok false w) (j : Nat) (hj : M[j]? = some ⟨b, C, T⟩) (hv : C[i]? = some v) : Rd P n w0 O M L (.load t x) ty v := fun _ _ _ _ _ w hk hp => by
  have := (hp.get hj).cell i
  simp [execOp, hk.eval hx, Instr.loadAt, Instr.sureAddr, loadVar_one hg (this.trans hv)]
theorem Rd.ldOld {t : TypeId} {a : Addr} {v : Value} (hx : ev L x = some (.pointer (some a))) (hg : ∀ w, (isAgg t).run P w = .ok false w) (hO : a.block ∉ O) (hv : w0.cell? a = some v) : Rd P n w0 O M L (.load t x) ty v := fun _ _ _ _ _ w hk hp => by
  simp [execOp, hk.eval hx, Instr.loadAt, Instr.sureAddr, loadVar_one hg (hp.old hO hv)]
theorem Rd.ldBy {t : TypeId} {a : Addr} {v : Value} (hx : ev L x = some (.pointer (some a))) (hg : ∀ w, (isAgg t).run P w = .ok false w) (hv : ∀ w, Hp w0 w O M → w.cell? a = some v) : Rd P n w0 O M L (.load t x) ty v := fun _ _ _ _ _ w hk hp => by
  simp [execOp, hk.eval hx, Instr.loadAt, Instr.sureAddr, loadVar_one hg (hv w hp)]
theorem Rd.ldAgg {t : TypeId} {desc : TypeDesc} {b o m : Nat} {C : List Value} {T : TypeId} (hx : ev L x = some (.pointer (some ⟨b, o, none⟩))) (hu : P.underlying t = some desc) (hd : desc.isRow = true) (hs : (P.info? t).map (·.size) = some m) (j : Nat) (hj : M[j]? = some ⟨b, C, T⟩) (hm : o + m ≤ C.length) :
    Rd P n w0 O M L (.load t x) ty (.agg ((C.drop o).take m).toArray) := fun _ _ _ _ _ w hk hp => by
  have hr : w.rangeAt b o ((C.drop o).take m) := fun i v hv => by
    have := (hp.get hj).cell (o + i)
    rw [this]
    rw [List.getElem?_take] at hv
    split at hv
    · simpa using hv
    · cases hv
  have := run_loadVar_mid (P := P) w b o t _ desc hr hu hd (by rw [hs]; simp; omega)
  simp [execOp, hk.eval hx, Instr.loadAt, Instr.sureAddr, this]
theorem Rd.ldAggOld {t : TypeId} {desc : TypeDesc} {b o : Nat} {C : List Value} (hx : ev L x = some (.pointer (some ⟨b, o, none⟩))) (hu : P.underlying t = some desc) (hd : desc.isRow = true) (hs : (P.info? t).map (·.size) = some C.length) (hO : b ∉ O) (hr : w0.rangeAt b o C) :
    Rd P n w0 O M L (.load t x) ty (.agg C.toArray) := fun _ _ _ _ _ w hk hp => by
  have := run_loadVar_mid (P := P) w b o t C desc (fun i v hv => hp.old hO (hr i v hv)) hu hd hs
  simp [execOp, hk.eval hx, Instr.loadAt, Instr.sureAddr, this]
/-- An element of an array that is a value. -/
theorem Rd.idxV {T E : TypeId} {len k : Nat} {kk : IntKind} {C : List Value} {v : Value} (hx : ev L x = some (.agg C.toArray)) (hy : ev L y = some (.int kk (k : Int))) (hu : P.underlying T = some (.array len E)) (hg : ∀ w, (isAgg E).run P w = .ok false w) (hs : ∀ w, (sizeOf E).run P w = .ok 1 w) (hk' : k < len) (hv : C[k]? = some v) :
    Rd P n w0 O M L (.index T x y) ty v := fun _ _ _ _ _ w hk _ => by
  simp [execOp, hk.eval hx, hk.eval hy, Instr.index, asIntOf, run_underlying hu, hk', hs, part, hg, hv]
end

/-- The values of numbered operands. -/
def evp (L : Env) : List (Nat × Operand) → Option (List (Nat × Value))
  | [] => some []
  | p :: r => match ev L p.2, evp L r with
    | some v, some vs => some ((p.1, v) :: vs)
    | _, _ => none
theorem Knows.evalp {L : Env} {a : Act} (h : Knows n L a) : ∀ {xs : List (Nat × Operand)} {vs : List (Nat × Value)}, evp L xs = some vs → (xs.map fun p => (p.1, a.eval p.2)) = vs
  | [], vs, hx => by simpa [evp] using hx
  | p :: r, vs, hx => by
    simp only [evp] at hx
    cases h1 : ev L p.2 with
    | none => simp [h1] at hx
    | some v =>
      cases h2 : evp L r with
      | none => simp [h1, h2] at hx
      | some us =>
        simp [h1, h2] at hx
        subst hx
        simp [h.eval h1, h.evalp h2]
theorem Rd.build {T : TypeId} {xs : List (Nat × Operand)} {vs : List (Nat × Value)} {v : Value} (hx : evp L xs = some vs) (hr : ∀ w, (Instr.build T vs.toArray).run P w = .ok v w) : Rd P n w0 O M L (.build T xs.toArray) ty v := fun _ _ _ _ a w hk _ => by
  have := hk.evalp hx
  simp only [execOp, List.map_toArray]
  rw [show (xs.map fun x => match x with | (i, x) => (i, a.eval x)) = vs from this]
  simp [hr w]

/-- Cells from place 'o' on. -/
def splice (C : List Value) (o : Nat) : List Value → List Value
  | [] => C
  | v :: r => splice (C.set o v) (o + 1) r

theorem splice_length (C : List Value) : ∀ (vs : List Value) (o : Nat), (splice C o vs).length = C.length := by
  intro vs
  induction vs generalizing C with
  | nil => intro o; rfl
  | cons v r ih => intro o; rw [splice, ih]; simp

theorem splice_get (vs : List Value) : ∀ (C : List Value) (o i : Nat), o + vs.length ≤ C.length → (splice C o vs)[i]? = if o ≤ i ∧ i < o + vs.length then vs[i - o]? else C[i]? := by
  induction vs with
  | nil => intro C o i _; simp [splice]; omega
  | cons v r ih =>
    intro C o i hl
    simp only [List.length_cons] at hl
    rw [splice, ih _ _ _ (by simp; omega)]
    by_cases h1 : o + 1 ≤ i ∧ i < o + 1 + r.length
    · rw [if_pos h1, if_pos (by simp; omega)]
      obtain ⟨m, rfl⟩ : ∃ m, i = o + 1 + m := ⟨i - (o + 1), by omega⟩
      rw [show o + 1 + m - (o + 1) = m by omega, show o + 1 + m - o = m + 1 by omega]
      simp
    · rw [if_neg h1]
      by_cases h2 : o = i
      · subst h2
        rw [if_pos (by simp), List.getElem?_set_self (by omega)]
        simp
      · rw [if_neg (by simp; omega), List.getElem?_set_ne h2]

theorem splice_eq (C vs : List Value) (o : Nat) (h : o + vs.length ≤ C.length) : splice C o vs = C.take o ++ vs ++ C.drop (o + vs.length) := by
  apply List.ext_getElem?
  intro i
  rw [splice_get vs C o i h]
  by_cases h1 : o ≤ i ∧ i < o + vs.length
  · rw [if_pos h1, List.getElem?_append_left (by simp; omega), List.getElem?_append_right (by simp; omega)]
    simp
    congr 1
    omega
  · rw [if_neg h1]
    by_cases h2 : i < o
    · rw [List.getElem?_append_left (by simp; omega), List.getElem?_append_left (by simp; omega)]
      simp [h2]
    · rw [List.getElem?_append_right (by simp; omega)]
      simp
      congr 1
      omega

theorem splice_all (C vs : List Value) (h : vs.length = C.length) : splice C 0 vs = vs := by
  rw [splice_eq C vs 0 (by omega)]
  simp [h]

theorem splice_snoc (vs : List Value) (v : Value) : ∀ (C : List Value) (o : Nat), splice C o (vs ++ [v]) = (splice C o vs).set (o + vs.length) v := by
  induction vs with
  | nil => intro C o; simp [splice]
  | cons u r ih => intro C o; rw [List.cons_append, splice, ih, splice]; simp [Nat.add_comm, Nat.add_left_comm]

/-! ### Stores and new blocks -/
section
variable {ops : Array Oper} {Q : Exit → Act → World → Prop} {rest : List Oper} {d : Option Tmp} {pos : String} {aft : Array Edge}

theorem WL.alloc {E : TypeId} {z : Value} (hz : ∀ w, (zeroValue E).run P w = .ok z w) (hd : fits n d = true) {C : List Value} (hC : z.cells = C.toArray) (h : ∀ b, w0.heap.size ≤ b → WL P n w0 O ops Q rest (push d (.pointer (some ⟨b, 0, none⟩)) L) (⟨b, C, E⟩ :: M)) :
    WL P n w0 O ops Q (⟨d, .alloc E, ty, pos, aft, none⟩ :: rest) L M :=
  WL.op fun a w hk hp => ⟨.pointer (some ⟨w.heap.size, 0, none⟩), w.alloc (.cells C.toArray E), by
    simp [execOp, Instr.alloc, hz, newVar, newRow, hC], h _ hp.size _ _ (hk.push hd) (hp.alloc _ _)⟩

theorem WL.box {E : TypeId} {x : Operand} {v : Value} (hx : ev L x = some v) (hd : fits n d = true) {C : List Value} (hC : v.cells = C.toArray) (h : ∀ b, w0.heap.size ≤ b → WL P n w0 O ops Q rest (push d (.pointer (some ⟨b, 0, none⟩)) L) (⟨b, C, E⟩ :: M)) :
    WL P n w0 O ops Q (⟨d, .box E x, ty, pos, aft, none⟩ :: rest) L M :=
  WL.op fun a w hk hp => ⟨.pointer (some ⟨w.heap.size, 0, none⟩), w.alloc (.cells C.toArray E), by
    simp [execOp, hk.eval hx, Instr.box, newVar, newRow, hC], h _ hp.size _ _ (hk.push hd) (hp.alloc _ _)⟩

theorem Hp.setCell {w : World} (hp : Hp w0 w O M) {j b i : Nat} {C : List Value} {T : TypeId} (hj : M[j]? = some ⟨b, C, T⟩) (v : Value) : Hp w0 (w.setCell ⟨b, i, none⟩ v) O (M.set j ⟨b, C.set i v, T⟩) :=
  hp.replace hj rfl rfl rfl (by simp) (fun k _ hne => RowKit.Below.heap_setCell _ _ _ _ hne) ((hp.get hj).set i v)

theorem run_store_own {w : World} (hp : Hp w0 w O M) {j b i : Nat} {C : List Value} {T : TypeId} (hj : M[j]? = some ⟨b, C, T⟩) (hi : i < C.length) {v : Value} (h1 : v.oneCell' = true) : (store ⟨b, i, none⟩ v).run P w = .ok () (w.setCell ⟨b, i, none⟩ v) := by
  have hc := (hp.get hj).cell i
  have hf := (hp.get hj).free (i := i) hi
  simp only at hc hf
  rw [run_store P w _ v _ h1, hc, List.getElem?_eq_getElem hi]
  simp [hf]

/-- One cell is written. -/
theorem WL.st {t : TypeId} {x y : Operand} {v : Value} {b i : Nat} {C : List Value} {T : TypeId} (hx : ev L x = some (.pointer (some ⟨b, i, none⟩))) (hy : ev L y = some v) (hs : ∀ w, (sizeOf t).run P w = .ok 1 w) (h1 : v.cells = #[v]) (h2 : v.oneCell' = true) (hd : fits n d = true) (j : Nat) (hj : M[j]? = some ⟨b, C, T⟩) (hi : i < C.length)
    (h : WL P n w0 O ops Q rest (push d undef L) (M.set j ⟨b, C.set i v, T⟩)) : WL P n w0 O ops Q (⟨d, .store t x y, ty, pos, aft, none⟩ :: rest) L M :=
  WL.skipOp fun a w hk hp => ⟨w.setCell ⟨b, i, none⟩ v, by
    have := run_store_own (P := P) hp hj hi h2
    simp [execOp, hk.eval hx, hk.eval hy, Instr.storeAt, Instr.sureAddr, storeVar, h1, hs, storeCells, add_lit, this], h _ _ (hk.push hd) (hp.setCell hj v)⟩

theorem run_storeCells_own {b : Nat} {T : TypeId} {j : Nat} : ∀ (vs : List Value) (o i : Nat) (C : List Value) (M : List Blk) (w : World), Hp w0 w O M → M[j]? = some ⟨b, C, T⟩ → o + i + vs.length ≤ C.length → (∀ v ∈ vs, v.oneCell' = true) →
    ∃ w', (storeCells ⟨b, o, none⟩ vs i).run P w = .ok () w' ∧ Hp w0 w' O (M.set j ⟨b, splice C (o + i) vs, T⟩)
  | [], o, i, C, M, w, hp, hj, _, _ => ⟨w, rfl, by
      have : M.set j ⟨b, splice C (o + i) [], T⟩ = M := by
        obtain ⟨hl, he⟩ := List.getElem?_eq_some_iff.1 hj
        rw [splice, ← he, List.set_getElem_self]
      rw [this]; exact hp⟩
  | v :: r, o, i, C, M, w, hp, hj, hl, h1 => by
    simp only [List.length_cons] at hl
    have hst := run_store_own (P := P) hp hj (i := o + i) (by omega) (h1 v (by simp))
    have hp' := hp.setCell hj (i := o + i) v
    have hj' : (M.set j ⟨b, C.set (o + i) v, T⟩)[j]? = some ⟨b, C.set (o + i) v, T⟩ := List.getElem?_set_self (List.getElem?_eq_some_iff.1 hj).1
    obtain ⟨w', hr, hw'⟩ := run_storeCells_own r o (i + 1) _ _ _ hp' hj' (by simp; omega) (fun u hu => h1 u (by simp [hu]))
    refine ⟨w', ?_, ?_⟩
    · simp only [storeCells, Sem.run_bind, add_lit, hst, Result.andThen_ok, hr]
    · rw [List.set_set] at hw'
      simpa [splice, Nat.add_assoc] using hw'

/-- An array or a struct is written. -/
theorem WL.stAgg {t : TypeId} {x y : Operand} {b o : Nat} {C vs : List Value} {T : TypeId} (hx : ev L x = some (.pointer (some ⟨b, o, none⟩))) (hy : ev L y = some (.agg vs.toArray)) (hs : ∀ w, (sizeOf t).run P w = .ok vs.length w) (h1 : ∀ v ∈ vs, v.oneCell' = true) (hd : fits n d = true) (j : Nat) (hj : M[j]? = some ⟨b, C, T⟩) (hl : o + vs.length ≤ C.length)
    (h : WL P n w0 O ops Q rest (push d undef L) (M.set j ⟨b, splice C o vs, T⟩)) : WL P n w0 O ops Q (⟨d, .store t x y, ty, pos, aft, none⟩ :: rest) L M :=
  WL.skipOp fun a w hk hp => by
    obtain ⟨w', hr, hp'⟩ := run_storeCells_own (P := P) vs o 0 C M w hp hj (by omega) h1
    exact ⟨w', by simp [execOp, hk.eval hx, hk.eval hy, Instr.storeAt, Instr.sureAddr, storeVar, Value.cells, hs, hr], h _ _ (hk.push hd) (by simpa using hp')⟩
end

/-! ### Calls -/
theorem Cl.func {f : FuncId} {fn : Func} {c : Code} {xs : List Operand} {vs : List Value} {ts : Array TypeId} (hv : evs L xs = some vs) (hf : P.funcs[f]? = some fn) (hb : fn.body = some c) (hnm : (fn.name == "runtime.NumGoroutine") = false) :
    Cl P n L (.call { callee := .value (.func f), args := xs.toArray, argTypes := ts }) ty f vs.toArray := fun _ _ _ _ a w hk => by
  have := hk.evals hv
  have h1 : (callFunc f vs.toArray).run P w = .ok (.enter f vs.toArray) w := by
    simp only [callFunc, Sem.run_bind, run_program, Result.andThen_ok, hf, hnm, hb, Bool.false_eq_true, if_false, Option.isNone_some, Sem.run_pure]
  simp [execOp, resolve, Act.eval, Deferred.ofValue, invoke, this, h1]
end Go.Sx
