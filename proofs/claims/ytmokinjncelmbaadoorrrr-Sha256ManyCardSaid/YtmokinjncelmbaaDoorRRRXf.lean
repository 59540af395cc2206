/- The walk of Sha256Many: at every input it hands back true. -/
import Derived.Test.YtmokinjncelmbaaDoorRRRWn
import Derived.Test.YtmokinjncelmbaaDoorRRRXd
import Derived.Test.YtmokinjncelmbaaDoorRRRWj
namespace Go.Sx
variable {P : Program} {n : Nat} {w0 : World} {O : List Nat}
variable {ops : Array Oper} {Q : Exit → Act → World → Prop} {rest : List Oper} {L : Env} {M : List Blk}
variable {d : Option Tmp} {o : Op} {ty : TypeId} {pos : String} {aft : Array Edge}
/-- 'make([]T, c)', some of them. -/
theorem WL.makeN {t e : TypeId} {x y : Operand} {c : Nat} {i : TypeInfo} {z : Value} (ht : P.underlying t = some (.slice e)) (hi : P.info? e = some i) (hz : i.zero = some z) (hsize : i.size = 1) (hz1 : z.cells = #[z]) (hx : ev L x = some (i64 c)) (hy : ev L y = some (i64 c)) (hd : fits n d = true) (hb : i.bytes * c ≤ 281474976710656) (hc : c < 9223372036854775808) (h0 : 0 < c)
    (h : ∀ b, w0.heap.size ≤ b → WL P n w0 O ops Q rest (push d (.slice (some ⟨b, 0, none⟩) c c) L) (⟨b, List.replicate c z, e⟩ :: M)) :
    WL P n w0 O ops Q (⟨d, .makeSlice t x y, ty, pos, aft, none⟩ :: rest) L M :=
  WL.op fun a w hk hp => by
    refine ⟨.slice (some ⟨w.heap.size, 0, none⟩) c c, w.alloc (.cells (List.replicate c z).toArray e), ?_, h _ hp.size _ _ (hk.push hd) (hp.alloc _ _)⟩
    have hw : IntKind.i64.wrap (c : Int) = (c : Int) := wrap_i64 (by omega) (by omega)
    have h1 : ¬ (281474976710656 < (i.bytes : Int) * (c : Int)) := by rw [← Int.natCast_mul]; omega
    have h2 : ¬ ((c : Int) < 0) := by omega
    have h3 : ¬ c = 0 := by omega
    simp [execOp, hk.eval hx, hk.eval hy, Instr.makeSlice, run_underlying ht, asInt, asIntOf, typeInfo, hi, hw, h1, h2, sizeOf, hsize, newRow, h3, zeroValue, hz, hz1]
    have : (Array.map (fun k : Nat => [z][k % 1]?.getD default) (Array.range c)) = Array.replicate c z := by
      apply Array.ext
      · simp
      · intro k _ _
        simp [Nat.mod_one]
    rw [this]
end Go.Sx
namespace Go.Proofs.YtmokinjncelmbaaDoorRRR
open Go.Sx Go.Sha

theorem many_texts (N b : Nat) {w0 w : World} {O : List Nat} {M : List Blk} (hp : Hp w0 w O M) (hM : ⟨b, List.replicate N (.string ⟨#[]⟩), 9⟩ ∈ M) (hN : N ≤ 258) : Texts w (some ⟨b, 0, none⟩) N (List.replicate N ⟨#[]⟩) := by
  refine ⟨List.length_replicate, by unfold maxLen; omega, fun s hs => by rw [List.eq_of_mem_replicate hs]; exact Nat.zero_le _, fun _ => ⟨b, 0, rfl, fun i v hv => ?_⟩⟩
  have h1 := (hp.mem _ hM).cell (0 + i)
  simp only at h1
  rw [h1, Nat.zero_add]
  simpa using hv

theorem many (tag less : BitVec 8) (w : World) (hT : Tables w) : Calls Tryd.prog 8 [u8 tag, u8 less].toArray w fun e w' => e = .returned (.bool true) ∧ Hp w w' [] [] := by
  have hless := less.isLt
  refine enter0 Tryd.func8 rfl rfl ?_
  refine .seq (.region (.rd (.assign rfl) rfl (.nil (.seq ?_))))
  refine .seq (.region ?_)
  refine .rd (.move rfl) rfl ?_
  refine .rd (.convI rfl Tryd.underlying5 Tryd.underlying3 (by omega)) rfl ?_
  refine .rd (.remN (b := 8) rfl rfl (by omega)) rfl ?_
  refine .rd (.subN (a := 258) rfl rfl (by omega) (by omega)) rfl ?_
  obtain ⟨N, hN⟩ : ∃ N, N = 258 - less.toNat % 8 := ⟨_, rfl⟩
  rw [← hN]
  have hN1 : N ≤ 258 := by omega
  have hN0 : 0 < N := by omega
  refine .makeN (c := N) (z := .string ⟨#[]⟩) (i := Tryd.t9) Tryd.underlying45 (by kernel_rfl) (by kernel_rfl) rfl rfl rfl rfl rfl (by show 16 * N ≤ _; omega) (by omega) hN0 fun b5 h5 => ?_
  refine .rd (.assign rfl) rfl (.nil (.seq ?_))
  have hsz : ∀ s ∈ List.replicate N (⟨#[]⟩ : ByteArray), s.size ≤ 100 := fun s hs => by rw [List.eq_of_mem_replicate hs]; exact Nat.zero_le _
  have hlen : (List.replicate N (⟨#[]⟩ : ByteArray)).length = N := List.length_replicate
  have hbs : bytesOf' (List.replicate N (⟨#[]⟩ : ByteArray)) = List.replicate N [] := by simp [bytesOf', bsOf]
  have tx : ∀ {w' : World} {M : List Blk}, Hp w w' [] M → ⟨b5, List.replicate N (.string ⟨#[]⟩), 9⟩ ∈ M → Texts w' (some ⟨b5, 0, none⟩) N (List.replicate N ⟨#[]⟩) := fun hp hM => many_texts N b5 hp hM hN1
  have hjl := joined_none tag N
  rw [← hbs] at hjl
  generalize List.replicate N (⟨#[]⟩ : ByteArray) = ss at *
  refine .seq (.region ?_)
  refine .rd (.move rfl) rfl ?_
  refine .rd (.move rfl) rfl ?_
  refine .callv (.func (vs := [u8 tag, .slice (some ⟨b5, 0, none⟩) N N]) rfl Tryd.func23 rfl (by decide)) (fun w' hp => join tag ss _ N N w' (tx hp (by simp)) hsz) rfl ?_
  refine .rd (.move rfl) rfl ?_
  by_cases hl : ss.length ≤ 255
  · rw [joinOut, if_pos hl]
    refine .rd (.extract rfl rfl) rfl ?_
    refine .rd (.extract rfl rfl) rfl ?_
    refine .rd (.assign rfl) rfl ?_
    refine .rd (.assign rfl) rfl (.nil (.seq ?_))
    refine .seq (.region ?_)
    refine .rd (.move rfl) rfl ?_
    refine .rd (.move rfl) rfl ?_
    refine .callv (.func (vs := [u8 tag, .slice (some ⟨b5, 0, none⟩) N N]) rfl Tryd.func25 rfl (by decide)) (fun w' hp => tagged tag ss _ N N w' (hT.nil hp) (tx hp (by simp)) hsz) rfl ?_
    refine .rd (.move rfl) rfl ?_
    rw [tagOut, if_pos hl]
    have hd : (sha (joined tag (bytesOf' ss))).length = 32 := out_length _
    have hsl : (ofBs (joined tag (bytesOf' ss))).size = 2 + 4 * N := by rw [ofBs_size, hjl]
    have hrt := fun w' ht => refTagged tag ss (some ⟨b5, 0, none⟩) N N w' ht hsz hl
    generalize sha (joined tag (bytesOf' ss)) = D at *
    generalize ofBs (joined tag (bytesOf' ss)) = S at *
    refine .rd (.extract rfl rfl) rfl ?_
    refine .rd (.extract rfl rfl) rfl ?_
    refine .alloc Tryd.zeroValue25 rfl (C := List.replicate 32 (.int .u8 0)) rfl fun b8 h8 => ?_
    refine .stAgg (vs := D.map u8) rfl rfl (by rw [List.length_map, hd]; exact Tryd.sizeOf25) one_u8 rfl 0 rfl (by simp [hd]) ?_
    rw [splice_zeros32 _ hd]
    refine .rd (.assign rfl) rfl (.nil (.seq ?_))
    refine .seq (.seq (.region ?_))
    refine .rd (.move rfl) rfl ?_
    refine .rd (.lenS rfl Tryd.underlying45) rfl ?_
    refine .rd ((Rd.gtrN (b := 255) rfl rfl).cast (v' := .bool false) (by simp; omega)) rfl (.nil (.seq ?_))
    refine .no rfl rfl (.skip (.seq ?_))
    refine .seq (.draw mixed (by kernel_rfl) ?_)
    refine .callv (.func (vs := []) rfl Tryd.func10 rfl (by decide)) (fun w' hp => known w' (hT.nil hp)) rfl ?_
    refine .rd (.move rfl) rfl ?_
    refine .guardYes rfl ?_
    refine .rd (.move rfl) rfl ?_
    refine .guardYes rfl ?_
    refine .rd ((Rd.eql rfl rfl).cast (v' := .bool true) rfl) rfl ?_
    refine .rd (.pick rfl rfl) rfl ?_
    refine .rd (.move rfl) rfl ?_
    refine .guardYes rfl ?_
    refine .rd (.move rfl) rfl ?_
    refine .guardYes rfl ?_
    refine .rd ((Rd.eql rfl rfl).cast (v' := .bool true) rfl) rfl ?_
    refine .rd (.pick rfl rfl) rfl ?_
    refine .rd (.move rfl) rfl ?_
    refine .guardYes rfl ?_
    refine .rd (.move rfl) rfl ?_
    refine .guardYes rfl ?_
    refine .rd (.len rfl Tryd.underlying9) rfl ?_
    refine .guardYes rfl ?_
    refine .rd (.move rfl) rfl ?_
    refine .guardYes rfl ?_
    refine .rd (.lenS rfl Tryd.underlying45) rfl ?_
    refine .guardYes rfl ?_
    refine .rd (.mulN (a := 4) rfl rfl (by omega)) rfl ?_
    refine .guardYes rfl ?_
    refine .rd (.addN (a := 2) rfl rfl (by omega)) rfl ?_
    refine .guardYes rfl ?_
    refine .rd ((Rd.eqlN rfl rfl).cast (v' := .bool true) (by rw [hsl]; simp)) rfl ?_
    refine .rd (.pick rfl rfl) rfl ?_
    refine .rd (.move rfl) rfl ?_
    refine .guardYes rfl ?_
    refine .rd (.ldFull rfl Tryd.underlying25 rfl (by rw [info25, List.length_map, hd]) 0 rfl) rfl ?_
    refine .guardYes rfl ?_
    refine .rd (.move rfl) rfl ?_
    refine .guardYes rfl ?_
    refine .rd (.move rfl) rfl ?_
    refine .guardYes rfl ?_
    refine .callv (.func (vs := [u8 tag, .slice (some ⟨b5, 0, none⟩) N N]) rfl Tryd.func26 rfl (by decide)) (fun w' hp => hrt w' (tx hp (by simp))) rfl ?_
    refine .guardYes rfl ?_
    refine .rd ((Rd.eqlArr rfl rfl Tryd.underlying24 Tryd.underlying5 Tryd.sizeOf5 guard24 hd hd).cast (v' := .bool true) (by simp)) rfl ?_
    refine .rd (.pick rfl rfl) rfl ?_
    refine .rd (.assign rfl) rfl (.done (.seq (.ret ?_)))
    exact .ret1 rfl rfl fun w' hp => ⟨rfl, hp.nil⟩
  · rw [joinOut, if_neg hl]
    refine .rd (.extract rfl rfl) rfl ?_
    refine .rd (.extract rfl rfl) rfl ?_
    refine .rd (.assign rfl) rfl ?_
    refine .rd (.assign rfl) rfl (.nil (.seq ?_))
    refine .seq (.region ?_)
    refine .rd (.move rfl) rfl ?_
    refine .rd (.move rfl) rfl ?_
    refine .callv (.func (vs := [u8 tag, .slice (some ⟨b5, 0, none⟩) N N]) rfl Tryd.func25 rfl (by decide)) (fun w' hp => tagged tag ss _ N N w' (hT.nil hp) (tx hp (by simp)) hsz) rfl ?_
    refine .rd (.move rfl) rfl ?_
    rw [tagOut, if_neg hl]
    refine .rd (.extract rfl rfl) rfl ?_
    refine .rd (.extract rfl rfl) rfl ?_
    refine .alloc Tryd.zeroValue25 rfl (C := List.replicate 32 (.int .u8 0)) rfl fun b8 h8 => ?_
    refine .stAgg (vs := none32.map u8) rfl rfl Tryd.sizeOf25 one_u8 rfl 0 rfl (Nat.le_refl 32) ?_
    rw [splice_zeros32 none32 rfl]
    refine .rd (.assign rfl) rfl (.nil (.seq ?_))
    refine .seq (.seq (.region ?_))
    refine .rd (.move rfl) rfl ?_
    refine .rd (.lenS rfl Tryd.underlying45) rfl ?_
    refine .rd ((Rd.gtrN (b := 255) rfl rfl).cast (v' := .bool true) (by simp; omega)) rfl (.nil (.seq ?_))
    refine .yes rfl rfl (.seq (.region ?_))
    refine .callv (.func (vs := []) rfl Tryd.func10 rfl (by decide)) (fun w' hp => known w' (hT.nil hp)) rfl ?_
    refine .rd (.move rfl) rfl ?_
    refine .guardYes rfl ?_
    refine .rd (.move rfl) rfl ?_
    refine .guardYes rfl ?_
    refine .rd ((Rd.strEql (a := ⟨#[]⟩) (b := ⟨#[]⟩) rfl rfl).cast (v' := .bool true) (by simp)) rfl ?_
    refine .rd (.pick rfl rfl) rfl ?_
    refine .rd (.move rfl) rfl ?_
    refine .guardYes rfl ?_
    refine .rd (.move rfl) rfl ?_
    refine .guardYes rfl ?_
    refine .rd ((Rd.eql rfl rfl).cast (v' := .bool true) rfl) rfl ?_
    refine .rd (.pick rfl rfl) rfl ?_
    refine .rd (.move rfl) rfl ?_
    refine .guardYes rfl ?_
    refine .rd (.ldFull (C := none32.map u8) rfl Tryd.underlying25 rfl info25 0 rfl) rfl ?_
    refine .guardYes rfl ?_
    refine .rd (.build (vs := []) (v := .agg (none32.map u8).toArray) rfl build25) rfl ?_
    refine .guardYes rfl ?_
    refine .rd ((Rd.eqlArr (A := none32) (B := none32) rfl rfl Tryd.underlying25 Tryd.underlying5 Tryd.sizeOf5 guard25 rfl rfl).cast (v' := .bool true) rfl) rfl ?_
    refine .rd (.pick rfl rfl) rfl ?_
    refine .rd (.move rfl) rfl ?_
    refine .guardYes rfl ?_
    refine .rd (.move rfl) rfl ?_
    refine .guardYes rfl ?_
    refine .rd ((Rd.eql rfl rfl).cast (v' := .bool true) rfl) rfl ?_
    refine .rd (.pick rfl rfl) rfl ?_
    refine .rd (.assign rfl) rfl (.nil (.seq (.ret ?_)))
    repeat (first | refine At.thR ?_ | refine At.blR ?_)
    exact .ret1 rfl rfl fun w' hp => ⟨rfl, hp.nil⟩
end Go.Proofs.YtmokinjncelmbaaDoorRRR
