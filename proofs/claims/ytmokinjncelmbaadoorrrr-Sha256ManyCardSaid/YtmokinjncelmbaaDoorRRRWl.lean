/- The walks of Join and of the reference's Join: lists of texts of at most 100 bytes. -/
import Derived.Test.YtmokinjncelmbaaDoorRRRWk
import Derived.Test.YtmokinjncelmbaaDoorRRRPd
namespace Go.Sx
variable {P : Program} {n : Nat} {w0 : World} {O : List Nat} {L : Env} {M : List Blk} {ty : TypeId}
theorem Rd.extract {x : Operand} {vs : List Value} {i : Nat} {v : Value} (hx : ev L x = some (.tuple vs.toArray)) (hv : vs[i]? = some v) : Rd P n w0 O M L (.extract x i) ty v := fun _ _ _ _ _ w hk _ => by
  simp [execOp, hk.eval hx, Instr.extract, hv]
end Go.Sx
namespace Go.Proofs.YtmokinjncelmbaaDoorRRR
open Go.Sx Go.Sha

abbrev bytesOf' (ss : List ByteArray) : List (List (BitVec 8)) := ss.map bsOf
theorem texts_get {w : World} {a : Option Addr} {len : Nat} {ss : List ByteArray} (h : Texts w a len ss) (k : Nat) (hk : k < len) : ∃ b o s, a = some ⟨b, o, none⟩ ∧ ss[k]? = some s ∧ w.cell? ⟨b, o + k * 1, none⟩ = some (.string s) := by
  obtain ⟨b, o, rfl, hc⟩ := h.cells (by omega)
  have hkl : k < ss.length := by have := h.size; omega
  refine ⟨b, o, ss[k], rfl, List.getElem?_eq_getElem hkl, ?_⟩
  rw [Nat.mul_one]
  exact hc k _ (by rw [List.getElem?_map, List.getElem?_eq_getElem hkl]; rfl)

/-- What has been written behind 'k' of the texts. -/
abbrev upto (tag : BitVec 8) (ss : List ByteArray) (k : Nat) : List (BitVec 8) := [tag, BitVec.ofNat 8 ss.length] ++ enc (bytesOf' (ss.take k))
theorem upto_next (tag : BitVec 8) (ss : List ByteArray) (k : Nat) (s : ByteArray) (h : ss[k]? = some s) : upto tag ss (k + 1) = upto tag ss k ++ be4 s.size ++ bsOf s := by
  have := enc_take (bytesOf' ss) k (bsOf s) (by rw [List.getElem?_map, h]; rfl)
  rw [bsOf_length, ← List.map_take, ← List.map_take] at this
  rw [upto, upto, this]
  simp
theorem upto_all (tag : BitVec 8) (ss : List ByteArray) : upto tag ss ss.length = joined tag (bytesOf' ss) := by
  rw [upto, List.take_length, joined, List.length_map]
theorem upto_bound (tag : BitVec 8) (ss : List ByteArray) (k : Nat) (hs : ∀ s ∈ ss, s.size ≤ 100) (hk : k ≤ ss.length) : (upto tag ss k).length ≤ 2 + 104 * k := by
  have := enc_bound (bytesOf' (ss.take k)) (fun x hx => by
    obtain ⟨s, hs', rfl⟩ := List.mem_map.1 hx
    rw [bsOf_length]
    exact hs s (List.mem_of_mem_take hs'))
  have e : (bytesOf' (ss.take k)).length = k := by simp; omega
  rw [e] at this
  simp only [upto, List.length_append, List.length_cons, List.length_nil]
  omega

/-- What Join and Tagged hand back beside the text or the digest. -/
abbrev joinOut (tag : BitVec 8) (ss : List ByteArray) : Value :=
  if ss.length ≤ 255 then .tuple [.string (ofBs (joined tag (bytesOf' ss))), .int .i64 0].toArray else .tuple [.string ⟨#[]⟩, .int .i64 9].toArray

theorem join (tag : BitVec 8) (ss : List ByteArray) (a : Option Addr) (len cap : Nat) (w : World) (ht : Texts w a len ss) (hs : ∀ s ∈ ss, s.size ≤ 100) :
    Calls Tryd.prog 23 [u8 tag, .slice a len cap].toArray w fun e w' => e = .returned (joinOut tag ss) ∧ Hp w w' [] [] := by
  have hsl := ht.size
  refine enter0 Tryd.func23 rfl rfl ?_
  refine .seq (.region ?_)
  refine .rd (.assign rfl) rfl ?_
  refine .rd (.assign rfl) rfl (.nil (.seq ?_))
  refine .seq (.seq (.region ?_))
  refine .rd (.move rfl) rfl ?_
  refine .rd (.lenS rfl Tryd.underlying45) rfl ?_
  refine .rd (.gtrN (b := 255) rfl rfl) rfl (.nil (.seq ?_))
  refine .cond rfl (fun h => ?_) fun h => .skip (.seq ?_)
  · have h : ¬ ss.length ≤ 255 := by have := of_decide_eq_true h; omega
    refine .seq (.region ?_)
    refine .rd (.assign rfl) rfl ?_
    refine .rd (.assign rfl) rfl (.nil (.seq (.ret ?_)))
    repeat (first | refine At.thR ?_ | refine At.blR ?_)
    exact .ret2 rfl rfl rfl fun w' hp => ⟨by rw [joinOut, if_neg h], hp.nil⟩
  have hle : len ≤ 255 := by have := of_decide_eq_false h; omega
  rw [joinOut, if_pos (by omega)]
  clear h
  refine .seq (.region (.rd (.assign rfl) rfl (.nil (.seq ?_))))
  -- the size
  refine .seq (.seq (.region ?_))
  refine .rd (.move rfl) rfl ?_
  refine .rd (.lenS rfl Tryd.underlying45) rfl ?_
  refine .rd (.move rfl) rfl (.nil (.seq ?_))
  refine .block (.weak (L' := [(18, i64 0), (17, i64 len), (16, .slice a len cap), (6, i64 2), (1, .slice a len cap), (0, u8 tag)]) ⟨rfl, rfl, rfl, rfl, rfl, rfl, trivial⟩
    (.loop (fun r L M => ∃ k S, k ≤ len ∧ S ≤ 2 + 104 * k ∧ r = len - k ∧ L = [(18, i64 k), (17, i64 len), (16, .slice a len cap), (6, i64 S), (1, .slice a len cap), (0, u8 tag)] ∧ M = []) len ⟨0, 2, by omega, by omega, rfl, rfl, rfl⟩ ?_))
  rintro r L M ⟨k, S, hk, hS, rfl, rfl, rfl⟩
  refine .seq (.region ?_)
  refine .rd (.lssN rfl rfl) rfl (.nil (.seq ?_))
  refine .seq (.cond rfl (fun hlt => .skip (.seq ?_)) fun hge => .exit (.thE (.thE (.exitHere (.seq ?_)))))
  · have hlt : k < len := of_decide_eq_true hlt
    obtain ⟨b, o, s, rfl, hsk, hcell⟩ := texts_get ht k hlt
    have hsz := hs s (List.mem_of_getElem? hsk)
    refine .seq (.block (.seq (.region ?_)))
    refine .rd (.idxS rfl rfl Tryd.underlying45 Tryd.sizeOf9 hlt) rfl ?_
    refine .rd (.ldOld rfl Tryd.isAgg9 (by simp) hcell) rfl ?_
    refine .rd (.assign rfl) rfl (.nil (.seq (.region ?_)))
    refine .rd (.move rfl) rfl ?_
    refine .rd (.move rfl) rfl ?_
    refine .rd (.len rfl Tryd.underlying9) rfl ?_
    refine .rd (.addN (a := 4) rfl rfl (by omega)) rfl ?_
    refine .rd (.addN rfl rfl (by omega)) rfl ?_
    refine .rd (.assign rfl) rfl (.nil (.inBlock (.seq (.region ?_))))
    refine .rd (.addN (b := 1) rfl rfl (by omega)) rfl ?_
    refine .rd (.move rfl) rfl (.nil (.round (len - (k + 1)) (by omega) ⟨k + 1, _, by omega, ?_, rfl, rfl, rfl⟩ ⟨rfl, rfl, rfl, rfl, rfl, rfl, trivial⟩))
    omega
  have hkl : k = len := by have := of_decide_eq_false hge; omega
  subst hkl
  clear hge
  refine .seq (.region ?_)
  refine .rd (.move rfl) rfl ?_
  refine .make (c := S) (z := .int .u8 0) (i := Tryd.t5) Tryd.underlying29 (by kernel_rfl) (by kernel_rfl) rfl rfl rfl rfl rfl (by show 1 * S ≤ _; omega) (by omega) fun b9 h9 => ?_
  refine .rd (.assign rfl) rfl (.nil (.seq ?_))
  refine .seq (.region ?_)
  refine .rd (.move rfl) rfl ?_
  refine .rd (.move rfl) rfl ?_
  refine .rd (.move rfl) rfl ?_
  refine .rd (.lenS rfl Tryd.underlying45) rfl ?_
  refine .rd (.conv8 rfl Tryd.underlying3 Tryd.underlying5) rfl ?_
  refine .buildSlice (C := [u8 tag, u8 (BitVec.ofNat 8 k)]) (e := 5) rfl (fun w => by kernel_rfl) rfl fun b8 hb8 => ?_
  refine .appendB (b := b9) (l := []) (l' := [tag, BitVec.ofNat 8 k]) (sp := List.replicate S (.int .u8 0)) elem29 (by show some (Value.slice _ 0 S) = some (Value.slice _ 0 _); rw [List.map_nil, List.nil_append, List.length_replicate]) rfl rfl 1 rfl (.ofBlock (j := 0) rfl rfl (by simp [Value.oneCell'])) (by simp) fun b2 sp2 => ?_
  refine .rd (.assign rfl) rfl (.nil (.seq ?_))
  have e0 : ([] : List (BitVec 8)) ++ [tag, BitVec.ofNat 8 k] = upto tag ss 0 := by rw [upto, hsl]; simp [enc]
  rw [e0]
  -- the texts
  refine .seq (.seq (.region ?_))
  refine .rd (.move rfl) rfl ?_
  refine .rd (.lenS rfl Tryd.underlying45) rfl ?_
  refine .rd (.move rfl) rfl (.nil (.seq ?_))
  clear hk hS e0
  generalize k = len at *
  refine .block (.drop (M' := [bbl b2 (upto tag ss 0) sp2 5]) (List.sublist_cons_self _ _) (.weak (L' := [(39, i64 0), (38, i64 len), (37, .slice a len cap), (9, bsl b2 (upto tag ss 0) sp2)]) ⟨rfl, rfl, rfl, rfl, trivial⟩
    (.loop (fun r L M => ∃ k b sp, k ≤ len ∧ r = len - k ∧ L = [(39, i64 k), (38, i64 len), (37, .slice a len cap), (9, bsl b (upto tag ss k) sp)] ∧ M = [bbl b (upto tag ss k) sp 5]) len ⟨0, b2, sp2, by omega, rfl, rfl, rfl⟩ ?_)))
  rintro r L M ⟨k, b, sp, hk, rfl, rfl, rfl⟩
  have hub := upto_bound tag ss k hs (by omega)
  refine .seq (.region ?_)
  refine .rd (.lssN rfl rfl) rfl (.nil (.seq ?_))
  refine .seq (.cond rfl (fun hlt => .skip (.seq ?_)) fun hge => .exit (.thE (.thE (.exitHere (.seq ?_)))))
  · have hlt : k < len := of_decide_eq_true hlt
    obtain ⟨ab, ao, s, rfl, hsk, hcell⟩ := texts_get ht k hlt
    have hsz := hs s (List.mem_of_getElem? hsk)
    refine .seq (.block (.seq (.region ?_)))
    refine .rd (.idxS rfl rfl Tryd.underlying45 Tryd.sizeOf9 hlt) rfl ?_
    refine .rd (.ldOld rfl Tryd.isAgg9 (by simp) hcell) rfl ?_
    refine .rd (.assign rfl) rfl (.nil (.seq (.seq (.region ?_))))
    refine .rd (.move rfl) rfl ?_
    refine .rd (.len rfl Tryd.underlying9) rfl ?_
    refine .rd (.assign rfl) rfl (.nil (.seq (.seq (.region ?_))))
    refine .rd (.move rfl) rfl ?_
    refine .rd (.move rfl) rfl ?_
    refine .rd (.shrN (s := 24) rfl rfl (by omega)) rfl ?_
    refine .rd (.conv8 rfl Tryd.underlying3 Tryd.underlying5) rfl ?_
    refine .rd (.move rfl) rfl ?_
    refine .rd (.shrN (s := 16) rfl rfl (by omega)) rfl ?_
    refine .rd (.conv8 rfl Tryd.underlying3 Tryd.underlying5) rfl ?_
    refine .rd (.move rfl) rfl ?_
    refine .rd (.shrN (s := 8) rfl rfl (by omega)) rfl ?_
    refine .rd (.conv8 rfl Tryd.underlying3 Tryd.underlying5) rfl ?_
    refine .rd (.move rfl) rfl ?_
    refine .rd (.conv8 rfl Tryd.underlying3 Tryd.underlying5) rfl ?_
    refine .buildSlice (C := (be4 s.size).map u8) (e := 5) rfl (fun w => by kernel_rfl) rfl fun b8 hb8 => ?_
    refine .appendB (l' := be4 s.size) elem29 rfl rfl rfl 1 rfl (.ofBlock (j := 0) rfl rfl (fun v hv => by obtain ⟨y, _, rfl⟩ := List.mem_map.1 hv; rfl)) (by have : (be4 s.size).length = 4 := rfl; omega) fun b3 sp3 => ?_
    refine .rd (.assign rfl) rfl (.nil (.seq (.region ?_)))
    refine .rd (.move rfl) rfl ?_
    refine .rd (.move rfl) rfl ?_
    refine .appendB (l := upto tag ss k ++ be4 s.size) (l' := bsOf s) elem29s rfl rfl rfl 1 rfl (.ofString s) (by have : (be4 s.size).length = 4 := rfl; rw [@List.length_append _ (upto tag ss k) (be4 s.size), bsOf_length]; omega) fun b4 sp4 => ?_
    rw [← upto_next tag ss k s hsk]
    refine .rd (.assign rfl) rfl (.nil (.inBlock (.seq (.region ?_))))
    refine .rd (.addN (b := 1) rfl rfl (by omega)) rfl ?_
    refine .rd (.move rfl) rfl (.nil ?_)
    refine .dropM (M' := [bbl b4 (upto tag ss (k + 1)) sp4 5]) (List.sublist_cons_self _ _) ?_
    exact .round (len - (k + 1)) (by omega) ⟨k + 1, b4, sp4, by omega, rfl, rfl, rfl⟩ ⟨rfl, rfl, rfl, rfl, trivial⟩
  have hkl : k = ss.length := by have := of_decide_eq_false hge; omega
  subst hkl
  rw [upto_all]
  refine .seq (.region ?_)
  refine .rd (.move rfl) rfl ?_
  refine .rd (.toStr (l := joined tag (bytesOf' ss)) rfl Tryd.underlying29 Tryd.underlying5 Tryd.underlying9 rfl (fun w' hp => hp.range (j := 0) rfl fun i v hv => by rw [Nat.zero_add, List.getElem?_append_left (List.getElem?_eq_some_iff.1 hv).1]; exact hv)) rfl ?_
  refine .rd (.assign rfl) rfl ?_
  refine .rd (.assign rfl) rfl (.nil (.seq (.ret ?_)))
  exact .ret2 rfl rfl rfl fun w' hp => ⟨rfl, hp.nil⟩

theorem refJoin (tag : BitVec 8) (ss : List ByteArray) (a : Option Addr) (len cap : Nat) (w : World) (ht : Texts w a len ss) (hs : ∀ s ∈ ss, s.size ≤ 100) :
    Calls Tryd.prog 30 [u8 tag, .slice a len cap].toArray w fun e w' => e = .returned (joinOut tag ss) ∧ Hp w w' [] [] := by
  have hsl := ht.size
  refine enter0 Tryd.func30 rfl rfl ?_
  refine .seq (.region ?_)
  refine .rd (.assign rfl) rfl ?_
  refine .rd (.assign rfl) rfl (.nil (.seq ?_))
  refine .seq (.seq (.region ?_))
  refine .rd (.move rfl) rfl ?_
  refine .rd (.lenS rfl Tryd.underlying45) rfl ?_
  refine .rd (.gtrN (b := 255) rfl rfl) rfl (.nil (.seq ?_))
  refine .cond rfl (fun h => ?_) fun h => .skip (.seq ?_)
  · have h : ¬ ss.length ≤ 255 := by have := of_decide_eq_true h; omega
    refine .seq (.region ?_)
    refine .rd (.assign rfl) rfl ?_
    refine .rd (.assign rfl) rfl (.nil (.seq (.ret ?_)))
    repeat (first | refine At.thR ?_ | refine At.blR ?_)
    exact .ret2 rfl rfl rfl fun w' hp => ⟨by rw [joinOut, if_neg h], hp.nil⟩
  have hle : len ≤ 255 := by have := of_decide_eq_false h; omega
  rw [joinOut, if_pos (by omega)]
  clear h
  refine .seq (.region ?_)
  refine .rd (.move rfl) rfl ?_
  refine .rd (.move rfl) rfl ?_
  refine .rd (.lenS rfl Tryd.underlying45) rfl ?_
  refine .rd (.conv8 rfl Tryd.underlying3 Tryd.underlying5) rfl ?_
  refine .buildSlice (C := [u8 tag, u8 (BitVec.ofNat 8 len)]) (e := 5) rfl (fun w => by kernel_rfl) rfl fun b2 hb2 => ?_
  refine .rd (.assign rfl) rfl (.nil (.seq ?_))
  have e0 : upto tag ss 0 = [tag, BitVec.ofNat 8 len] := by rw [upto, hsl]; simp [enc]
  refine .seq (.seq (.region (.rd (.assign rfl) rfl (.nil (.seq ?_)))))
  refine .block (.weak (L' := [(7, i64 0), (6, bsl b2 (upto tag ss 0) []), (1, .slice a len cap)]) ⟨rfl, by rw [e0]; rfl, rfl, trivial⟩
    (.loop (fun r L M => ∃ k b sp, k ≤ len ∧ r = len - k ∧ L = [(7, i64 k), (6, bsl b (upto tag ss k) sp), (1, .slice a len cap)] ∧ M = [bbl b (upto tag ss k) sp 5]) len ⟨0, b2, [], by omega, rfl, rfl, by rw [e0]; rfl⟩ ?_))
  clear e0
  rintro r L M ⟨k, b, sp, hk, rfl, rfl, rfl⟩
  have hub := upto_bound tag ss k hs (by omega)
  refine .seq (.seq (.region ?_))
  refine .rd (.move rfl) rfl ?_
  refine .rd (.move rfl) rfl ?_
  refine .rd (.lenS rfl Tryd.underlying45) rfl ?_
  refine .rd (.lssN rfl rfl) rfl (.nil (.seq ?_))
  refine .cond rfl (fun hlt => .skip (.seq ?_)) fun hge => .exit (.thE (.thE (.exitHere (.seq ?_))))
  · have hlt : k < len := of_decide_eq_true hlt
    obtain ⟨ab, ao, s, rfl, hsk, hcell⟩ := texts_get ht k hlt
    have hsz := hs s (List.mem_of_getElem? hsk)
    refine .seq (.block (.seq (.region ?_)))
    refine .rd (.move rfl) rfl ?_
    refine .rd (.move rfl) rfl ?_
    refine .rd (.idxS rfl rfl Tryd.underlying45 Tryd.sizeOf9 hlt) rfl ?_
    refine .rd (.ldOld rfl Tryd.isAgg9 (by simp) hcell) rfl ?_
    refine .rd (.len rfl Tryd.underlying9) rfl ?_
    refine .rd (.assign rfl) rfl (.nil (.seq (.seq (.region ?_))))
    refine .rd (.move rfl) rfl ?_
    refine .rd (.move rfl) rfl ?_
    refine .rd (.shrN (s := 24) rfl rfl (by omega)) rfl ?_
    refine .rd (.conv8 rfl Tryd.underlying3 Tryd.underlying5) rfl ?_
    refine .rd (.move rfl) rfl ?_
    refine .rd (.shrN (s := 16) rfl rfl (by omega)) rfl ?_
    refine .rd (.conv8 rfl Tryd.underlying3 Tryd.underlying5) rfl ?_
    refine .rd (.move rfl) rfl ?_
    refine .rd (.shrN (s := 8) rfl rfl (by omega)) rfl ?_
    refine .rd (.conv8 rfl Tryd.underlying3 Tryd.underlying5) rfl ?_
    refine .rd (.move rfl) rfl ?_
    refine .rd (.conv8 rfl Tryd.underlying3 Tryd.underlying5) rfl ?_
    refine .buildSlice (C := (be4 s.size).map u8) (e := 5) rfl (fun w => by kernel_rfl) rfl fun b8 hb8 => ?_
    refine .appendB (l' := be4 s.size) elem29 rfl rfl rfl 1 rfl (.ofBlock (j := 0) rfl rfl (fun v hv => by obtain ⟨y, _, rfl⟩ := List.mem_map.1 hv; rfl)) (by have : (be4 s.size).length = 4 := rfl; omega) fun b3 sp3 => ?_
    refine .rd (.assign rfl) rfl (.nil (.seq (.region ?_)))
    refine .rd (.move rfl) rfl ?_
    refine .rd (.move rfl) rfl ?_
    refine .rd (.move rfl) rfl ?_
    refine .rd (.idxS rfl rfl Tryd.underlying45 Tryd.sizeOf9 hlt) rfl ?_
    refine .rd (.ldOld rfl Tryd.isAgg9 (by simp) hcell) rfl ?_
    refine .appendB (l := upto tag ss k ++ be4 s.size) (l' := bsOf s) elem29s rfl rfl rfl 1 rfl (.ofString s) (by have : (be4 s.size).length = 4 := rfl; rw [@List.length_append _ (upto tag ss k) (be4 s.size), bsOf_length]; omega) fun b4 sp4 => ?_
    rw [← upto_next tag ss k s hsk]
    refine .rd (.assign rfl) rfl (.nil (.inBlock (.seq (.region ?_))))
    refine .rd (.move rfl) rfl ?_
    refine .rd (.addN (b := 1) rfl rfl (by omega)) rfl ?_
    refine .rd (.assign rfl) rfl (.nil ?_)
    refine .dropM (M' := [bbl b4 (upto tag ss (k + 1)) sp4 5]) (List.sublist_cons_self _ _) ?_
    exact .round (len - (k + 1)) (by omega) ⟨k + 1, b4, sp4, by omega, rfl, rfl, rfl⟩ ⟨rfl, rfl, rfl, trivial⟩
  have hkl : k = ss.length := by have := of_decide_eq_false hge; omega
  subst hkl
  rw [upto_all]
  refine .seq (.region ?_)
  refine .rd (.move rfl) rfl ?_
  refine .rd (.toStr (l := joined tag (bytesOf' ss)) rfl Tryd.underlying29 Tryd.underlying5 Tryd.underlying9 rfl (fun w' hp => hp.range (j := 0) rfl fun i v hv => by rw [Nat.zero_add, List.getElem?_append_left (List.getElem?_eq_some_iff.1 hv).1]; exact hv)) rfl ?_
  refine .rd (.assign rfl) rfl ?_
  refine .rd (.assign rfl) rfl (.nil (.seq (.ret ?_)))
  exact .ret2 rfl rfl rfl fun w' hp => ⟨rfl, hp.nil⟩
end Go.Proofs.YtmokinjncelmbaaDoorRRR
