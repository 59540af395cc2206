/- The walk of Sha256Pieces: at every input it hands back true. -/
import Derived.Test.YtmokinjncelmbaaDoorRRRWk
namespace Go.Proofs.YtmokinjncelmbaaDoorRRR
open Go.Sx Go.Sha

theorem guard25 : Tryd.prog.eqGuardType Tryd.prog.depth 25 = false := by kernel_rfl
theorem HashC.length {m : List (BitVec 8)} {C : List Value} (h : HashC m C) : C.length = 73 := by
  obtain ⟨st, rest, hr, rfl, _⟩ := h
  exact mk_length _ _ _ hr
theorem HashC.len {m : List (BitVec 8)} {C : List Value} (h : HashC m C) : C[0]? = some (i64 m.length) := by
  obtain ⟨st, rest, hr, rfl, _⟩ := h
  rfl
theorem size_short (s : ByteArray) (k : Nat) : (s.extract 0 (min s.size k)).size = min s.size k := by simp

theorem pieces (s0 before0 : ByteArray) (a : Option Addr) (len cap : Nat) (zs : List (BitVec 8)) (w : World) (hT : Tables w) (hz : Row8 w a len zs) :
    Calls Tryd.prog 6 [.string s0, .string before0, .slice a len cap].toArray w fun e w' => e = .returned (.bool true) ∧ Hp w w' [] [] := by
  have n1 := hT.lt1
  have hsmall := hz.small
  have hml := maxLen_lt
  refine enter0 Tryd.func6 rfl rfl ?_
  refine .seq (.region (.rd (.assign rfl) rfl (.nil (.seq ?_))))
  refine .seq (.region ?_)
  refine .rd (.move rfl) rfl ?_
  refine .callv (.func (vs := [.string s0, i64 600]) rfl Tryd.func9 rfl (by decide)) (fun w' _ => short s0 600 w') rfl ?_
  refine .rd (.move rfl) rfl ?_
  refine .callv (.func (vs := [.string before0, i64 200]) rfl Tryd.func9 rfl (by decide)) (fun w' _ => short before0 200 w') rfl ?_
  have hs := size_short s0 600
  have hb := size_short before0 200
  generalize s0.extract 0 (min s0.size 600) = s at *
  generalize before0.extract 0 (min before0.size 200) = before at *
  have hs : s.size ≤ 600 := by omega
  have hb : before.size ≤ 200 := by omega
  refine .rd (.assign rfl) rfl ?_
  refine .rd (.assign rfl) rfl (.nil (.seq ?_))
  refine .seq (.region ?_)
  refine .callNew (α := Nat) (v := fun b => .pointer (some ⟨b, 0, none⟩)) (N := fun b => [⟨b, emptyC, 58⟩]) (.func (vs := []) rfl Tryd.func17 rfl (by decide)) (fun w' _ => new w') rfl fun b => ?_
  refine .rd (.assign rfl) rfl (.nil (.seq ?_))
  -- the first test
  refine .seq (.seq (.region ?_))
  refine .callv (.func (vs := []) rfl Tryd.func10 rfl (by decide)) (fun w' hp => known w' (hT.nil hp)) rfl ?_
  refine .rd (.not rfl) rfl ?_
  refine .rd (.move rfl) rfl ?_
  refine .guardYes rfl ?_
  refine .rd (.move rfl) rfl ?_
  refine .guardYes rfl ?_
  refine .rd (.ptrNil rfl rfl Tryd.underlying37) rfl ?_
  refine .rd (.pick rfl rfl) rfl ?_
  refine .rd (.move rfl) rfl ?_
  refine .guardYes rfl ?_
  refine .rd (.move rfl) rfl ?_
  refine .guardYes rfl ?_
  refine .rd (.move rfl) rfl ?_
  refine .guardYes rfl ?_
  refine .callSome 0 rfl (.func (vs := [.pointer (some ⟨b, 0, none⟩), .string before]) rfl Tryd.func18 rfl (by decide)) (fun w' hp => write [] before w' b emptyC (hp.get (j := 0) rfl) emptyC_ok (hT.nil hp).h0 (hT.nil hp).hK (by have := hp.fresh (j := 0) rfl; simp only at this; omega) (by have := hp.fresh (j := 0) rfl; simp only at this; omega) (by simp; omega)) rfl fun C1 hC1 => ?_
  refine .guardYes rfl ?_
  refine .rd ((Rd.neq rfl rfl).cast (v' := .bool false) rfl) rfl ?_
  refine .rd (.pick rfl rfl) rfl ?_
  refine .rd (.move rfl) rfl ?_
  refine .guardYes rfl ?_
  refine .rd (.move rfl) rfl ?_
  refine .guardYes rfl ?_
  refine .callOne 0 rfl (.func (vs := [.pointer (some ⟨b, 0, none⟩)]) rfl Tryd.func19 rfl (by decide)) (fun w' hp => reset w' b C1 (hp.get (j := 0) rfl) hC1.length) rfl ?_
  refine .guardYes rfl ?_
  refine .rd ((Rd.neq rfl rfl).cast (v' := .bool false) rfl) rfl ?_
  refine .rd (.pick rfl rfl) rfl (.nil (.seq ?_))
  refine .no rfl rfl (.skip (.seq ?_))
  refine .seq (.region ?_)
  refine .rd (.move rfl) rfl ?_
  refine .rd (.assign rfl) rfl (.nil (.seq ?_))
  refine .seq (.seq (.region (.rd (.assign rfl) rfl (.nil (.seq ?_)))))
  refine .block (.weak (L' := [(9, i64 0), (8, .string s), (7, .pointer (some ⟨b, 0, none⟩)), (2, .slice a len cap), (0, .string s)]) ⟨rfl, rfl, rfl, rfl, rfl, trivial⟩
    (.loop (fun r L M => ∃ k sr m C, k ≤ len ∧ r = len - k ∧ m ++ bsOf sr = bsOf s ∧ HashC m C ∧ L = [(9, i64 k), (8, .string sr), (7, .pointer (some ⟨b, 0, none⟩)), (2, .slice a len cap), (0, .string s)] ∧ M = [⟨b, C, 58⟩]) len ⟨0, s, [], emptyC, by omega, rfl, rfl, emptyC_ok, rfl, rfl⟩ ?_))
  clear hC1 C1
  rintro r L M ⟨k, sr, m, C, hk, rfl, hms, hC, rfl, rfl⟩
  have hsz : m.length + sr.size = s.size := by
    have := congrArg List.length hms
    simpa using this
  refine .seq (.mid (fun L' M' => L' = [(41, .bool (decide (k < len ∧ k < 40))), (9, i64 k), (8, .string sr), (7, .pointer (some ⟨b, 0, none⟩)), (2, .slice a len cap), (0, .string s)] ∧ M' = [⟨b, C, 58⟩]) (.region ?_) ?_)
  · refine .rd (.move rfl) rfl ?_
    refine .rd (.move rfl) rfl ?_
    refine .rd (.lenS rfl Tryd.underlying29) rfl ?_
    refine .rd (.lssN rfl rfl) rfl ?_
    refine .rd (.move rfl) rfl ?_
    by_cases h : k < len
    · rw [decide_eq_true h]
      refine .guardYes rfl ?_
      refine .rd (.move rfl) rfl ?_
      refine .guardYes rfl ?_
      refine .rd (.lssN (b := 40) rfl rfl) rfl ?_
      refine .rd (.pick rfl rfl) rfl (.nil (.mid ⟨rfl, rfl⟩ ⟨?_, rfl, rfl, rfl, rfl, rfl, trivial⟩))
      simp [h, lk, push]
    · rw [decide_eq_false h]
      refine .guardNo rfl rfl rfl ?_
      refine .guardNo rfl rfl rfl ?_
      refine .rd (.pick rfl rfl) rfl (.nil (.mid ⟨rfl, rfl⟩ ⟨?_, rfl, rfl, rfl, rfl, rfl, trivial⟩))
      simp [h, lk, push]
  rintro L' M' ⟨rfl, rfl⟩
  refine .cond rfl (fun hlt => .skip (.seq ?_)) fun _ => .exit (.thE (.thE (.exitHere (.seq ?_))))
  · have hlt : k < len ∧ k < 40 := of_decide_eq_true hlt
    obtain ⟨ab, ao, rfl, hcell⟩ := hz.cells (by omega)
    have hzk : k < zs.length := by have := hz.size; omega
    have hg : w.cell? ⟨ab, ao + k * 1, none⟩ = some (u8 (zs.getD k 0)) := by
      rw [Nat.mul_one]
      exact hcell k _ (by rw [List.getElem?_map, List.getElem?_eq_getElem hzk]; simp [hzk])
    generalize zs.getD k 0 = z at hg
    have hz8 := z.isLt
    refine .seq (.block (.seq (.region ?_)))
    refine .rd (.move rfl) rfl ?_
    refine .rd (.move rfl) rfl ?_
    refine .rd (.idxS rfl rfl Tryd.underlying29 Tryd.sizeOf5 hlt.1) rfl ?_
    refine .rd (.ldOld rfl Tryd.isAgg5 (by simp) hg) rfl ?_
    refine .rd (.convI rfl Tryd.underlying5 Tryd.underlying3 (by omega)) rfl ?_
    refine .rd (.move rfl) rfl ?_
    refine .rd (.len rfl Tryd.underlying9) rfl ?_
    refine .rd (.minI rfl rfl) rfl ?_
    obtain ⟨n, hn⟩ : ∃ n, n = min z.toNat sr.size := ⟨_, rfl⟩
    rw [← hn]
    refine .rd (.assign rfl) rfl (.nil (.seq ?_))
    -- a piece
    refine .seq (.seq (.region ?_))
    refine .rd (.move rfl) rfl ?_
    refine .rd (.move rfl) rfl ?_
    refine .rd (.move rfl) rfl ?_
    refine .rd (.strSlice (b := n) rfl rfl Tryd.underlying9 (by omega)) rfl ?_
    have hpn : (sr.extract 0 n).size = n := by simp; omega
    have hqn : (sr.extract n sr.size).size = sr.size - n := by simp
    have hsplit : m ++ bsOf (sr.extract 0 n) ++ bsOf (sr.extract n sr.size) = bsOf s := by
      rw [← hms, List.append_assoc, bsOf_extract, bsOf_extract, List.drop_zero, Nat.sub_zero, List.take_of_length_le (l := (bsOf sr).drop n) (by rw [List.length_drop, bsOf_length]; omega), List.take_append_drop]
    generalize sr.extract 0 n = piece at *
    obtain ⟨sr', hsr⟩ : ∃ x, x = sr.extract n sr.size := ⟨_, rfl⟩
    rw [← hsr] at hqn hsplit
    refine .callSome 0 rfl (.func (vs := [.pointer (some ⟨b, 0, none⟩), .string piece]) rfl Tryd.func18 rfl (by decide)) (fun w' hp => write m piece w' b C (hp.get (j := 0) rfl) hC (hT.nil hp).h0 (hT.nil hp).hK (by have := hp.fresh (j := 0) rfl; simp only at this; omega) (by have := hp.fresh (j := 0) rfl; simp only at this; omega) (by omega)) rfl fun C2 hC2 => ?_
    refine .rd ((Rd.neq rfl rfl).cast (v' := .bool false) rfl) rfl ?_
    refine .rd (.move rfl) rfl ?_
    refine .guardYes rfl ?_
    refine .rd (.move rfl) rfl ?_
    refine .guardYes rfl ?_
    refine .callv (.func (vs := [.pointer (some ⟨b, 0, none⟩)]) rfl Tryd.func20 rfl (by decide)) (fun w' hp => hsum (m ++ bsOf piece) w' b C2 hC2 (hp.range (j := 0) rfl fun i v hv => by rw [Nat.zero_add]; exact hv) (hT.nil hp).h0 (hT.nil hp).hK (by simp; omega)) rfl ?_
    refine .guardYes rfl ?_
    refine .rd (.move rfl) rfl ?_
    refine .guardYes rfl ?_
    refine .callv (.func (vs := [.pointer (some ⟨b, 0, none⟩)]) rfl Tryd.func20 rfl (by decide)) (fun w' hp => hsum (m ++ bsOf piece) w' b C2 hC2 (hp.range (j := 0) rfl fun i v hv => by rw [Nat.zero_add]; exact hv) (hT.nil hp).h0 (hT.nil hp).hK (by simp; omega)) rfl ?_
    refine .guardYes rfl ?_
    refine .rd ((Rd.neqArr rfl rfl Tryd.underlying25 Tryd.underlying5 Tryd.sizeOf5 guard25 (out_length _) (out_length _)).cast (v' := .bool false) (by simp)) rfl ?_
    refine .rd (.pick rfl rfl) rfl (.nil (.seq ?_))
    refine .no rfl rfl (.skip (.seq ?_))
    refine .seq (.region ?_)
    refine .rd (.move rfl) rfl ?_
    refine .rd (.move rfl) rfl ?_
    refine .rd (.strFrom (b := n) rfl rfl Tryd.underlying9 (by omega)) rfl ?_
    rw [← hsr]
    refine .rd (.assign rfl) rfl (.nil (.seq ?_))
    refine .seq (.region ?_)
    refine .rd (.move rfl) rfl ?_
    refine .callv (.func (vs := [.pointer (some ⟨b, 0, none⟩)]) rfl Tryd.func21 rfl (by decide)) (fun w' hp => hlen w' b (m ++ bsOf piece).length (((hp.get (j := 0) rfl).cell 0).trans hC2.len)) rfl ?_
    refine .rd (.move rfl) rfl ?_
    refine .rd (.len rfl Tryd.underlying9) rfl ?_
    refine .rd (.move rfl) rfl ?_
    refine .rd (.len rfl Tryd.underlying9) rfl ?_
    refine .rd (.subN rfl rfl (by omega) (by omega)) rfl ?_
    refine .rd ((Rd.neqN rfl rfl).cast (v' := .bool false) (by simp; omega)) rfl (.nil (.seq ?_))
    refine .no rfl rfl (.skip (.inBlock (.seq (.region ?_))))
    refine .rd (.move rfl) rfl ?_
    refine .rd (.addN (b := 1) rfl rfl (by omega)) rfl ?_
    refine .rd (.assign rfl) rfl (.nil (.round (len - (k + 1)) (by omega) ⟨k + 1, sr', _, C2, by omega, rfl, hsplit, hC2, rfl, rfl⟩ ⟨rfl, rfl, rfl, rfl, rfl, trivial⟩))
  -- the last piece
  refine .seq (.region ?_)
  refine .rd (.move rfl) rfl ?_
  refine .rd (.move rfl) rfl ?_
  refine .callSome 0 rfl (.func (vs := [.pointer (some ⟨b, 0, none⟩), .string sr]) rfl Tryd.func18 rfl (by decide)) (fun w' hp => write m sr w' b C (hp.get (j := 0) rfl) hC (hT.nil hp).h0 (hT.nil hp).hK (by have := hp.fresh (j := 0) rfl; simp only at this; omega) (by have := hp.fresh (j := 0) rfl; simp only at this; omega) (by omega)) rfl fun C2 hC2 => ?_
  rw [hms] at hC2
  refine .rd ((Rd.eql rfl rfl).cast (v' := .bool true) rfl) rfl ?_
  refine .rd (.move rfl) rfl ?_
  refine .guardYes rfl ?_
  refine .rd (.move rfl) rfl ?_
  refine .guardYes rfl ?_
  refine .callv (.func (vs := [.pointer (some ⟨b, 0, none⟩)]) rfl Tryd.func21 rfl (by decide)) (fun w' hp => hlen w' b (bsOf s).length (((hp.get (j := 0) rfl).cell 0).trans hC2.len)) rfl ?_
  refine .guardYes rfl ?_
  refine .rd (.move rfl) rfl ?_
  refine .guardYes rfl ?_
  refine .rd (.len rfl Tryd.underlying9) rfl ?_
  refine .guardYes rfl ?_
  refine .rd ((Rd.eqlN rfl rfl).cast (v' := .bool true) (by simp)) rfl ?_
  refine .rd (.pick rfl rfl) rfl ?_
  refine .rd (.move rfl) rfl ?_
  refine .guardYes rfl ?_
  refine .rd (.move rfl) rfl ?_
  refine .guardYes rfl ?_
  refine .callv (.func (vs := [.pointer (some ⟨b, 0, none⟩)]) rfl Tryd.func20 rfl (by decide)) (fun w' hp => hsum (bsOf s) w' b C2 hC2 (hp.range (j := 0) rfl fun i v hv => by rw [Nat.zero_add]; exact hv) (hT.nil hp).h0 (hT.nil hp).hK (by simp; omega)) rfl ?_
  refine .guardYes rfl ?_
  refine .rd (.move rfl) rfl ?_
  refine .guardYes rfl ?_
  refine .callv (.func (vs := [.string s]) rfl Tryd.func12 rfl (by decide)) (fun w' _ => refSum s w' (by omega)) rfl ?_
  refine .guardYes rfl ?_
  refine .rd ((Rd.eqlArr rfl rfl Tryd.underlying24 Tryd.underlying5 Tryd.sizeOf5 guard24 (out_length _) (out_length _)).cast (v' := .bool true) (by simp)) rfl ?_
  refine .rd (.pick rfl rfl) rfl ?_
  refine .rd (.assign rfl) rfl (.nil (.seq (.ret ?_)))
  exact .ret1 rfl rfl fun w' hp => ⟨rfl, hp.nil⟩
end Go.Proofs.YtmokinjncelmbaaDoorRRR
