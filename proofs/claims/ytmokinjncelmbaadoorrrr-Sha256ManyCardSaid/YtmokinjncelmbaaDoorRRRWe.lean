/- The walks of the reference's Pad and Sum: a text of at most 2^40 bytes. -/
import Derived.Test.YtmokinjncelmbaaDoorRRRWd
namespace Go.Proofs.YtmokinjncelmbaaDoorRRR
open Go.Sx Go.Sha

theorem elem29 : Elem Tryd.prog 29 29 5 1 := ⟨Tryd.underlying29, .inl Tryd.underlying29, Tryd.t5, .int .u8 0, by kernel_rfl, by kernel_rfl, rfl, rfl, rfl⟩
theorem elem29s : Elem Tryd.prog 29 9 5 1 := ⟨Tryd.underlying29, .inr Tryd.underlying9, Tryd.t5, .int .u8 0, by kernel_rfl, by kernel_rfl, rfl, rfl, rfl⟩

theorem zeros_le (n : Nat) : zeros n < 64 := by unfold zeros; omega
theorem zeros_hit (n k : Nat) (hk : k ≤ zeros n) (h : (n + 1 + k) % 64 = 56) : k = zeros n := by unfold zeros at *; omega
theorem zeros_end (n : Nat) : (n + 1 + zeros n) % 64 = 56 := by unfold zeros; omega

theorem len8_take (n k : Nat) (hk : k < 8) : (len8 n).take (k + 1) = (len8 n).take k ++ [BitVec.ofNat 8 (8 * n / 2 ^ (8 * (7 - k)))] := by
  have hl : k < (len8 n).length := by simpa [len8] using hk
  rw [List.take_succ_eq_append_getElem hl]
  simp [len8]

theorem Pad (s : ByteArray) (w : World) (hs : s.size ≤ 1099511627776) :
    Calls Tryd.prog 13 [.string s].toArray w fun e w' => ∃ b sp, e = .returned (bsl b (pad (bsOf s)) sp) ∧ Hp w w' [] [bbl b (pad (bsOf s)) sp 5] := by
  have hm : (bsOf s).length = s.size := bsOf_length s
  generalize hM : bsOf s = m at hm
  refine enter0 Tryd.func13 rfl rfl ?_
  refine .seq (.region (.rd (.assign rfl) rfl (.nil (.seq ?_))))
  refine .seq (.region ?_)
  refine .rd (.move rfl) rfl ?_
  refine .toB rfl Tryd.underlying9 Tryd.underlying29 Tryd.underlying5 rfl fun b1 sp1 hb1 => ?_
  rw [hM]
  refine .buildSlice (C := [u8 128#8]) (e := 5) rfl (fun w => by kernel_rfl) rfl fun b8 hb8 => ?_
  refine .appendB (l' := [128#8]) elem29 rfl rfl rfl 1 rfl (.ofBlock (j := 0) rfl rfl (by simp [Value.oneCell'])) (by simp; omega) fun b2 sp2 => ?_
  refine .rd (.assign rfl) rfl (.nil (.seq ?_))
  -- the zeros
  refine .seq (.block (.drop (M' := [bbl b2 (m ++ [128]) sp2 5]) (List.sublist_cons_self _ _) (.weak (L' := [(3, bsl b2 (m ++ [128]) sp2), (0, .string s)]) ⟨rfl, rfl, trivial⟩
    (.loop (fun r L M => ∃ k b sp, k ≤ zeros s.size ∧ r = zeros s.size - k ∧ L = [(3, bsl b (m ++ [128] ++ List.replicate k 0) sp), (0, .string s)] ∧ M = [bbl b (m ++ [128] ++ List.replicate k 0) sp 5]) (zeros s.size) ⟨0, b2, sp2, by omega, rfl, by simp, by simp⟩ ?_))))
  rintro r L M ⟨k, b, sp, hk, rfl, rfl, rfl⟩
  have hlen : (m ++ [128] ++ List.replicate k (0 : BitVec 8)).length = s.size + 1 + k := by simp [hm]; omega
  refine .seq (.seq (.region ?_))
  refine .rd (.move rfl) rfl ?_
  refine .rd (.lenS rfl Tryd.underlying29) rfl ?_
  refine .rd (.remN (b := 64) rfl rfl (by omega)) rfl ?_
  refine .rd (.neqN (b := 56) rfl rfl) rfl (.nil (.seq ?_))
  refine .cond rfl (fun hne => .skip (.seq ?_)) fun heq => .exit (.thE (.thE (.exitHere (.seq ?_))))
  · have hne : ¬ ((s.size + 1 + k) % 64 = 56) := by
      simp [hm] at hne
      rw [show s.size + 1 + k = s.size + (k + 1) by omega]
      exact hne
    have hk' : k < zeros s.size := by
      rcases Nat.lt_or_ge k (zeros s.size) with h | h
      · exact h
      · have : k = zeros s.size := by omega
        subst this
        exact absurd (zeros_end s.size) hne
    refine .block (.region ?_)
    refine .rd (.move rfl) rfl ?_
    refine .buildSlice (C := [u8 0#8]) (e := 5) rfl (fun w => by kernel_rfl) rfl fun b8 hb8 => ?_
    refine .appendB (l' := [0#8]) elem29 rfl rfl rfl 1 rfl (.ofBlock (j := 0) rfl rfl (by simp [Value.oneCell'])) (by rw [hlen]; have := zeros_le s.size; simp; omega) fun b3 sp3 => ?_
    have hrep : m ++ [128] ++ List.replicate k (0 : BitVec 8) ++ [0#8] = m ++ [128] ++ List.replicate (k + 1) 0 := by
      rw [List.replicate_succ', List.append_assoc (m ++ [128])]
      rfl
    rw [hrep]
    refine .rd (.assign rfl) rfl (.nil (.inBlock ?_))
    refine .dropM (M' := [bbl b3 (m ++ [128] ++ List.replicate (k + 1) 0) sp3 5]) (List.sublist_cons_self _ _) ?_
    exact .round (zeros s.size - (k + 1)) (by omega) ⟨k + 1, b3, sp3, by omega, rfl, rfl, rfl⟩ ⟨rfl, rfl, trivial⟩
  have hk : k = zeros s.size := zeros_hit _ _ hk (by
    simp [hm] at heq
    rw [show s.size + 1 + k = s.size + (k + 1) by omega]
    exact heq)
  subst hk
  clear heq
  -- the length
  refine .seq (.region ?_)
  refine .rd (.move rfl) rfl ?_
  refine .rd (.len rfl Tryd.underlying9) rfl ?_
  refine .rd (.mulN (a := 8) rfl rfl (by omega)) rfl ?_
  refine .rd (.assign rfl) rfl (.nil (.seq ?_))
  refine .seq (.seq (.region (.rd (.assign rfl) rfl (.nil (.seq ?_)))))
  refine .block (.weak (L' := [(5, .int .i64 7), (4, i64 (8 * s.size)), (3, bsl b (m ++ [128] ++ List.replicate (zeros s.size) 0) sp)]) ⟨rfl, rfl, rfl, trivial⟩
    (.loop (fun r L M => ∃ k b sp, k ≤ 8 ∧ r = 8 - k ∧ L = [(5, .int .i64 (7 - (k : Int))), (4, i64 (8 * s.size)), (3, bsl b (m ++ [128] ++ List.replicate (zeros s.size) 0 ++ (len8 s.size).take k) sp)] ∧ M = [bbl b (m ++ [128] ++ List.replicate (zeros s.size) 0 ++ (len8 s.size).take k) sp 5]) 8 ⟨0, b, sp, by omega, rfl, by simp, by simp⟩ ?_))
  rintro r L M ⟨k, b3, sp3, hk, rfl, rfl, rfl⟩
  have hl8 : ((len8 s.size).take k).length = k := by simp [len8]; omega
  have hlen2 : (m ++ [128] ++ List.replicate (zeros s.size) (0 : BitVec 8) ++ (len8 s.size).take k).length = s.size + 1 + zeros s.size + k := by rw [List.length_append, hlen, hl8]
  refine .seq (.seq (.region ?_))
  refine .rd (.move rfl) rfl ?_
  refine .rd (.geq (b := 0) rfl rfl) rfl (.nil (.seq ?_))
  refine .cond rfl (fun hlt => .skip (.seq ?_)) fun hge => .exit (.thE (.thE (.exitHere (.seq ?_))))
  · have hlt : k < 8 := by have := of_decide_eq_true hlt; omega
    have hcnt : (7 - (k : Int)) = ((7 - k : Nat) : Int) := by omega
    rw [hcnt]
    refine .seq (.block (.region ?_))
    refine .rd (.move rfl) rfl ?_
    refine .rd (.move rfl) rfl ?_
    refine .rd (.move rfl) rfl ?_
    refine .rd (.mulN (a := 8) rfl rfl (by omega)) rfl ?_
    refine .rd (.shrN rfl rfl (by omega)) rfl ?_
    refine .rd (.conv8 rfl Tryd.underlying3 Tryd.underlying5) rfl ?_
    refine .buildSlice (C := [u8 (BitVec.ofNat 8 (8 * s.size / 2 ^ (8 * (7 - k))))]) (e := 5) rfl (fun w => by kernel_rfl) rfl fun b8 hb8 => ?_
    refine .appendB (l' := [BitVec.ofNat 8 (8 * s.size / 2 ^ (8 * (7 - k)))]) elem29 rfl rfl rfl 1 rfl (.ofBlock (j := 0) rfl rfl (by simp [Value.oneCell'])) (by rw [hlen2]; have := zeros_le s.size; simp; omega) fun b4 sp4 => ?_
    rw [List.append_assoc (m ++ [128] ++ List.replicate (zeros s.size) 0), ← len8_take _ _ hlt]
    refine .rd (.assign rfl) rfl (.nil (.inBlock (.seq (.region ?_))))
    refine .rd (.move rfl) rfl ?_
    refine .rd (.sub (b := 1) (c := 7 - ((k + 1 : Nat) : Int)) rfl rfl (by rw [wrap_i64 (by omega) (by omega)]; omega)) rfl ?_
    refine .rd (.assign rfl) rfl (.nil ?_)
    refine .dropM (M' := [bbl b4 (m ++ [128] ++ List.replicate (zeros s.size) 0 ++ (len8 s.size).take (k + 1)) sp4 5]) (List.sublist_cons_self _ _) ?_
    exact .round (8 - (k + 1)) (by omega) ⟨k + 1, b4, sp4, by omega, rfl, rfl, rfl⟩ ⟨rfl, rfl, rfl, trivial⟩
  have hk : k = 8 := by have := of_decide_eq_false hge; omega
  subst hk
  have hfin : m ++ [128] ++ List.replicate (zeros s.size) (0 : BitVec 8) ++ (len8 s.size).take 8 = pad m := by
    rw [pad, hm, List.take_of_length_le (by simp [len8])]
  rw [hfin]
  refine .seq (.region ?_)
  refine .rd (.move rfl) rfl ?_
  refine .rd (.assign rfl) rfl (.nil (.seq (.ret ?_)))
  exact .ret1 rfl rfl fun w' hp => ⟨b3, sp3, rfl, hp⟩

end Go.Proofs.YtmokinjncelmbaaDoorRRR
