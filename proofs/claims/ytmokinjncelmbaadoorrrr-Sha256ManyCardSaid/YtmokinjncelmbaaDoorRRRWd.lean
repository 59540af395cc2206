/- The walk of the reference's block: the slice holds the block's bytes. -/
import Derived.Test.YtmokinjncelmbaaDoorRRRWc
namespace Go.Proofs.YtmokinjncelmbaaDoorRRR
open Go.Sx Go.Sha

theorem not_xor (x : BitVec 32) : 4294967295#32 ^^^ x = ~~~ x := by
  rw [show (4294967295#32) = BitVec.allOnes 32 by decide, BitVec.allOnes_xor]

theorem list_get (s : St) (i : Nat) (hi : i < 8) : (s.list.map u32)[i]? = some (u32 (s.list.getD i 0)) := by
  match i, hi with
  | 0, _ | 1, _ | 2, _ | 3, _ | 4, _ | 5, _ | 6, _ | 7, _ => rfl
theorem list_add (s v : St) (i : Nat) (hi : i < 8) : (s.add v).list.getD i 0 = s.list.getD i 0 + v.list.getD i 0 := by
  match i, hi with
  | 0, _ | 1, _ | 2, _ | 3, _ | 4, _ | 5, _ | 6, _ | 7, _ => rfl
theorem list_take (s : St) (i : Nat) (hi : i < 8) : (s.list.take (i + 1)).map u32 = (s.list.take i).map u32 ++ [u32 (s.list.getD i 0)] := by
  match i, hi with
  | 0, _ | 1, _ | 2, _ | 3, _ | 4, _ | 5, _ | 6, _ | 7, _ => rfl
theorem list_take_length (s : St) (i : Nat) (hi : i ≤ 8) : ((s.list.take i).map u32).length = i := by
  have : s.list.length = 8 := rfl
  simp; omega

theorem splice_list (v v' : St) : splice (v.list.map u32) 0 (v'.list.map u32) = v'.list.map u32 := splice_all _ _ (by simp [St.list])
theorem splice_zeros8 (v' : St) : splice (List.replicate 8 (.int .u32 0)) 0 (v'.list.map u32) = v'.list.map u32 := splice_all _ _ (by simp [St.list])

set_option maxHeartbeats 1600000 in
theorem block (s : St) (bs : List (BitVec 8)) (w : World) (b o len cap : Nat) (hlen : bs.length = 64) (hl : 64 ≤ len) (hb : w.rangeAt b o (bs.map u8)) :
    Calls Tryd.prog 27 [.agg (s.list.map u32).toArray, .slice (some ⟨b, o, none⟩) len cap].toArray w fun e w' => e = .returned (.agg ((comp s bs).list.map u32).toArray) ∧ Hp w w' [] [] := by
  have hlw : ((sched bs 64).map u32).length = 64 := by simp [sched_length]
  refine enter0 Tryd.func27 rfl rfl ?_
  refine .seq (.region (.box (C := s.list.map u32) rfl rfl rfl fun b2 h2 => ?_))
  refine .alloc Tryd.zeroValue55 rfl (C := List.replicate 8 (.int .u32 0)) rfl fun b4 h4 => .nil (.seq ?_)
  refine .seq (.region ?_)
  refine .rd (.move rfl) rfl ?_
  refine .callv (.func rfl Tryd.func31 rfl (by decide)) (fun w' hp => schedule bs w' b o len cap hlen hl (fun i v hv => hp.old (by simp) (hb i v hv))) rfl ?_
  refine .callv (.func rfl Tryd.func32 rfl (by decide)) (fun w' _ => refK w') rfl ?_
  refine .alloc Tryd.zeroValue68 rfl (C := List.replicate 64 (.int .u32 0)) rfl fun b5 h5 => ?_
  refine .alloc Tryd.zeroValue68 rfl (C := List.replicate 64 (.int .u32 0)) rfl fun b6 h6 => ?_
  refine .stAgg rfl rfl (by rw [hlw]; exact Tryd.sizeOf68) one_u32 rfl 1 rfl (by rw [hlw]; decide) ?_
  rw [splice_all _ _ (by rw [hlw]; rfl)]
  refine .stAgg rfl rfl Tryd.sizeOf68 one_u32 rfl 0 rfl (by decide) (.nil (.seq ?_))
  rw [splice_all _ _ (by decide)]
  refine .seq (.region ?_)
  refine .rd (.ldAgg (m := 8) rfl Tryd.underlying55 rfl info55 3 rfl (Nat.le_refl 8)) rfl ?_
  refine .alloc Tryd.zeroValue55 rfl (C := List.replicate 8 (.int .u32 0)) rfl fun b7 h7 => ?_
  refine .stAgg (vs := s.list.map u32) rfl rfl Tryd.sizeOf55 one_u32 rfl 0 rfl (Nat.le_refl 8) (.nil (.seq ?_))
  rw [splice_zeros8]
  simp only [List.set_cons_succ, List.set_cons_zero]
  -- the rounds
  refine .seq (.seq (.region (.rd (.assign rfl) rfl (.nil (.seq ?_)))))
  refine .block (.weak (L' := [(8, i64 0), (7, .pointer (some ⟨b7, 0, none⟩)), (6, .pointer (some ⟨b6, 0, none⟩)), (5, .pointer (some ⟨b5, 0, none⟩)), (4, .pointer (some ⟨b4, 0, none⟩)), (2, .pointer (some ⟨b2, 0, none⟩))]) ⟨rfl, rfl, rfl, rfl, rfl, rfl, trivial⟩
    (.loop (fun m L M => ∃ t v, t ≤ 64 ∧ m = 64 - t ∧ v = rounds (sched bs 64) s t ∧ L = [(8, i64 t), (7, .pointer (some ⟨b7, 0, none⟩)), (6, .pointer (some ⟨b6, 0, none⟩)), (5, .pointer (some ⟨b5, 0, none⟩)), (4, .pointer (some ⟨b4, 0, none⟩)), (2, .pointer (some ⟨b2, 0, none⟩))] ∧
      M = [⟨b7, v.list.map u32, 55⟩, ⟨b6, K.map u32, 68⟩, ⟨b5, (sched bs 64).map u32, 68⟩, ⟨b4, List.replicate 8 (.int .u32 0), 55⟩, ⟨b2, s.list.map u32, 55⟩]) 64 ⟨0, s, by omega, rfl, rfl, rfl, rfl⟩ ?_))
  rintro m L M ⟨t, v, ht, rfl, hv, rfl, rfl⟩
  refine .seq (.seq (.region ?_))
  refine .rd (.move rfl) rfl ?_
  refine .rd (.lssN (b := 64) rfl rfl) rfl (.nil (.seq ?_))
  refine .cond rfl (fun hlt => .skip (.seq ?_)) fun hge => .exit (.thE (.thE (.exitHere (.seq ?_))))
  · have hlt : t < 64 := of_decide_eq_true hlt
    have gW : ((sched bs 64).map u32)[0 + t * 1]? = some (u32 ((sched bs 64).getD t 0)) := by
      have hl : t < (sched bs 64).length := by rw [sched_length]; exact hlt
      simp [List.getD, List.getElem?_eq_getElem hl]
    have gK : (K.map u32)[0 + t * 1]? = some (u32 (K.getD t 0)) := by
      have hl : t < K.length := hlt
      simp [List.getD, List.getElem?_eq_getElem hl]
    have hnot := not_xor v.e
    refine .seq (.block (.seq (.draw mixed (by kernel_rfl) ?_)))
    refine .rd (.idxA (k := 7) rfl rfl Tryd.underlying55 Tryd.sizeOf54 (by omega)) rfl ?_
    refine .rd (.ld rfl Tryd.isAgg54 0 rfl rfl) rfl ?_
    refine .rd (.idxA (k := 4) rfl rfl Tryd.underlying55 Tryd.sizeOf54 (by omega)) rfl ?_
    refine .rd (.ld rfl Tryd.isAgg54 0 rfl rfl) rfl ?_
    refine .callv (.func rfl Tryd.func33 rfl (by decide)) (fun w _ => turn 6 _ w (by decide) (by decide)) rfl ?_
    refine .rd (.idxA (k := 4) rfl rfl Tryd.underlying55 Tryd.sizeOf54 (by omega)) rfl ?_
    refine .rd (.ld rfl Tryd.isAgg54 0 rfl rfl) rfl ?_
    refine .callv (.func rfl Tryd.func33 rfl (by decide)) (fun w _ => turn 11 _ w (by decide) (by decide)) rfl ?_
    refine .rd (.xor32 rfl rfl) rfl ?_
    refine .rd (.idxA (k := 4) rfl rfl Tryd.underlying55 Tryd.sizeOf54 (by omega)) rfl ?_
    refine .rd (.ld rfl Tryd.isAgg54 0 rfl rfl) rfl ?_
    refine .callv (.func rfl Tryd.func33 rfl (by decide)) (fun w _ => turn 25 _ w (by decide) (by decide)) rfl ?_
    refine .rd (.xor32 rfl rfl) rfl ?_
    refine .rd (.add32 rfl rfl) rfl ?_
    refine .rd (.idxA (k := 4) rfl rfl Tryd.underlying55 Tryd.sizeOf54 (by omega)) rfl ?_
    refine .rd (.ld rfl Tryd.isAgg54 0 rfl rfl) rfl ?_
    refine .rd (.idxA (k := 5) rfl rfl Tryd.underlying55 Tryd.sizeOf54 (by omega)) rfl ?_
    refine .rd (.ld rfl Tryd.isAgg54 0 rfl rfl) rfl ?_
    refine .rd (.and32 rfl rfl) rfl ?_
    refine .rd (.idxA (k := 4) rfl rfl Tryd.underlying55 Tryd.sizeOf54 (by omega)) rfl ?_
    refine .rd (.ld rfl Tryd.isAgg54 0 rfl rfl) rfl ?_
    refine .rd (.xor32 (a := 4294967295#32) rfl rfl) rfl ?_
    refine .rd (.idxA (k := 6) rfl rfl Tryd.underlying55 Tryd.sizeOf54 (by omega)) rfl ?_
    refine .rd (.ld rfl Tryd.isAgg54 0 rfl rfl) rfl ?_
    refine .rd (.and32 rfl rfl) rfl ?_
    refine .rd (.xor32 rfl rfl) rfl ?_
    refine .rd (.add32 rfl rfl) rfl ?_
    refine .rd (.move rfl) rfl ?_
    refine .rd (.idxA rfl rfl Tryd.underlying68 Tryd.sizeOf54 (by omega)) rfl ?_
    refine .rd (.ld rfl Tryd.isAgg54 1 rfl gK) rfl ?_
    refine .rd (.add32 rfl rfl) rfl ?_
    refine .rd (.move rfl) rfl ?_
    refine .rd (.idxA rfl rfl Tryd.underlying68 Tryd.sizeOf54 (by omega)) rfl ?_
    refine .rd (.ld rfl Tryd.isAgg54 2 rfl gW) rfl ?_
    refine .rd ((Rd.add32 rfl rfl).cast (v' := u32 (p1 v (K.getD t 0) ((sched bs 64).getD t 0))) (congrArg u32 (by rw [hnot]; rfl))) rfl ?_
    refine .rd (.assign rfl) rfl (.done (.seq ?_))
    refine .seq (.draw mixed (by kernel_rfl) ?_)
    refine .rd (.idxA (k := 0) rfl rfl Tryd.underlying55 Tryd.sizeOf54 (by omega)) rfl ?_
    refine .rd (.ld rfl Tryd.isAgg54 0 rfl rfl) rfl ?_
    refine .callv (.func rfl Tryd.func33 rfl (by decide)) (fun w _ => turn 2 _ w (by decide) (by decide)) rfl ?_
    refine .rd (.idxA (k := 0) rfl rfl Tryd.underlying55 Tryd.sizeOf54 (by omega)) rfl ?_
    refine .rd (.ld rfl Tryd.isAgg54 0 rfl rfl) rfl ?_
    refine .callv (.func rfl Tryd.func33 rfl (by decide)) (fun w _ => turn 13 _ w (by decide) (by decide)) rfl ?_
    refine .rd (.xor32 rfl rfl) rfl ?_
    refine .rd (.idxA (k := 0) rfl rfl Tryd.underlying55 Tryd.sizeOf54 (by omega)) rfl ?_
    refine .rd (.ld rfl Tryd.isAgg54 0 rfl rfl) rfl ?_
    refine .callv (.func rfl Tryd.func33 rfl (by decide)) (fun w _ => turn 22 _ w (by decide) (by decide)) rfl ?_
    refine .rd (.xor32 rfl rfl) rfl ?_
    refine .rd (.idxA (k := 0) rfl rfl Tryd.underlying55 Tryd.sizeOf54 (by omega)) rfl ?_
    refine .rd (.ld rfl Tryd.isAgg54 0 rfl rfl) rfl ?_
    refine .rd (.idxA (k := 1) rfl rfl Tryd.underlying55 Tryd.sizeOf54 (by omega)) rfl ?_
    refine .rd (.ld rfl Tryd.isAgg54 0 rfl rfl) rfl ?_
    refine .rd (.and32 rfl rfl) rfl ?_
    refine .rd (.idxA (k := 0) rfl rfl Tryd.underlying55 Tryd.sizeOf54 (by omega)) rfl ?_
    refine .rd (.ld rfl Tryd.isAgg54 0 rfl rfl) rfl ?_
    refine .rd (.idxA (k := 2) rfl rfl Tryd.underlying55 Tryd.sizeOf54 (by omega)) rfl ?_
    refine .rd (.ld rfl Tryd.isAgg54 0 rfl rfl) rfl ?_
    refine .rd (.and32 rfl rfl) rfl ?_
    refine .rd (.xor32 rfl rfl) rfl ?_
    refine .rd (.idxA (k := 1) rfl rfl Tryd.underlying55 Tryd.sizeOf54 (by omega)) rfl ?_
    refine .rd (.ld rfl Tryd.isAgg54 0 rfl rfl) rfl ?_
    refine .rd (.idxA (k := 2) rfl rfl Tryd.underlying55 Tryd.sizeOf54 (by omega)) rfl ?_
    refine .rd (.ld rfl Tryd.isAgg54 0 rfl rfl) rfl ?_
    refine .rd (.and32 rfl rfl) rfl ?_
    refine .rd (.xor32 rfl rfl) rfl ?_
    refine .rd ((Rd.add32 rfl rfl).cast (v' := u32 (p2 v)) rfl) rfl ?_
    refine .rd (.assign rfl) rfl (.done (.seq (.region ?_)))
    refine .rd (.move rfl) rfl ?_
    refine .rd (.move rfl) rfl ?_
    refine .rd (.add32 rfl rfl) rfl ?_
    refine .rd (.idxA (k := 0) rfl rfl Tryd.underlying55 Tryd.sizeOf54 (by omega)) rfl ?_
    refine .rd (.ld rfl Tryd.isAgg54 0 rfl rfl) rfl ?_
    refine .rd (.idxA (k := 1) rfl rfl Tryd.underlying55 Tryd.sizeOf54 (by omega)) rfl ?_
    refine .rd (.ld rfl Tryd.isAgg54 0 rfl rfl) rfl ?_
    refine .rd (.idxA (k := 2) rfl rfl Tryd.underlying55 Tryd.sizeOf54 (by omega)) rfl ?_
    refine .rd (.ld rfl Tryd.isAgg54 0 rfl rfl) rfl ?_
    refine .rd (.idxA (k := 3) rfl rfl Tryd.underlying55 Tryd.sizeOf54 (by omega)) rfl ?_
    refine .rd (.ld rfl Tryd.isAgg54 0 rfl rfl) rfl ?_
    refine .rd (.move rfl) rfl ?_
    refine .rd (.add32 rfl rfl) rfl ?_
    refine .rd (.idxA (k := 4) rfl rfl Tryd.underlying55 Tryd.sizeOf54 (by omega)) rfl ?_
    refine .rd (.ld rfl Tryd.isAgg54 0 rfl rfl) rfl ?_
    refine .rd (.idxA (k := 5) rfl rfl Tryd.underlying55 Tryd.sizeOf54 (by omega)) rfl ?_
    refine .rd (.ld rfl Tryd.isAgg54 0 rfl rfl) rfl ?_
    refine .rd (.idxA (k := 6) rfl rfl Tryd.underlying55 Tryd.sizeOf54 (by omega)) rfl ?_
    refine .rd (.ld rfl Tryd.isAgg54 0 rfl rfl) rfl ?_
    refine .rd (.build (v := .agg ((Sha.step v (K.getD t 0) ((sched bs 64).getD t 0)).list.map u32).toArray) rfl (fun w => by kernel_rfl)) rfl ?_
    refine .stAgg (vs := (Sha.step v (K.getD t 0) ((sched bs 64).getD t 0)).list.map u32) rfl rfl Tryd.sizeOf55 one_u32 rfl 0 rfl (Nat.le_refl 8) (.nil (.inBlock (.seq (.region ?_))))
    rw [splice_list]
    refine .rd (.move rfl) rfl ?_
    refine .rd (.addN (b := 1) rfl rfl (by omega)) rfl ?_
    refine .rd (.assign rfl) rfl (.nil (.round (64 - (t + 1)) (by omega) ⟨t + 1, Sha.step v (K.getD t 0) ((sched bs 64).getD t 0), by omega, rfl, ?_, rfl, rfl⟩ ⟨rfl, rfl, rfl, rfl, rfl, rfl, trivial⟩))
    rw [hv, rounds]
  have ht : t = 64 := by have := of_decide_eq_false hge; omega
  subst ht
  -- the sum
  have hs8 : (s.list.map u32).length = 8 := rfl
  refine .seq (.seq (.region (.rd (.assign rfl) rfl (.nil (.seq ?_)))))
  refine .block (.weak (L' := [(11, i64 0), (7, .pointer (some ⟨b7, 0, none⟩)), (4, .pointer (some ⟨b4, 0, none⟩)), (2, .pointer (some ⟨b2, 0, none⟩))]) ⟨rfl, rfl, rfl, rfl, trivial⟩
    (.loop (fun m L M => ∃ i, i ≤ 8 ∧ m = 8 - i ∧ L = [(11, i64 i), (7, .pointer (some ⟨b7, 0, none⟩)), (4, .pointer (some ⟨b4, 0, none⟩)), (2, .pointer (some ⟨b2, 0, none⟩))] ∧
      M = [⟨b7, v.list.map u32, 55⟩, ⟨b6, K.map u32, 68⟩, ⟨b5, (sched bs 64).map u32, 68⟩, ⟨b4, List.replicate 8 (.int .u32 0), 55⟩, ⟨b2, splice (s.list.map u32) 0 (((s.add v).list.take i).map u32), 55⟩]) 8 ⟨0, by omega, rfl, rfl, rfl⟩ ?_))
  rintro m L M ⟨i, hi, rfl, rfl, rfl⟩
  refine .seq (.seq (.region ?_))
  refine .rd (.move rfl) rfl ?_
  refine .rd (.lssN (b := 8) rfl rfl) rfl (.nil (.seq ?_))
  refine .cond rfl (fun hlt => .skip (.seq ?_)) fun hge => .exit (.thE (.thE (.exitHere (.seq ?_))))
  · have hlt : i < 8 := of_decide_eq_true hlt
    have hx : (v.list.map u32)[0 + i * 1]? = some (u32 (v.list.getD i 0)) := by rw [Nat.zero_add, Nat.mul_one]; exact list_get v i hlt
    have hg : (splice (s.list.map u32) 0 (((s.add v).list.take i).map u32))[0 + i * 1]? = some (u32 (s.list.getD i 0)) := by
      rw [splice_get _ _ _ _ (by rw [list_take_length _ i hi]; omega), if_neg (by rw [list_take_length _ i hi]; omega), Nat.zero_add, Nat.mul_one]
      exact list_get s i hlt
    refine .seq (.block (.drawTail 9 mixed (by kernel_rfl) fun w' hp => ?_))
    refine .rd hp (.move rfl) rfl ?_
    refine .rd hp (.move rfl) rfl ?_
    refine .rd hp (.idxA rfl rfl Tryd.underlying55 Tryd.sizeOf54 (by omega)) rfl ?_
    refine .rd hp (.ld rfl Tryd.isAgg54 4 rfl hg) rfl ?_
    refine .rd hp (.move rfl) rfl ?_
    refine .rd hp (.idxA rfl rfl Tryd.underlying55 Tryd.sizeOf54 (by omega)) rfl ?_
    refine .rd hp (.ld rfl Tryd.isAgg54 0 rfl hx) rfl ?_
    refine .rd hp ((Rd.add32 rfl rfl).cast (v' := u32 ((s.add v).list.getD i 0)) (congrArg u32 (list_add s v i hlt).symm)) rfl ?_
    refine .rd hp (.idxA rfl rfl Tryd.underlying55 Tryd.sizeOf54 (by omega)) rfl (.done hp ?_)
    refine .st rfl rfl Tryd.sizeOf54 rfl rfl rfl 4 rfl (by rw [splice_length]; omega) (.nil (.inBlock (.seq (.region ?_))))
    refine .rd (.move rfl) rfl ?_
    refine .rd (.addN (b := 1) rfl rfl (by omega)) rfl ?_
    refine .rd (.assign rfl) rfl (.nil (.round (8 - (i + 1)) (by omega) ⟨i + 1, by omega, rfl, rfl, ?_⟩ ⟨rfl, rfl, rfl, rfl, trivial⟩))
    rw [list_take _ i hlt, splice_snoc, list_take_length _ i hi, Nat.mul_one]
    rfl
  have hi : i = 8 := by have := of_decide_eq_false hge; omega
  subst hi
  have hfin : splice (s.list.map u32) 0 (((s.add v).list.take 8).map u32) = (comp s bs).list.map u32 := by
    rw [show (s.add v).list.take 8 = (s.add v).list from rfl, splice_list, hv]; rfl
  rw [hfin]
  refine .seq (.region ?_)
  refine .rd (.ldAgg (m := 8) rfl Tryd.underlying55 rfl info55 4 rfl (by exact Nat.le_refl 8)) rfl ?_
  refine .stAgg (vs := (comp s bs).list.map u32) rfl rfl Tryd.sizeOf55 one_u32 rfl 3 rfl (by exact Nat.le_refl 8) (.nil (.seq (.ret ?_)))
  rw [splice_zeros8]
  exact .retCell rfl rfl (j := 3) rfl Tryd.underlying55 rfl info55 fun w' hp => ⟨rfl, hp.nil⟩

end Go.Proofs.YtmokinjncelmbaaDoorRRR
