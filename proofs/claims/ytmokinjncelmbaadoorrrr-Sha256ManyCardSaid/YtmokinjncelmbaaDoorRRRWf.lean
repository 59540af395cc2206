/- The walk of the reference's Sum: a text of at most 2^40 bytes. -/
import Derived.Test.YtmokinjncelmbaaDoorRRRWe
namespace Go.Proofs.YtmokinjncelmbaaDoorRRR
open Go.Sx Go.Sha

/-- 32 bytes, of which 'i' are written. -/
def Bw (l : List (BitVec 8)) (i : Nat) : List Value := (l.take i).map u8 ++ List.replicate (32 - i) (.int .u8 0)
theorem Bw_length (l : List (BitVec 8)) (i : Nat) (hl : l.length = 32) (h : i ≤ 32) : (Bw l i).length = 32 := by simp [Bw]; omega
theorem Bw_set (l : List (BitVec 8)) (i : Nat) (hl : l.length = 32) (h : i < 32) : (Bw l i).set i (u8 (l.getD i 0)) = Bw l (i + 1) := by
  have h1 : ((l.take i).map u8).length = i := by simp; omega
  rw [Bw, List.set_append_right _ _ (by omega), h1, Nat.sub_self]
  obtain ⟨m, hm⟩ : ∃ m, 32 - i = m + 1 := ⟨31 - i, by omega⟩
  rw [hm, List.replicate_succ, List.set_cons_zero, Bw, show 32 - (i + 1) = m by omega, List.take_succ_eq_append_getElem (by omega)]
  rw [List.map_append, List.append_assoc]
  simp [-List.map_take, List.getD, List.getElem?_eq_getElem (show i < l.length by omega)]
theorem Bw_full (l : List (BitVec 8)) (hl : l.length = 32) : Bw l 32 = l.map u8 := by simp [Bw, List.take_of_length_le (Nat.le_of_eq hl)]

theorem splice_zeros32 (l : List (BitVec 8)) (hl : l.length = 32) : splice (List.replicate 32 (.int .u8 0)) 0 (l.map u8) = l.map u8 := splice_all _ _ (by simp [hl])
theorem out_length (s : St) : (out s).length = 32 := rfl
theorem out_get (s : St) (i : Nat) (hi : i < 32) : (out s).getD i 0 = BitVec.ofNat 8 ((s.list.getD (i / 4) 0) >>> (24 - 8 * (i % 4))).toNat := by
  rw [BitVec.ofNat_toNat]
  match i, hi with
  | 0, _ | 1, _ | 2, _ | 4, _ | 5, _ | 6, _ | 8, _ | 9, _ | 10, _ | 12, _ | 13, _ | 14, _ | 16, _ | 17, _ | 18, _ | 20, _ | 21, _ | 22, _ | 24, _ | 25, _ | 26, _ | 28, _ | 29, _ | 30, _ => rfl
  | 3, _ | 7, _ | 11, _ | 15, _ | 19, _ | 23, _ | 27, _ | 31, _ => simp [out, bytesOf, St.list]
  | n + 32, h => exact absurd h (by omega)

theorem pad_blocks (m : List (BitVec 8)) : (pad m).length = 64 * ((pad m).length / 64) := by
  have := pad_mod m
  omega

theorem refSum (s : ByteArray) (w : World) (hs : s.size ≤ 1099511627776) :
    Calls Tryd.prog 12 [.string s].toArray w fun e w' => e = .returned (.agg ((sha (bsOf s)).map u8).toArray) ∧ Hp w w' [] [] := by
  have hpl : (pad (bsOf s)).length ≤ s.size + 73 := by rw [pad_length, bsOf_length]; have := zeros_le s.size; omega
  have hpb := pad_blocks (bsOf s)
  have hsha : sha (bsOf s) = out (run H0 (pad (bsOf s)) ((pad (bsOf s)).length / 64)) := rfl
  rw [hsha]
  clear hsha
  refine enter0 Tryd.func12 rfl rfl ?_
  refine .seq (.region (.alloc Tryd.zeroValue24 rfl (C := List.replicate 32 (.int .u8 0)) rfl fun b2 h2 => .nil (.seq ?_)))
  refine .seq (.region ?_)
  refine .rd (.build (v := .agg (H0.list.map u32).toArray) rfl (fun w => by kernel_rfl)) rfl ?_
  refine .alloc Tryd.zeroValue55 rfl (C := List.replicate 8 (.int .u32 0)) rfl fun b3 h3 => ?_
  refine .stAgg (vs := H0.list.map u32) rfl rfl Tryd.sizeOf55 one_u32 rfl 0 rfl (Nat.le_refl 8) (.nil (.seq ?_))
  rw [splice_zeros8]
  refine .seq (.region ?_)
  refine .rd (.move rfl) rfl ?_
  refine .callNew (α := Nat × List Value) (v := fun x => bsl x.1 (pad (bsOf s)) x.2) (N := fun x => [bbl x.1 (pad (bsOf s)) x.2 5]) (.func rfl Tryd.func13 rfl (by decide)) (fun w' _ => (Pad s w' hs).mono fun e w'' ⟨b, sp, h1, h2⟩ => ⟨(b, sp), h1, h2⟩) rfl fun ⟨bp, sp⟩ => ?_
  generalize hm : pad (bsOf s) = m at *
  clear hm
  refine .rd (.assign rfl) rfl (.nil (.seq ?_))
  refine .seq (.seq (.region (.rd (.assign rfl) rfl (.nil (.seq ?_)))))
  refine .block (.weak (L' := [(5, i64 0), (4, bsl bp m sp), (3, .pointer (some ⟨b3, 0, none⟩)), (2, .pointer (some ⟨b2, 0, none⟩))]) ⟨rfl, rfl, rfl, rfl, trivial⟩
    (.loop (fun r L M => ∃ j, j ≤ m.length / 64 ∧ r = m.length / 64 - j ∧ L = [(5, i64 (64 * j)), (4, bsl bp m sp), (3, .pointer (some ⟨b3, 0, none⟩)), (2, .pointer (some ⟨b2, 0, none⟩))] ∧ M = [bbl bp m sp 5, ⟨b3, (run H0 m j).list.map u32, 55⟩, ⟨b2, List.replicate 32 (.int .u8 0), 24⟩]) (m.length / 64) ⟨0, by omega, rfl, rfl, rfl⟩ ?_))
  rintro r L M ⟨j, hj, rfl, rfl, rfl⟩
  refine .seq (.seq (.region ?_))
  refine .rd (.move rfl) rfl ?_
  refine .rd (.move rfl) rfl ?_
  refine .rd (.lenS rfl Tryd.underlying29) rfl ?_
  refine .rd (.lssN rfl rfl) rfl (.nil (.seq ?_))
  refine .cond rfl (fun hlt => .skip (.seq ?_)) fun hge => .exit (.thE (.thE (.exitHere (.seq ?_))))
  · have hlt : j < m.length / 64 := by have := of_decide_eq_true hlt; omega
    have hcl : ((m.drop (64 * j)).take 64).length = 64 := by simp; omega
    refine .seq (.block (.drawTail 6 mixed (by kernel_rfl) fun w' hp => ?_))
    refine .rd hp (.ldAgg (m := 8) rfl Tryd.underlying55 rfl info55 1 rfl (Nat.le_refl 8)) rfl ?_
    refine .rd hp (.move rfl) rfl ?_
    refine .rd hp (.move rfl) rfl ?_
    refine .rd hp (.move rfl) rfl ?_
    refine .rd hp (.addN (b := 64) rfl rfl (by omega)) rfl ?_
    refine .rd hp (.slSlice rfl rfl rfl Tryd.underlying29 Tryd.sizeOf5 (by omega) (by simp; omega)) rfl (.done hp ?_)
    refine .callv (.func (vs := [.agg ((run H0 m j).list.map u32).toArray, .slice (some ⟨bp, 0 + 64 * j * 1, none⟩) (64 * j + 64 - 64 * j) ((m.map u8 ++ sp).length - 64 * j)]) rfl Tryd.func27 rfl (by decide)) (fun w' hp => block (run H0 m j) ((m.drop (64 * j)).take 64) w' bp _ _ _ hcl (by omega) (hp.range (j := 0) rfl fun i v hv => ?_)) rfl ?_
    · have hi : i < 64 := by
        have := (List.getElem?_eq_some_iff.1 hv).1
        rw [List.length_map, hcl] at this
        exact this
      rw [List.getElem?_append_left (by simp; omega)]
      simp only [List.getElem?_map, List.getElem?_take, List.getElem?_drop, hi, if_true] at hv ⊢
      rw [show 0 + 64 * j * 1 + i = 64 * j + i by omega]
      exact hv
    refine .stAgg (vs := (comp (run H0 m j) ((m.drop (64 * j)).take 64)).list.map u32) rfl rfl Tryd.sizeOf55 one_u32 rfl 1 rfl (Nat.le_refl 8) (.nil (.inBlock (.seq (.region ?_))))
    rw [splice_list]
    refine .rd (.move rfl) rfl ?_
    refine .rd (.addN (b := 64) rfl rfl (by omega)) rfl ?_
    refine .rd (.assign rfl) rfl (.nil (.round (m.length / 64 - (j + 1)) (by omega) ⟨j + 1, by omega, rfl, rfl, rfl⟩ ⟨rfl, rfl, rfl, rfl, trivial⟩))
  have hj : j = m.length / 64 := by have := of_decide_eq_false hge; omega
  rw [← hj]
  clear hge
  generalize run H0 m j = st
  -- the bytes
  refine .seq (.region (.alloc Tryd.zeroValue24 rfl (C := Bw (out st) 0) rfl fun b6 h6 => .nil (.seq ?_)))
  refine .seq (.seq (.region (.rd (.assign rfl) rfl (.nil (.seq ?_)))))
  refine .block (.weak (L' := [(7, i64 0), (6, .pointer (some ⟨b6, 0, none⟩)), (3, .pointer (some ⟨b3, 0, none⟩)), (2, .pointer (some ⟨b2, 0, none⟩))]) ⟨rfl, rfl, rfl, rfl, trivial⟩
    (.loop (fun r L M => ∃ i, i ≤ 32 ∧ r = 32 - i ∧ L = [(7, i64 i), (6, .pointer (some ⟨b6, 0, none⟩)), (3, .pointer (some ⟨b3, 0, none⟩)), (2, .pointer (some ⟨b2, 0, none⟩))] ∧ M = [⟨b6, Bw (out st) i, 24⟩, bbl bp m sp 5, ⟨b3, st.list.map u32, 55⟩, ⟨b2, List.replicate 32 (.int .u8 0), 24⟩]) 32 ⟨0, by omega, rfl, rfl, rfl⟩ ?_))
  rintro r L M ⟨i, hi, rfl, rfl, rfl⟩
  refine .seq (.seq (.region ?_))
  refine .rd (.move rfl) rfl ?_
  refine .rd (.lssN (b := 32) rfl rfl) rfl (.nil (.seq ?_))
  refine .cond rfl (fun hlt => .skip (.seq ?_)) fun hge => .exit (.thE (.thE (.exitHere (.seq ?_))))
  · have hlt : i < 32 := of_decide_eq_true hlt
    refine .seq (.block (.region ?_))
    refine .rd (.move rfl) rfl ?_
    refine .rd (.move rfl) rfl ?_
    refine .rd (.quoN (b := 4) rfl rfl (by omega) (by omega)) rfl ?_
    refine .rd (.idxA rfl rfl Tryd.underlying55 Tryd.sizeOf54 (by omega)) rfl ?_
    refine .rd (.ld (v := u32 (st.list.getD (i / 4) 0)) rfl Tryd.isAgg54 2 rfl (by rw [Nat.zero_add, Nat.mul_one]; exact list_get st (i / 4) (by omega))) rfl ?_
    refine .rd (.move rfl) rfl ?_
    refine .rd (.remN (b := 4) rfl rfl (by omega)) rfl ?_
    refine .rd (.mulN (a := 8) rfl rfl (by omega)) rfl ?_
    refine .rd (.subN (a := 24) rfl rfl (by omega) (by omega)) rfl ?_
    refine .rd (.shr32 rfl rfl (by omega)) rfl ?_
    refine .rd ((Rd.conv8 rfl Tryd.underlying54 Tryd.underlying5).cast (v' := u8 ((out st).getD i 0)) (congrArg u8 (out_get st i hlt).symm)) rfl ?_
    refine .rd (.idxA rfl rfl Tryd.underlying24 Tryd.sizeOf5 (by omega)) rfl ?_
    refine .st rfl rfl Tryd.sizeOf5 rfl rfl rfl 0 rfl (by rw [Bw_length _ _ (out_length st) hi]; omega) (.nil (.inBlock (.seq (.region ?_))))
    refine .rd (.move rfl) rfl ?_
    refine .rd (.addN (b := 1) rfl rfl (by omega)) rfl ?_
    refine .rd (.assign rfl) rfl (.nil (.round (32 - (i + 1)) (by omega) ⟨i + 1, by omega, rfl, rfl, ?_⟩ ⟨rfl, rfl, rfl, rfl, trivial⟩))
    rw [Nat.zero_add, Nat.mul_one, ← Bw_set _ _ (out_length st) hlt]
    rfl
  have hi : i = 32 := by have := of_decide_eq_false hge; omega
  subst hi
  rw [Bw_full _ (out_length st)]
  refine .seq (.region ?_)
  refine .rd (.ldAgg (m := 32) rfl Tryd.underlying24 rfl info24 0 rfl (Nat.le_refl 32)) rfl ?_
  refine .stAgg (vs := (out st).map u8) rfl rfl Tryd.sizeOf24 one_u8 rfl 3 rfl (Nat.le_refl 32) (.nil (.seq (.ret ?_)))
  rw [splice_zeros32 _ (out_length st)]
  exact .retCell rfl rfl (j := 3) rfl Tryd.underlying24 rfl info24 fun w' hp => ⟨rfl, hp.nil⟩

end Go.Proofs.YtmokinjncelmbaaDoorRRR
