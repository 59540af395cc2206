/- The walk of (*Hash).Sum: a Hash that was given at most 2^41 bytes, the tables in place. -/
import Derived.Test.YtmokinjncelmbaaDoorRRRWg
namespace Go.Proofs.YtmokinjncelmbaaDoorRRR
open Go.Sx Go.Sha

theorem calm_body {P : Program} {fn : Func} {R : Ending → World → Prop} : Sx.Calm (bodyPost P fn R) := fun d _ _ _ _ h => by cases d <;> exact h
theorem calm_then {K : Act → World → Prop} {Q : Exit → Act → World → Prop} (h : Sx.Calm Q) : Sx.Calm (Exit.then K Q) := h
theorem calm_block {id : Nat} {Q : Exit → Act → World → Prop} (h : Sx.Calm Q) : Sx.Calm (Exit.inBlock id Q) := h

/-- The last block: the length is written from its end. -/
def Bl (B : List (BitVec 8)) (n k : Nat) : List (BitVec 8) := B.take (64 - k) ++ (len8 n).drop (8 - k)
theorem Bl_length (B : List (BitVec 8)) (n k : Nat) (hB : B.length = 64) (hk : k ≤ 8) : (Bl B n k).length = 64 := by simp [Bl, len8_length, hB]; omega
theorem Bl_zero (B : List (BitVec 8)) (n : Nat) (hB : B.length = 64) : Bl B n 0 = B := by simp [Bl, List.drop_of_length_le (Nat.le_of_eq (len8_length n)), List.take_of_length_le (Nat.le_of_eq hB)]
theorem Bl_full (B : List (BitVec 8)) (n : Nat) : Bl B n 8 = B.take 56 ++ len8 n := by simp [Bl]
theorem Bl_set (B : List (BitVec 8)) (n k : Nat) (hB : B.length = 64) (hk : k < 8) : ((Bl B n k).map u8).set (63 - k) (u8 (BitVec.ofNat 8 (8 * n / 2 ^ (8 * k)))) = (Bl B n (k + 1)).map u8 := by
  have h8 : (len8 n).length = 8 := len8_length n
  have hx : (len8 n).drop (7 - k) = BitVec.ofNat 8 (8 * n / 2 ^ (8 * k)) :: (len8 n).drop (8 - k) := by
    rw [List.drop_eq_getElem_cons (by omega), show 7 - k + 1 = 8 - k by omega]
    congr 1
    simp only [len8, List.getElem_map, List.getElem_range]
    rw [show 7 - (7 - k) = k by omega]
  have hl := Bl_length B n k hB (by omega)
  rw [← List.map_set, List.set_eq_take_append_cons_drop, if_pos (by omega)]
  congr 1
  rw [Bl, List.take_append_of_le_length (by simp; omega), List.take_take, show min (63 - k) (64 - k) = 63 - k by omega, List.drop_append, List.drop_of_length_le (by simp; omega), List.nil_append]
  rw [show (63 - k + 1 - (B.take (64 - k)).length) = 0 by simp; omega, List.drop_zero, Bl, show 64 - (k + 1) = 63 - k by omega, show 8 - (k + 1) = 7 - k by omega, hx]

theorem len_byte (n k : Nat) (hn : n ≤ 2199023255552) : BitVec.ofNat 8 ((BitVec.ofNat 64 (8 * n)) >>> (8 * k)).toNat = BitVec.ofNat 8 (8 * n / 2 ^ (8 * k)) := by
  rw [BitVec.toNat_ushiftRight, BitVec.toNat_ofNat, Nat.mod_eq_of_lt (by omega), Nat.shiftRight_eq_div_pow]

theorem zeroV5 : ∀ w, (zeroValue 5).run Tryd.prog w = .ok (.int .u8 0) w := Tryd.zeroValue5

theorem first_block (tl rest : List (BitVec 8)) (k : Nat) (hk : k < 64) (hr : rest.length = 64) (ht : rest.take k = tl) :
    splice ((rest.map u8).set k (u8 128)) (k + 1) (List.replicate (64 - (k + 1)) (.int .u8 0)) = (tl ++ [128] ++ List.replicate (63 - k) 0).map u8 := by
  rw [splice_eq _ _ _ (by simp; omega), ← List.map_set, List.length_replicate, List.drop_of_length_le (by simp; omega), List.append_nil, ← List.map_take, List.set_eq_take_append_cons_drop, if_pos (by omega)]
  rw [List.take_append, List.take_of_length_le (by simp; omega), show k + 1 - (rest.take k).length = 1 by simp; omega, ht]
  simp [show 64 - (k + 1) = 63 - k by omega]

theorem out_byte (st : St) (i k : Nat) (hi : i < 8) (hk : k < 4) : BitVec.ofNat 8 ((st.list.getD i 0) >>> (24 - 8 * k)).toNat = (out st).getD (4 * i + k) 0 := by
  rw [out_get _ _ (by omega), show (4 * i + k) / 4 = i by omega, show (4 * i + k) % 4 = k by omega]

theorem all1 {p : Nat → Prop} {a : Nat} (h : p a) : ∀ i ∈ [a], p i := fun i hi => by simp at hi; subst hi; exact h
theorem all2 {p : Nat → Prop} {a b : Nat} (h : p a) (k : p b) : ∀ i ∈ [a, b], p i := fun i hi => by
  simp at hi
  rcases hi with rfl | rfl
  · exact h
  · exact k

theorem hsum (m : List (BitVec 8)) (w : World) (b : Nat) (C : List Value) (hC : HashC m C) (hb : w.rangeAt b 0 C) (h0 : w.rangeAt 0 0 (H0.list.map u32)) (hK : w.rangeAt 1 0 (K.map u32)) (hl : m.length ≤ 2199023255552) :
    Calls Tryd.prog 20 [.pointer (some ⟨b, 0, none⟩)].toArray w fun e w' => e = .returned (.agg ((sha m).map u8).toArray) ∧ Hp w w' [] [] := by
  obtain ⟨st, rest, hr, rfl, hg⟩ := hC
  have b1 : 1 < w.heap.size := World.block_lt_of_cell? w ⟨1, 0, none⟩ (u := u32 (K.getD 0 0)) (hK 0 _ rfl)
  have hat : m.length % 64 < 64 := Nat.mod_lt _ (by omega)
  have rlen : w.cell? ⟨b, 0, none⟩ = some (i64 m.length) := hb 0 _ rfl
  have rstate : w.rangeAt b 1 (st.list.map u32) := fun i v hv => by
    have := hb (1 + i) v (by rw [mk, Nat.add_comm, List.getElem?_cons_succ, List.getElem?_append_left (List.getElem?_eq_some_iff.1 hv).1]; exact hv)
    rwa [Nat.zero_add] at this
  have rrest : w.rangeAt b 9 (rest.map u8) := fun i v hv => by
    have := hb (9 + i) v (by rw [mk_rest]; exact hv)
    rwa [Nat.zero_add] at this
  refine enter0 Tryd.func20 rfl rfl ?_
  refine .seq (.region (.alloc Tryd.zeroValue25 rfl (C := List.replicate 32 (.int .u8 0)) rfl fun b2 h2 => .nil (.seq ?_)))
  refine .seq (.seq (.region ?_))
  refine .rd (.move rfl) rfl ?_
  refine .rd (.ptrNil rfl rfl Tryd.underlying37) rfl (.nil (.seq ?_))
  refine .no rfl rfl (.skip (.seq ?_))
  refine .mid (fun L M => ∃ b3 b4, w.heap.size ≤ b3 ∧ w.heap.size ≤ b4 ∧ L = [(5, i64 (m.length % 64)), (4, .pointer (some ⟨b4, 0, none⟩)), (3, .pointer (some ⟨b3, 0, none⟩)), (2, .pointer (some ⟨b2, 0, none⟩)), (0, .pointer (some ⟨b, 0, none⟩))] ∧ M = [⟨b4, rest.map u8, 56⟩, ⟨b3, st.list.map u32, 55⟩, ⟨b2, List.replicate 32 (.int .u8 0), 25⟩]) ?_ ?_
  · have calm : ∀ {K1 : Act → World → Prop} {R : Ending → World → Prop}, Sx.Calm (Exit.then K1 (bodyPost Tryd.prog Tryd.f20 R)) := calm_then calm_body
    refine .held mixed ?_
    refine .take 0 rfl (by kernel_rfl) (by kernel_rfl) (by kernel_rfl) calm (List.Sublist.refl _) (.move rfl) rfl ?_
    refine .take 1 rfl (by kernel_rfl) (by kernel_rfl) (by kernel_rfl) calm (List.Sublist.refl _) (.nil rfl) rfl ?_
    refine .take 2 rfl (by kernel_rfl) (by kernel_rfl) (by kernel_rfl) calm (List.Sublist.refl _) (.fieldA rfl Tryd.underlying58 rfl Tryd.sizeOf55) rfl ?_
    refine .take 3 rfl (by kernel_rfl) (by kernel_rfl) (by kernel_rfl) calm (List.Sublist.refl _) (.ldAggOld (C := st.list.map u32) rfl Tryd.underlying55 rfl info55 (by simp) rstate) rfl ?_
    refine .take 4 rfl (by kernel_rfl) (by kernel_rfl) (by kernel_rfl) calm (List.Sublist.refl _) (.move rfl) rfl ?_
    refine .take 5 rfl (by kernel_rfl) (by kernel_rfl) (by kernel_rfl) calm (List.Sublist.refl _) (.nil rfl) rfl ?_
    refine .take 6 rfl (by kernel_rfl) (by kernel_rfl) (by kernel_rfl) calm (List.Sublist.refl _) (.fieldA rfl Tryd.underlying58 rfl Tryd.sizeOf56) rfl ?_
    refine .take 7 rfl (by kernel_rfl) (by kernel_rfl) (by kernel_rfl) calm (List.Sublist.refl _) (.ldAggOld (C := rest.map u8) rfl Tryd.underlying56 rfl (by rw [info56, List.length_map, hr]) (by simp) rrest) rfl ?_
    refine .take 8 rfl (by kernel_rfl) (by kernel_rfl) (by kernel_rfl) calm (List.Sublist.refl _) (.move rfl) rfl ?_
    refine .take 9 rfl (by kernel_rfl) (by kernel_rfl) (by kernel_rfl) calm (List.Sublist.refl _) (.nil rfl) rfl ?_
    refine .take 10 rfl (by kernel_rfl) (by kernel_rfl) (by kernel_rfl) calm (List.Sublist.refl _) (.fieldA rfl Tryd.underlying58 rfl Tryd.sizeOf3) rfl ?_
    refine .take 11 rfl (by kernel_rfl) (by kernel_rfl) (by kernel_rfl) calm (List.Sublist.refl _) (.ldOld rfl Tryd.isAgg3 (by simp) rlen) rfl ?_
    refine .take 12 rfl (by kernel_rfl) (by kernel_rfl) (by kernel_rfl) calm (List.Sublist.refl _) (.remN (b := 64) rfl rfl (by omega)) rfl ?_
    have sp8 : splice (List.replicate 8 (.int .u32 0)) 0 (st.list.map u32) = st.list.map u32 := splice_all _ _ rfl
    have sp64 : splice (List.replicate 64 (.int .u8 0)) 0 (rest.map u8) = rest.map u8 := splice_all _ _ (by simp [hr])
    refine .all (rs := [13, 14]) (by kernel_rfl) (by simp) (all2 (.op rfl (.alloc Tryd.zeroValue55 rfl (C := List.replicate 8 (.int .u32 0)) rfl fun b3 h3 => .nil (WO.end (.cons _ (.refl _)) ?_))) (.op rfl (.alloc Tryd.zeroValue56 rfl (C := List.replicate 64 (.int .u8 0)) rfl fun b4 h4 => .nil (WO.end (.cons _ (.refl _)) ?_))))
    · refine .all (rs := [14]) (by kernel_rfl) (by simp) (all1 (.op rfl (.alloc Tryd.zeroValue56 rfl (C := List.replicate 64 (.int .u8 0)) rfl fun b4 h4 => .nil (WO.end (.cons _ (.cons _ (.refl _))) ?_))))
      refine .all (rs := [15]) (by kernel_rfl) (by simp) (all1 (.op rfl (.stAgg (vs := st.list.map u32) rfl rfl Tryd.sizeOf55 one_u32 rfl 1 rfl (Nat.le_refl 8) (.nil (WO.end (.cons _ (.cons _ (.refl _))) ?_)))))
      refine .all (rs := [16]) (by kernel_rfl) (by simp) (all1 (.op rfl (.stAgg (vs := rest.map u8) rfl rfl (by rw [List.length_map, hr]; exact Tryd.sizeOf56) one_u8 rfl 0 rfl (by simp [hr]) (.nil (WO.end (.cons _ (.cons _ (.refl _))) ?_)))))
      refine .all (rs := [17]) (by kernel_rfl) (by simp) (all1 (.op rfl (.rd (.assign rfl) rfl (.nil (WO.end (.cons _ (.cons _ (.refl _))) ?_)))))
      refine .done (by kernel_rfl) (.mid ⟨b3, b4, h3, h4, rfl, ?_⟩ ⟨rfl, rfl, rfl, rfl, rfl, trivial⟩)
      rw [sp8, sp64]; rfl
    · refine .all (rs := [13]) (by kernel_rfl) (by simp) (all1 (.op rfl (.alloc Tryd.zeroValue55 rfl (C := List.replicate 8 (.int .u32 0)) rfl fun b3 h3 => .nil (WO.end (.cons _ (.cons _ (.refl _))) ?_))))
      refine .all (rs := [15]) (by kernel_rfl) (by simp) (all1 (.op rfl (.stAgg (vs := st.list.map u32) rfl rfl Tryd.sizeOf55 one_u32 rfl 0 rfl (Nat.le_refl 8) (.nil (WO.end (.cons _ (.cons _ (.refl _))) ?_)))))
      refine .all (rs := [16]) (by kernel_rfl) (by simp) (all1 (.op rfl (.stAgg (vs := rest.map u8) rfl rfl (by rw [List.length_map, hr]; exact Tryd.sizeOf56) one_u8 rfl 1 rfl (by simp [hr]) (.nil (WO.end (.cons _ (.cons _ (.refl _))) ?_)))))
      refine .all (rs := [17]) (by kernel_rfl) (by simp) (all1 (.op rfl (.rd (.assign rfl) rfl (.nil (WO.end (.cons _ (.cons _ (.refl _))) ?_)))))
      refine .done (by kernel_rfl) (.perm (.swap _ _ _) (.mid ⟨b3, b4, h3, h4, rfl, ?_⟩ ⟨rfl, rfl, rfl, rfl, rfl, trivial⟩))
      rw [sp8, sp64]
  rintro L M ⟨b3, b4, h3, h4, rfl, rfl⟩
  refine .mid (fun L M => ∃ st, Sha.Good m st rest ∧ L = [(5, i64 (m.length % 64)), (4, .pointer (some ⟨b4, 0, none⟩)), (3, .pointer (some ⟨b3, 0, none⟩)), (2, .pointer (some ⟨b2, 0, none⟩)), (0, .pointer (some ⟨b, 0, none⟩))] ∧ M = [⟨b4, rest.map u8, 56⟩, ⟨b3, st.list.map u32, 55⟩, ⟨b2, List.replicate 32 (.int .u8 0), 25⟩]) ?_ ?_
  · refine .seq (.region ?_)
    refine .rd (.move rfl) rfl ?_
    refine .rd (.nil rfl) rfl ?_
    refine .rd (.fieldA rfl Tryd.underlying58 rfl Tryd.sizeOf3) rfl ?_
    refine .rd (.ldOld rfl Tryd.isAgg3 (by simp) rlen) rfl ?_
    refine .rd (.eqlN (b := 0) rfl rfl) rfl (.nil (.seq ?_))
    refine .cond rfl (fun h => ?_) fun h => .skip ?_
    · have hmn : m = [] := List.length_eq_zero_iff.1 (of_decide_eq_true h)
      refine .region ?_
      refine .rd (.ldAggOld (C := H0.list.map u32) rfl Tryd.underlying55 rfl info55 (by simp) h0) rfl ?_
      refine .stAgg (vs := H0.list.map u32) rfl rfl Tryd.sizeOf55 one_u32 rfl 1 rfl (Nat.le_refl 8) (.nil ?_)
      rw [splice_list]
      exact .mid ⟨H0, by rw [hmn]; exact good_empty rest hr, rfl, rfl⟩ ⟨rfl, rfl, rfl, rfl, rfl, trivial⟩
    · have hmn : ¬ m.length = 0 := of_decide_eq_false h
      exact .mid ⟨st, hg.resolve_left fun h => hmn (by rw [h]; rfl), rfl, rfl⟩ ⟨rfl, rfl, rfl, rfl, rfl, trivial⟩
  clear hg rstate rrest hb
  rintro L M ⟨st1, hG, rfl, rfl⟩
  clear st
  -- the byte 128 and the zeros behind it
  refine .seq (.region ?_)
  refine .rd (.move rfl) rfl ?_
  refine .rd (.idxA rfl rfl Tryd.underlying56 Tryd.sizeOf5 hat) rfl ?_
  refine .st (v := u8 128) rfl rfl Tryd.sizeOf5 rfl rfl rfl 0 rfl (by rw [List.length_map, hr]; omega) (.nil (.seq ?_))
  rw [Nat.zero_add, Nat.mul_one]
  refine .seq (.region ?_)
  refine .rd (.move rfl) rfl ?_
  refine .rd (.addN (b := 1) rfl rfl (by omega)) rfl ?_
  refine .rd (.arrFrom rfl rfl Tryd.underlying56 Tryd.sizeOf5 (by omega)) rfl ?_
  refine .clear (o := m.length % 64 + 1) Tryd.underlying29 zeroV5 rfl rfl rfl ?_ rfl 0 rfl (by simp [hr]; omega) (.nil (.seq ?_))
  · by_cases h : 64 = m.length % 64 + 1
    · exact .inl (by omega)
    · exact .inr (by rw [if_neg h]; simp)
  have htl := hG.tail
  obtain ⟨tl, htle⟩ : ∃ tl, tl = m.drop (64 * (m.length / 64)) := ⟨_, rfl⟩
  have htll : tl.length = m.length % 64 := by rw [htle, List.length_drop]; omega
  rw [← htle] at htl
  show WC _ _ _ _ _ _ _ [Blk.mk b4 (splice ((rest.map u8).set (m.length % 64) (u8 128)) (m.length % 64 + 1) (List.replicate (64 - (m.length % 64 + 1)) (.int .u8 0))) 56, _, _]
  rw [first_block tl rest _ hat hr htl]
  have hB1 : (tl ++ [128] ++ List.replicate (63 - m.length % 64) (0 : BitVec 8)).length = 64 := by simp [htll]; omega
  -- one block, or two
  refine .mid (fun L M => ∃ (st2 : St) (B : List (BitVec 8)), B.length = 64 ∧ sha m = out (comp st2 (B.take 56 ++ len8 m.length)) ∧ L = [(5, i64 (m.length % 64)), (4, .pointer (some ⟨b4, 0, none⟩)), (3, .pointer (some ⟨b3, 0, none⟩)), (2, .pointer (some ⟨b2, 0, none⟩)), (0, .pointer (some ⟨b, 0, none⟩))] ∧ M = [⟨b4, B.map u8, 56⟩, ⟨b3, st2.list.map u32, 55⟩, ⟨b2, List.replicate 32 (.int .u8 0), 25⟩]) ?_ ?_
  · refine .seq (.region ?_)
    refine .rd (.move rfl) rfl ?_
    refine .rd (.geqN (b := 56) rfl rfl) rfl (.nil (.seq ?_))
    refine .cond rfl (fun h => ?_) fun h => .skip ?_
    · have h56 : 56 ≤ m.length % 64 := of_decide_eq_true h
      refine .seq (.region ?_)
      refine .callOne 1 rfl (.func (vs := [.pointer (some ⟨b3, 0, none⟩), .pointer (some ⟨b4, 0, none⟩)]) rfl Tryd.func29 rfl (by decide)) (fun w' hp => compress st1 _ w' b3 0 b4 0 _ 55 (hp.get (j := 1) rfl) (fun i hi => by rw [Nat.zero_add]; exact list_get st1 i hi) hB1 (hp.range (j := 0) rfl fun i v hv => by rw [Nat.zero_add]; exact hv) (fun i v hv => hp.old (by simp) (hK i v hv)) (by omega)) rfl (.nil (.seq ?_))
      rw [splice_list]
      refine .region ?_
      refine .rd (.arrAll rfl Tryd.underlying56 Tryd.sizeOf5) rfl ?_
      refine .clear (o := 0) Tryd.underlying29 zeroV5 rfl rfl rfl (.inr rfl) rfl 0 rfl (by rw [List.length_map, hB1]; exact Nat.le_refl 64) (.nil ?_)
      refine .mid ⟨comp st1 (tl ++ [128] ++ List.replicate (63 - m.length % 64) 0), List.replicate 64 0, List.length_replicate, ?_, rfl, ?_⟩ ⟨rfl, rfl, rfl, rfl, rfl, trivial⟩
      · rw [sha_two m h56, ← htle, ← hG.state, List.take_replicate]
        rfl
      · rw [splice_all _ _ (by simp [htll]; omega)]
        rfl
    · have h56 : m.length % 64 < 56 := by have := of_decide_eq_false h; omega
      refine .mid ⟨st1, _, hB1, ?_, rfl, rfl⟩ ⟨rfl, rfl, rfl, rfl, rfl, trivial⟩
      rw [sha_one m h56, ← htle, ← hG.state]
      congr 2
      rw [List.take_append, List.take_of_length_le (by simp [htll]; omega), List.take_replicate]
      congr 3
      simp [htll]; omega
  clear hB1 htl htll htle tl hG st1
  rintro L M ⟨st2, B, hB, hsha, rfl, rfl⟩
  refine .seq (.region ?_)
  refine .rd (.move rfl) rfl ?_
  refine .rd (.nil rfl) rfl ?_
  refine .rd (.fieldA rfl Tryd.underlying58 rfl Tryd.sizeOf3) rfl ?_
  refine .rd (.ldOld rfl Tryd.isAgg3 (by simp) rlen) rfl ?_
  refine .rd (.conv64 rfl Tryd.underlying3 Tryd.underlying65) rfl ?_
  refine .rd ((Rd.mul64 (a := 8#64) rfl rfl).cast (v' := u64 (BitVec.ofNat 64 (8 * m.length))) (congrArg u64 (by rw [BitVec.ofNat_mul]))) rfl ?_
  refine .rd (.assign rfl) rfl (.nil (.seq ?_))
  refine .seq (.seq (.region ?_))
  refine .rd (.move rfl) rfl (.nil (.seq ?_))
  refine .block (.weak (L' := [(48, i64 0), (6, u64 (BitVec.ofNat 64 (8 * m.length))), (4, .pointer (some ⟨b4, 0, none⟩)), (3, .pointer (some ⟨b3, 0, none⟩)), (2, .pointer (some ⟨b2, 0, none⟩))]) ⟨rfl, rfl, rfl, rfl, rfl, trivial⟩
    (.loop (fun r L M => ∃ k, k ≤ 8 ∧ r = 8 - k ∧ L = [(48, i64 k), (6, u64 (BitVec.ofNat 64 (8 * m.length))), (4, .pointer (some ⟨b4, 0, none⟩)), (3, .pointer (some ⟨b3, 0, none⟩)), (2, .pointer (some ⟨b2, 0, none⟩))] ∧ M = [⟨b4, (Bl B m.length k).map u8, 56⟩, ⟨b3, st2.list.map u32, 55⟩, ⟨b2, List.replicate 32 (.int .u8 0), 25⟩]) 8 ⟨0, by omega, rfl, rfl, by rw [Bl_zero _ _ hB]⟩ ?_))
  · rintro r L M ⟨k, hk, rfl, rfl, rfl⟩
    refine .seq (.region ?_)
    refine .rd (.lssN (b := 8) rfl rfl) rfl (.nil (.seq ?_))
    refine .seq (.cond rfl (fun hlt => .skip (.seq ?_)) fun hge => .exit (.thE (.thE (.exitHere (.seq ?_)))))
    · have hlt : k < 8 := of_decide_eq_true hlt
      refine .seq (.block (.seq (.region ?_)))
      refine .rd (.move rfl) rfl ?_
      refine .rd (.assign rfl) rfl (.nil (.seq ?_))
      refine .region ?_
      refine .rd (.move rfl) rfl ?_
      refine .rd (.subN (a := 63) rfl rfl (by omega) (by omega)) rfl ?_
      refine .rd (.move rfl) rfl ?_
      refine .rd (.move rfl) rfl ?_
      refine .rd (.mulN (a := 8) rfl rfl (by omega)) rfl ?_
      refine .rd (.shr64 rfl rfl (by omega)) rfl ?_
      refine .rd ((Rd.conv8 rfl Tryd.underlying65 Tryd.underlying5).cast (v' := u8 (BitVec.ofNat 8 (8 * m.length / 2 ^ (8 * k)))) (congrArg u8 (len_byte _ _ hl))) rfl ?_
      refine .rd (.idxA rfl rfl Tryd.underlying56 Tryd.sizeOf5 (by omega)) rfl ?_
      refine .st rfl rfl Tryd.sizeOf5 rfl rfl rfl 0 rfl (by rw [List.length_map, Bl_length _ _ _ hB hk]; omega) (.nil (.inBlock (.seq (.region ?_))))
      refine .rd (.addN (b := 1) rfl rfl (by omega)) rfl ?_
      refine .rd (.move rfl) rfl (.nil (.round (8 - (k + 1)) (by omega) ⟨k + 1, by omega, rfl, rfl, ?_⟩ ⟨rfl, rfl, rfl, rfl, rfl, trivial⟩))
      rw [Nat.zero_add, Nat.mul_one, ← Bl_set _ _ _ hB hlt]
      rfl
    have hk8 : k = 8 := by have := of_decide_eq_false hge; omega
    subst hk8
    rw [Bl_full]
    have hB2 : (B.take 56 ++ len8 m.length).length = 64 := by simp [hB, len8_length]
    refine .seq (.region ?_)
    refine .callOne 1 rfl (.func (vs := [.pointer (some ⟨b3, 0, none⟩), .pointer (some ⟨b4, 0, none⟩)]) rfl Tryd.func29 rfl (by decide)) (fun w' hp => compress st2 _ w' b3 0 b4 0 _ 55 (hp.get (j := 1) rfl) (fun i hi => by rw [Nat.zero_add]; exact list_get st2 i hi) hB2 (hp.range (j := 0) rfl fun i v hv => by rw [Nat.zero_add]; exact hv) (fun i v hv => hp.old (by simp) (hK i v hv)) (by omega)) rfl (.nil (.seq ?_))
    rw [splice_list]
    rw [hsha]
    generalize comp st2 (B.take 56 ++ len8 m.length) = st
    generalize B.take 56 ++ len8 m.length = B at hB2
    refine .seq (.region (.alloc Tryd.zeroValue25 rfl (C := Bw (out st) 0) rfl fun b8 h8 => .nil (.seq ?_)))
    refine .seq (.seq (.region ?_))
    refine .rd (.ldAgg (m := 8) rfl Tryd.underlying55 rfl info55 2 rfl (Nat.le_refl 8)) rfl ?_
    refine .rd (.move rfl) rfl (.nil (.seq ?_))
    refine .block (.weak (L' := [(62, i64 0), (61, .agg (st.list.map u32).toArray), (8, .pointer (some ⟨b8, 0, none⟩)), (2, .pointer (some ⟨b2, 0, none⟩))]) ⟨rfl, rfl, rfl, rfl, trivial⟩
      (.loop (fun r L M => ∃ k, k ≤ 8 ∧ r = 8 - k ∧ L = [(62, i64 k), (61, .agg (st.list.map u32).toArray), (8, .pointer (some ⟨b8, 0, none⟩)), (2, .pointer (some ⟨b2, 0, none⟩))] ∧ M = [⟨b8, Bw (out st) (4 * k), 25⟩, ⟨b4, B.map u8, 56⟩, ⟨b3, st.list.map u32, 55⟩, ⟨b2, List.replicate 32 (.int .u8 0), 25⟩]) 8 ⟨0, by omega, rfl, rfl, rfl⟩ ?_))
    rintro r L M ⟨k, hk, rfl, rfl, rfl⟩
    refine .seq (.region ?_)
    refine .rd (.lssN (b := 8) rfl rfl) rfl (.nil (.seq ?_))
    refine .seq (.cond rfl (fun hlt => .skip (.seq ?_)) fun hge => .exit (.thE (.thE (.exitHere (.seq ?_)))))
    · have hlt : k < 8 := of_decide_eq_true hlt
      refine .seq (.block (.seq (.region ?_)))
      refine .rd (.move rfl) rfl ?_
      refine .rd (.idxV (v := u32 (st.list.getD k 0)) rfl rfl Tryd.underlying55 Tryd.isAgg54 Tryd.sizeOf54 hlt (list_get st k hlt)) rfl ?_
      refine .rd (.assign rfl) rfl ?_
      refine .rd (.assign rfl) rfl (.nil (.seq ?_))
      refine .region ?_
      refine .rd (.move rfl) rfl ?_
      refine .rd (.mulN (a := 4) rfl rfl (by omega)) rfl ?_
      refine .rd (.move rfl) rfl ?_
      refine .rd (.mulN (a := 4) rfl rfl (by omega)) rfl ?_
      refine .rd (.addN (b := 1) rfl rfl (by omega)) rfl ?_
      refine .rd (.move rfl) rfl ?_
      refine .rd (.mulN (a := 4) rfl rfl (by omega)) rfl ?_
      refine .rd (.addN (b := 2) rfl rfl (by omega)) rfl ?_
      refine .rd (.move rfl) rfl ?_
      refine .rd (.mulN (a := 4) rfl rfl (by omega)) rfl ?_
      refine .rd (.addN (b := 3) rfl rfl (by omega)) rfl ?_
      refine .rd (.move rfl) rfl ?_
      refine .rd (.shr32 (s := 24) rfl rfl (by omega)) rfl ?_
      refine .rd ((Rd.conv8 rfl Tryd.underlying54 Tryd.underlying5).cast (v' := u8 ((out st).getD (4 * k) 0)) (congrArg u8 (out_byte st k 0 hlt (by omega)))) rfl ?_
      refine .rd (.move rfl) rfl ?_
      refine .rd (.shr32 (s := 16) rfl rfl (by omega)) rfl ?_
      refine .rd ((Rd.conv8 rfl Tryd.underlying54 Tryd.underlying5).cast (v' := u8 ((out st).getD (4 * k + 1) 0)) (congrArg u8 (out_byte st k 1 hlt (by omega)))) rfl ?_
      refine .rd (.move rfl) rfl ?_
      refine .rd (.shr32 (s := 8) rfl rfl (by omega)) rfl ?_
      refine .rd ((Rd.conv8 rfl Tryd.underlying54 Tryd.underlying5).cast (v' := u8 ((out st).getD (4 * k + 2) 0)) (congrArg u8 (out_byte st k 2 hlt (by omega)))) rfl ?_
      refine .rd (.move rfl) rfl ?_
      refine .rd ((Rd.conv8 rfl Tryd.underlying54 Tryd.underlying5).cast (v' := u8 ((out st).getD (4 * k + 3) 0)) (congrArg u8 ((out_byte st k 3 hlt (by omega)).symm.trans (by simp)).symm)) rfl ?_
      have hout := out_length st
      refine .rd (.idxA rfl rfl Tryd.underlying25 Tryd.sizeOf5 (by omega)) rfl ?_
      refine .st rfl rfl Tryd.sizeOf5 rfl rfl rfl 0 rfl (by rw [Bw_length _ _ hout (by omega)]; omega) ?_
      rw [Nat.zero_add, Nat.mul_one]
      refine .rd (.idxA rfl rfl Tryd.underlying25 Tryd.sizeOf5 (by omega)) rfl ?_
      refine .st rfl rfl Tryd.sizeOf5 rfl rfl rfl 0 rfl (by rw [List.length_set, Bw_length _ _ hout (by omega)]; omega) ?_
      rw [Nat.zero_add, Nat.mul_one]
      refine .rd (.idxA rfl rfl Tryd.underlying25 Tryd.sizeOf5 (by omega)) rfl ?_
      refine .st rfl rfl Tryd.sizeOf5 rfl rfl rfl 0 rfl (by rw [List.length_set, List.length_set, Bw_length _ _ hout (by omega)]; omega) ?_
      rw [Nat.zero_add, Nat.mul_one]
      refine .rd (.idxA rfl rfl Tryd.underlying25 Tryd.sizeOf5 (by omega)) rfl ?_
      refine .st rfl rfl Tryd.sizeOf5 rfl rfl rfl 0 rfl (by rw [List.length_set, List.length_set, List.length_set, Bw_length _ _ hout (by omega)]; omega) (.nil (.inBlock (.seq (.region ?_))))
      rw [Nat.zero_add, Nat.mul_one]
      refine .rd (.addN (b := 1) rfl rfl (by omega)) rfl ?_
      refine .rd (.move rfl) rfl (.nil (.round (8 - (k + 1)) (by omega) ⟨k + 1, by omega, rfl, rfl, ?_⟩ ⟨rfl, rfl, rfl, rfl, trivial⟩))
      rw [show 4 * (k + 1) = 4 * k + 1 + 1 + 1 + 1 by omega, ← Bw_set _ _ hout (by omega), ← Bw_set _ _ hout (by omega), ← Bw_set _ _ hout (by omega), ← Bw_set _ _ hout (by omega)]
      rfl
    have hk8 : k = 8 := by have := of_decide_eq_false hge; omega
    subst hk8
    rw [show Bw (out st) (4 * 8) = (out st).map u8 from Bw_full _ (out_length st)]
    refine .seq (.region ?_)
    refine .rd (.ldAgg (m := 32) rfl Tryd.underlying25 rfl info25 0 rfl (Nat.le_refl 32)) rfl ?_
    refine .stAgg (vs := (out st).map u8) rfl rfl Tryd.sizeOf25 one_u8 rfl 3 rfl (Nat.le_refl 32) (.nil (.seq (.ret ?_)))
    rw [splice_zeros32 _ (out_length st)]
    exact .retCell rfl rfl (j := 3) rfl Tryd.underlying25 rfl info25 fun w' hp => ⟨rfl, hp.nil⟩
end Go.Proofs.YtmokinjncelmbaaDoorRRR
