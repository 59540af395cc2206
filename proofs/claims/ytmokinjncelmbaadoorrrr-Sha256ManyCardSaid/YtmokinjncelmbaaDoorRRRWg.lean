/- The walk of (*Hash).Write: the tables in place, texts of at most 2^41 bytes together. -/
import Derived.Test.YtmokinjncelmbaaDoorRRRWf
import Derived.Test.YtmokinjncelmbaaDoorRRRPb
import Derived.Test.YtmokinjncelmbaaDoorRRRKf
namespace Go.Proofs.YtmokinjncelmbaaDoorRRR
open Go.Sx Go.Sha

/-- The cells of a Hash. -/
def mk (len : Nat) (st : St) (rest : List (BitVec 8)) : List Value := i64 len :: (st.list.map u32 ++ rest.map u8)

theorem mk_length (len : Nat) (st : St) (rest : List (BitVec 8)) (h : rest.length = 64) : (mk len st rest).length = 73 := by simp [mk, St.list, h]
theorem mk_len (len : Nat) (st : St) (rest : List (BitVec 8)) : (mk len st rest)[0]? = some (i64 len) := rfl
theorem mk_set (len len' : Nat) (st : St) (rest : List (BitVec 8)) : (mk len st rest).set 0 (i64 len') = mk len' st rest := rfl
theorem mk_state (len : Nat) (st : St) (rest : List (BitVec 8)) (i : Nat) (hi : i < 8) : (mk len st rest)[1 + i]? = some (u32 (st.list.getD i 0)) := by
  rw [mk, Nat.add_comm, List.getElem?_cons_succ, List.getElem?_append_left (by simpa [St.list] using hi)]
  exact list_get st i hi
theorem mk_rest (len : Nat) (st : St) (rest : List (BitVec 8)) (i : Nat) : (mk len st rest)[9 + i]? = (rest.map u8)[i]? := by
  rw [mk, show 9 + i = 8 + i + 1 by omega, List.getElem?_cons_succ, List.getElem?_append_right (by simp [St.list])]
  simp [St.list]
theorem mk_splice_state (len : Nat) (st st' : St) (rest : List (BitVec 8)) : splice (mk len st rest) 1 (st'.list.map u32) = mk len st' rest := by
  rw [splice_eq _ _ _ (by simp [mk, St.list])]
  simp [mk, St.list]
theorem mk_splice_rest (len : Nat) (st : St) (rest l : List (BitVec 8)) (k : Nat) (h : rest.length = 64) (hk : k + l.length ≤ 64) : splice (mk len st rest) (9 + k) (l.map u8) = mk len st (patch rest k l) := by
  have h8 : (st.list.map u32).length = 8 := rfl
  have e1 : (mk len st rest).take (9 + k) = i64 len :: (st.list.map u32 ++ (rest.take k).map u8) := by
    rw [mk, show 9 + k = 8 + k + 1 by omega, List.take_succ_cons, List.take_append, List.take_of_length_le (by rw [h8]; omega), h8, show 8 + k - 8 = k by omega, List.map_take]
  have e2 : (mk len st rest).drop (9 + k + l.length) = (rest.drop (k + l.length)).map u8 := by
    rw [mk, show 9 + k + l.length = 8 + (k + l.length) + 1 by omega, List.drop_succ_cons, List.drop_append, List.drop_eq_nil_of_le (by rw [h8]; omega), h8, show 8 + (k + l.length) - 8 = k + l.length by omega, List.map_drop]
    rfl
  rw [splice_eq _ _ _ (by rw [mk_length _ _ _ h]; simp; omega), List.length_map, e1, e2, mk, patch]
  simp

/-- The cells of a Hash that was given 'm'. -/
def HashC (m : List (BitVec 8)) (C : List Value) : Prop := ∃ st rest, rest.length = 64 ∧ C = mk m.length st rest ∧ (m = [] ∨ Sha.Good m st rest)

theorem write (m : List (BitVec 8)) (s : ByteArray) (w : World) (b : Nat) (C : List Value) (hm : Hold w ⟨b, C, 58⟩) (hC : HashC m C) (h0 : w.rangeAt 0 0 (H0.list.map u32)) (hK : w.rangeAt 1 0 (K.map u32)) (hb0 : b ≠ 0) (hb1 : b ≠ 1) (hl : m.length + s.size ≤ 2199023255552) :
    Calls Tryd.prog 18 [.pointer (some ⟨b, 0, none⟩), .string s].toArray w fun e w' => ∃ C', e = .returned (.int .i64 0) ∧ HashC (m ++ bsOf s) C' ∧ Hp w w' [b] [⟨b, C', 58⟩] := by
  obtain ⟨st, rest, hr, rfl, hg⟩ := hC
  refine enter1 hm Tryd.func18 rfl rfl ?_
  refine .seq (.region (.rd (.assign rfl) rfl (.nil (.seq ?_))))
  refine .seq (.seq (.region ?_))
  refine .rd (.move rfl) rfl ?_
  refine .rd (.ptrNil rfl rfl Tryd.underlying37) rfl (.nil (.seq ?_))
  refine .no rfl rfl (.skip (.seq ?_))
  refine .mid (fun L M => ∃ st rest, rest.length = 64 ∧ (s.size = 0 ∧ m = [] ∨ Sha.Good m st rest) ∧ L = [(4, i64 0), (1, .string s), (0, .pointer (some ⟨b, 0, none⟩))] ∧ M = [⟨b, mk m.length st rest, 58⟩]) ?_ ?_
  · refine .seq (.region ?_)
    refine .rd (.move rfl) rfl ?_
    refine .rd (.nil rfl) rfl ?_
    refine .rd (.fieldA rfl Tryd.underlying58 rfl Tryd.sizeOf3) rfl ?_
    refine .rd (.ld rfl Tryd.isAgg3 0 rfl (mk_len _ _ _)) rfl ?_
    refine .rd (.eqlN (b := 0) rfl rfl) rfl ?_
    refine .rd (.move rfl) rfl ?_
    by_cases h0m : m.length = 0
    · have hmn : m = [] := List.length_eq_zero_iff.1 h0m
      have hd : decide (m.length = 0) = true := decide_eq_true h0m
      rw [hd]
      refine .guardYes rfl ?_
      refine .rd (.move rfl) rfl ?_
      refine .guardYes rfl ?_
      refine .rd (.len rfl Tryd.underlying9) rfl ?_
      refine .guardYes rfl ?_
      refine .rd (.gtrN (b := 0) rfl rfl) rfl ?_
      refine .rd (.pick rfl rfl) rfl (.nil (.seq ?_))
      refine .cond rfl (fun hlt => ?_) fun hge => .skip ?_
      · refine .region ?_
        refine .rd (.move rfl) rfl ?_
        refine .rd (.ldAggOld (C := H0.list.map u32) rfl Tryd.underlying55 rfl info55 (by simpa using Ne.symm hb0) h0) rfl ?_
        refine .rd (.nil rfl) rfl ?_
        refine .rd (.fieldA rfl Tryd.underlying58 rfl Tryd.sizeOf55) rfl ?_
        refine .stAgg (vs := H0.list.map u32) rfl rfl Tryd.sizeOf55 one_u32 rfl 0 rfl (by rw [mk_length _ _ _ hr]; decide) (.nil ?_)
        refine .mid ⟨H0, rest, hr, .inr (by rw [hmn]; exact good_empty rest hr), rfl, ?_⟩ ⟨rfl, rfl, rfl, trivial⟩
        show [Blk.mk b (splice (mk m.length st rest) 1 (H0.list.map u32)) 58] = _
        rw [mk_splice_state]
      · have hs : s.size = 0 := by have := of_decide_eq_false hge; omega
        exact .mid ⟨st, rest, hr, .inl ⟨hs, hmn⟩, rfl, rfl⟩ ⟨rfl, rfl, rfl, trivial⟩
    · have hd : decide (m.length = 0) = false := decide_eq_false h0m
      rw [hd]
      refine .guardNo rfl rfl rfl ?_
      refine .guardNo rfl rfl rfl ?_
      refine .guardNo rfl rfl rfl ?_
      refine .rd (.pick rfl rfl) rfl (.nil (.seq ?_))
      refine .no rfl rfl (.skip ?_)
      refine .mid ⟨st, rest, hr, .inr (hg.resolve_left fun h => h0m (by rw [h]; rfl)), rfl, rfl⟩ ⟨rfl, rfl, rfl, trivial⟩
  rintro L M ⟨st, rest, hr, hg, rfl, rfl⟩
  refine .seq (.block (.loop (fun r L M => ∃ m' sr st rest, m' ++ bsOf sr = m ++ bsOf s ∧ rest.length = 64 ∧ (sr.size = 0 ∧ m' = [] ∨ Sha.Good m' st rest) ∧ r = sr.size ∧ L = [(4, i64 0), (1, .string sr), (0, .pointer (some ⟨b, 0, none⟩))] ∧ M = [⟨b, mk m'.length st rest, 58⟩]) s.size ⟨m, s, st, rest, rfl, hr, hg, rfl, rfl, rfl⟩ ?_))
  clear hg hr st rest
  rintro r L M ⟨m', sr, st, rest, hms, hr, hg, rfl, rfl, rfl⟩
  have hlen : m'.length + sr.size = m.length + s.size := by
    have := congrArg List.length hms
    simpa [bsOf_length] using this
  refine .seq (.seq (.region ?_))
  refine .rd (.move rfl) rfl ?_
  refine .rd (.len rfl Tryd.underlying9) rfl ?_
  refine .rd (.gtrN (b := 0) rfl rfl) rfl (.nil (.seq ?_))
  refine .cond rfl (fun hlt => .skip (.seq ?_)) fun hge => .exit (.thE (.thE (.exitHere (.seq ?_))))
  · have hlt : 0 < sr.size := of_decide_eq_true hlt
    have hg : Sha.Good m' st rest := hg.resolve_left fun h => by omega
    refine .block (.seq (.region ?_))
    refine .rd (.move rfl) rfl ?_
    refine .rd (.nil rfl) rfl ?_
    refine .rd (.fieldA rfl Tryd.underlying58 rfl Tryd.sizeOf3) rfl ?_
    refine .rd (.ld rfl Tryd.isAgg3 0 rfl (mk_len _ _ _)) rfl ?_
    refine .rd (.remN (b := 64) rfl rfl (by omega)) rfl ?_
    refine .rd (.assign rfl) rfl (.nil (.seq ?_))
    refine .seq (.region ?_)
    have hat : m'.length % 64 < 64 := Nat.mod_lt _ (by omega)
    refine .rd (.move rfl) rfl ?_
    refine .rd (.nil rfl) rfl ?_
    refine .rd (.fieldA rfl Tryd.underlying58 rfl Tryd.sizeOf56) rfl ?_
    refine .rd (.move rfl) rfl ?_
    refine .rd ((Rd.arrFrom rfl rfl Tryd.underlying56 Tryd.sizeOf5 (Nat.le_of_lt hat)).cast (v' := .slice (some ⟨b, 9 + m'.length % 64, none⟩) (64 - m'.length % 64) (64 - m'.length % 64)) (by rw [if_neg (by omega), Nat.mul_one]; rfl)) rfl ?_
    refine .rd (.move rfl) rfl ?_
    refine .copyStr Tryd.underlying29 Tryd.sizeOf5 rfl rfl rfl 0 rfl (by rw [mk_length _ _ _ hr]; omega) ?_
    obtain ⟨n, hn⟩ : ∃ n, n = min sr.size (64 - m'.length % 64) := ⟨_, rfl⟩
    have hll : ((bsOf sr).take n).length = n := by rw [List.length_take, bsOf_length]; omega
    rw [← hn, mk_splice_rest _ _ _ _ _ hr (by omega)]
    refine .rd (.assign rfl) rfl (.nil (.seq ?_))
    refine .seq (.region ?_)
    refine .rd (.move rfl) rfl ?_
    refine .rd (.move rfl) rfl ?_
    refine .rd (.strFrom (b := n) rfl rfl Tryd.underlying9 (by omega)) rfl ?_
    refine .rd (.assign rfl) rfl (.nil (.seq ?_))
    have hm'' : m' ++ (bsOf sr).take n ++ bsOf (sr.extract n sr.size) = m ++ bsOf s := by
      rw [← hms, List.append_assoc, bsOf_extract, List.take_of_length_le (l := (bsOf sr).drop n) (by rw [List.length_drop, bsOf_length]; omega), List.take_append_drop]
    have hsz : (sr.extract n sr.size).size = sr.size - n := by simp
    have hl'' : (m' ++ (bsOf sr).take n).length = m'.length + n := by rw [List.length_append, hll]
    refine .seq (.region ?_)
    refine .rd (.move rfl) rfl ?_
    refine .rd (.nil rfl) rfl ?_
    refine .rd (.fieldA rfl Tryd.underlying58 rfl Tryd.sizeOf3) rfl ?_
    refine .rd (.ld rfl Tryd.isAgg3 0 rfl (mk_len _ _ _)) rfl ?_
    refine .rd (.move rfl) rfl ?_
    refine .rd (.addN (b := n) rfl rfl (by omega)) rfl ?_
    refine .rd (.nil rfl) rfl ?_
    refine .rd (.fieldA rfl Tryd.underlying58 rfl Tryd.sizeOf3) rfl ?_
    refine .st rfl rfl Tryd.sizeOf3 rfl rfl rfl 0 rfl (by rw [mk_length _ _ _ (patch_length _ _ _ hr (by omega))]; decide) (.nil (.seq ?_))
    refine .seq (.region ?_)
    refine .rd (.move rfl) rfl ?_
    refine .rd (.move rfl) rfl ?_
    refine .rd (.addN (b := n) rfl rfl (by omega)) rfl ?_
    refine .rd (.eqlN (b := 64) rfl rfl) rfl (.nil (.seq ?_))
    show WC _ _ _ _ _ _ _ [Blk.mk b (mk (m'.length + n) st (patch rest (m'.length % 64) ((bsOf sr).take n))) 58]
    rw [← hl'']
    refine .cond rfl (fun hfull => ?_) fun hpart => .skip ?_
    · have hfull : m'.length % 64 + n = 64 := of_decide_eq_true hfull
      have hG := hg.full ((bsOf sr).take n) (by omega)
      generalize m' ++ (bsOf sr).take n = m1 at *
      generalize patch rest (m'.length % 64) ((bsOf sr).take n) = rest1 at *
      refine .drawTail 6 mixed (by kernel_rfl) fun w' hp => ?_
      refine .rd hp (.move rfl) rfl ?_
      refine .rd hp (.nil rfl) rfl ?_
      refine .rd hp (.fieldA rfl Tryd.underlying58 rfl Tryd.sizeOf55) rfl ?_
      refine .rd hp (.move rfl) rfl ?_
      refine .rd hp (.nil rfl) rfl ?_
      refine .rd hp (.fieldA rfl Tryd.underlying58 rfl Tryd.sizeOf56) rfl (.done hp ?_)
      refine .callOne 0 rfl (.func (vs := [.pointer (some ⟨b, 1, none⟩), .pointer (some ⟨b, 9, none⟩)]) rfl Tryd.func29 rfl (by decide)) (fun w' hp => compress st rest1 w' b 1 b 9 _ 58 (hp.get (j := 0) rfl) (fun i hi => mk_state _ _ _ _ hi) hG.len (hp.range (j := 0) rfl fun i v hv => by rw [mk_rest]; exact hv) (fun i v hv => hp.old (by simpa using Ne.symm hb1) (hK i v hv)) hb1) rfl (.nil (.inBlock ?_))
      refine .round _ ?_ ⟨m1, sr.extract n sr.size, comp st rest1, rest1, hm'', hG.len, .inr hG, rfl, rfl, ?_⟩ ⟨rfl, rfl, rfl, trivial⟩
      · omega
      · show [Blk.mk b (splice (mk m1.length st rest1) 1 ((comp st rest1).list.map u32)) 58] = _
        rw [mk_splice_state]
    · have hpart : ¬ m'.length % 64 + n = 64 := of_decide_eq_false hpart
      have hG := hg.more ((bsOf sr).take n) (by omega)
      refine .inBlock (.round _ ?_ ⟨_, sr.extract n sr.size, st, _, hm'', hG.len, .inr hG, rfl, rfl, rfl⟩ ⟨rfl, rfl, rfl, trivial⟩)
      omega
  have hs0 : sr.size = 0 := by have := of_decide_eq_false hge; omega
  have hbs : bsOf sr = [] := List.length_eq_zero_iff.1 (by rw [bsOf_length]; exact hs0)
  rw [hbs, List.append_nil] at hms
  subst hms
  refine .seq (.region (.rd (.assign rfl) rfl (.nil (.seq ?_))))
  refine .ret (.ret1 rfl rfl fun w' hp => ⟨_, rfl, ⟨st, rest, hr, rfl, ?_⟩, hp⟩)
  exact hg.imp (fun h => h.2) id
end Go.Proofs.YtmokinjncelmbaaDoorRRR
