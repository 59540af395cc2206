/- The state of a Hash as plain data: what one more piece of a text makes of it, and what the last blocks make of it: no condition, no program. -/
import Derived.Test.YtmokinjncelmbaaDoorRRRPa
namespace Go.Sha

/-- What a Hash holds that was given the text 'm': the state behind the complete blocks, and the bytes behind them at the head of 64 bytes. -/
structure Good (m : List (BitVec 8)) (st : St) (rest : List (BitVec 8)) : Prop where
  len : rest.length = 64
  tail : rest.take (m.length % 64) = m.drop (64 * (m.length / 64))
  state : st = run H0 m (m.length / 64)

/-- 64 bytes, of which some are written anew. -/
def patch (rest : List (BitVec 8)) (at_ : Nat) (l : List (BitVec 8)) : List (BitVec 8) := rest.take at_ ++ l ++ rest.drop (at_ + l.length)

theorem patch_length (rest : List (BitVec 8)) (k : Nat) (l : List (BitVec 8)) (h : rest.length = 64) (hk : k + l.length ≤ 64) : (patch rest k l).length = 64 := by
  simp [patch]; omega

theorem patch_take (rest : List (BitVec 8)) (k : Nat) (l : List (BitVec 8)) (h : rest.length = 64) (hk : k + l.length ≤ 64) : (patch rest k l).take (k + l.length) = rest.take k ++ l := by
  rw [patch, List.take_append_of_le_length (by simp; omega), List.take_of_length_le (by simp; omega)]

/-- A piece that does not fill the block. -/
theorem Good.more {m : List (BitVec 8)} {st : St} {rest : List (BitVec 8)} (h : Good m st rest) (l : List (BitVec 8)) (hl : m.length % 64 + l.length < 64) : Good (m ++ l) st (patch rest (m.length % 64) l) := by
  have hq : (m ++ l).length / 64 = m.length / 64 := by rw [List.length_append]; omega
  have hr : (m ++ l).length % 64 = m.length % 64 + l.length := by rw [List.length_append]; omega
  refine ⟨patch_length _ _ _ h.len (by omega), ?_, ?_⟩
  · rw [hq, hr, patch_take _ _ _ h.len (by omega), h.tail, List.drop_append_of_le_length (by omega)]
  · rw [hq, run_append _ _ _ _ (by omega)]; exact h.state

/-- A piece that fills it. -/
theorem Good.full {m : List (BitVec 8)} {st : St} {rest : List (BitVec 8)} (h : Good m st rest) (l : List (BitVec 8)) (hl : m.length % 64 + l.length = 64) : Good (m ++ l) (comp st (patch rest (m.length % 64) l)) (patch rest (m.length % 64) l) := by
  have hq : (m ++ l).length / 64 = m.length / 64 + 1 := by rw [List.length_append]; omega
  have hr : (m ++ l).length % 64 = 0 := by rw [List.length_append]; omega
  have hp : patch rest (m.length % 64) l = ((m ++ l).drop (64 * (m.length / 64))).take 64 := by
    have h1 := patch_take rest (m.length % 64) l h.len (by omega)
    rw [hl, List.take_of_length_le (by rw [patch_length _ _ _ h.len (by omega)]; omega)] at h1
    rw [h1, h.tail, List.drop_append_of_le_length (by omega), List.take_of_length_le (by simp; omega)]
  refine ⟨patch_length _ _ _ h.len (by omega), ?_, ?_⟩
  · rw [hq, hr, List.take_zero, List.drop_of_length_le (by rw [List.length_append]; omega)]
  · rw [hq, run, run_append _ _ _ _ (by omega), ← h.state, ← hp]

theorem good_empty (rest : List (BitVec 8)) (h : rest.length = 64) : Good [] H0 rest := ⟨h, by simp, rfl⟩

theorem len8_length (n : Nat) : (len8 n).length = 8 := by simp [len8]

/-- The last block where the length fits in. -/
theorem sha_one (m : List (BitVec 8)) (h : m.length % 64 < 56) : sha m = out (comp (run H0 m (m.length / 64)) (m.drop (64 * (m.length / 64)) ++ [128] ++ List.replicate (55 - m.length % 64) 0 ++ len8 m.length)) := by
  have hz : zeros m.length = 55 - m.length % 64 := by unfold zeros; omega
  have hn : (pad m).length / 64 = m.length / 64 + 1 := by rw [pad_length, hz]; omega
  have hp : pad m = m ++ ([128] ++ List.replicate (55 - m.length % 64) 0 ++ len8 m.length) := by rw [pad, hz]; simp
  have hb : (((pad m).drop (64 * (m.length / 64))).take 64) = m.drop (64 * (m.length / 64)) ++ [128] ++ List.replicate (55 - m.length % 64) 0 ++ len8 m.length := by
    rw [hp, List.drop_append_of_le_length (by omega), List.take_of_length_le (by simp [len8_length]; omega)]
    simp
  have hr : run H0 (pad m) (m.length / 64) = run H0 m (m.length / 64) := by rw [hp, run_append _ _ _ _ (by omega)]
  rw [sha, hn, run, hb, hr]

/-- The last two blocks where it does not. -/
theorem sha_two (m : List (BitVec 8)) (h : 56 ≤ m.length % 64) : sha m = out (comp (comp (run H0 m (m.length / 64)) (m.drop (64 * (m.length / 64)) ++ [128] ++ List.replicate (63 - m.length % 64) 0)) (List.replicate 56 0 ++ len8 m.length)) := by
  have hz : zeros m.length = 63 - m.length % 64 + 56 := by unfold zeros; omega
  have hn : (pad m).length / 64 = m.length / 64 + 1 + 1 := by rw [pad_length, hz]; omega
  have hp : pad m = m ++ ([128] ++ List.replicate (63 - m.length % 64) 0) ++ (List.replicate 56 0 ++ len8 m.length) := by
    rw [pad, hz, ← List.replicate_append_replicate]
    simp
  have h1 : (m ++ ([128] ++ List.replicate (63 - m.length % 64) (0 : BitVec 8))).length = 64 * (m.length / 64 + 1) := by simp; omega
  have hr : run H0 (pad m) (m.length / 64) = run H0 m (m.length / 64) := by
    rw [hp, run_append _ _ _ _ (by omega), run_append _ _ _ _ (by omega)]
  have hb : (((pad m).drop (64 * (m.length / 64))).take 64) = m.drop (64 * (m.length / 64)) ++ [128] ++ List.replicate (63 - m.length % 64) 0 := by
    rw [hp, List.drop_append_of_le_length (by omega), List.take_append_of_le_length (by simp; omega), List.drop_append_of_le_length (by omega), List.take_of_length_le (by simp; omega)]
    simp
  have hb2 : (((pad m).drop (64 * (m.length / 64 + 1))).take 64) = List.replicate 56 0 ++ len8 m.length := by
    rw [hp, ← h1, List.drop_left, List.take_of_length_le (by simp [len8_length])]
  rw [sha, hn, run, run, hb, hb2, hr]

end Go.Sha
