/- The walk of sha256.compress: the eight words of a state become those of the state behind a block: the table of constants in place, the state's block not a table. -/
import Derived.Test.YtmokinjncelmbaaDoorRRRWa
namespace Go.Proofs.YtmokinjncelmbaaDoorRRR
open Go.Sx Go.Sha

/-- The schedule's cells behind 't' words. -/
def Cw (bs : List (BitVec 8)) (t : Nat) : List Value := (sched bs t).map u32 ++ List.replicate (64 - t) (.int .u32 0)

theorem Cw_length (bs : List (BitVec 8)) (t : Nat) (h : t ≤ 64) : (Cw bs t).length = 64 := by
  simp [Cw, sched_length]; omega

theorem Cw_get (bs : List (BitVec 8)) (t i : Nat) (h : i < t) : (Cw bs t)[i]? = some (u32 ((sched bs t).getD i 0)) := by
  have hl : i < ((sched bs t).map u32).length := by simpa [sched_length] using h
  rw [Cw, List.getElem?_append_left hl, List.getElem?_map]
  simp only [List.length_map] at hl
  simp [List.getD, List.getElem?_eq_getElem hl]

theorem Cw_set (bs : List (BitVec 8)) (t : Nat) (h : t < 64) : (Cw bs t).set t (u32 (next bs (sched bs t) t)) = Cw bs (t + 1) := by
  have hl : ((sched bs t).map u32).length = t := by simp [sched_length]
  rw [Cw, List.set_append_right _ _ (by omega), hl, Nat.sub_self]
  obtain ⟨m, hm⟩ : ∃ m, 64 - t = m + 1 := ⟨63 - t, by omega⟩
  rw [hm, List.replicate_succ, List.set_cons_zero, Cw, show 64 - (t + 1) = m by omega, sched]
  simp

theorem next_word (bs : List (BitVec 8)) (l : List (BitVec 32)) (t : Nat) (h : t < 16) : next bs l t = word bs t := by simp [next, h]
theorem next_later (bs : List (BitVec 8)) (l : List (BitVec 32)) (t : Nat) (h : 16 ≤ t) : next bs l t = l.getD (t - 16) 0 + s0 (l.getD (t - 15) 0) + l.getD (t - 7) 0 + s1 (l.getD (t - 2) 0) := by
  rw [next, if_neg (by omega)]

set_option maxHeartbeats 1600000 in
theorem compress (s : St) (bs : List (BitVec 8)) (w : World) (b1 o1 b2 o2 : Nat) (C1 : List Value) (T1 : TypeId)
    (hm : Hold w ⟨b1, C1, T1⟩) (hs : ∀ i, i < 8 → C1[o1 + i]? = some (u32 (s.list.getD i 0)))
    (hlen : bs.length = 64) (hb : w.rangeAt b2 o2 (bs.map u8)) (hK : w.rangeAt 1 0 (K.map u32)) (h1 : b1 ≠ 1) :
    Calls Tryd.prog 29 [.pointer (some ⟨b1, o1, none⟩), .pointer (some ⟨b2, o2, none⟩)].toArray w fun e w' =>
      e = .returned (.tuple #[]) ∧ Hp w w' [b1] [⟨b1, splice C1 o1 ((comp s bs).list.map u32), T1⟩] := by
  have hrd : ∀ (B : Blk) (i : Nat), i < 64 → ∀ w', Hp w w' [b1] [B, ⟨b1, C1, T1⟩] → w'.cell? ⟨b2, o2 + i * 1, none⟩ = some (u8 (bs.getD i 0)) := by
    intro B i hi w' hp
    have hv : w.cell? ⟨b2, o2 + i * 1, none⟩ = some (u8 (bs.getD i 0)) := by
      have hl : i < bs.length := by omega
      have := hb i (u8 (bs.getD i 0)) (by simp [List.getD, List.getElem?_eq_getElem hl])
      simpa using this
    by_cases hbb : b2 = b1
    · subst hbb
      have h2 := (hp.get (j := 1) rfl).cell (o2 + i * 1)
      have h3 := hm.cell (o2 + i * 1)
      simp only at h2 h3
      rw [h2, ← h3, hv]
    · exact hp.old (by simpa using hbb) hv
  refine enter1 hm Tryd.func29 rfl rfl ?_
  -- var w [64]uint32
  refine .seq (.region (.alloc Tryd.zeroValue68 rfl (C := Cw bs 0) rfl fun bw hbw => .nil (.seq ?_)))
  -- for t := range 16
  refine .seq (.seq (.region (.rd (.move rfl) rfl (.nil (.seq ?_)))))
  refine .block (.weak (L' := [(24, i64 0), (4, .pointer (some ⟨bw, 0, none⟩)), (1, .pointer (some ⟨b2, o2, none⟩)), (0, .pointer (some ⟨b1, o1, none⟩))]) ⟨rfl, rfl, rfl, rfl, trivial⟩
    (.loop (fun m L M => ∃ t, t ≤ 16 ∧ m = 16 - t ∧ L = [(24, i64 t), (4, .pointer (some ⟨bw, 0, none⟩)), (1, .pointer (some ⟨b2, o2, none⟩)), (0, .pointer (some ⟨b1, o1, none⟩))] ∧ M = [⟨bw, Cw bs t, 68⟩, ⟨b1, C1, T1⟩]) 16 ⟨0, by omega, rfl, rfl, rfl⟩ ?_))
  rintro m L M ⟨t, ht, rfl, rfl, rfl⟩
  refine .seq (.region (.rd (.lssN (b := 16) rfl rfl) rfl (.nil (.seq ?_))))
  refine .seq (.cond rfl (fun hlt => .skip (.seq ?_)) fun hge => .exit (.thE (.thE (.exitHere (.seq ?_)))))
  · have hlt : t < 16 := of_decide_eq_true hlt
    refine .seq (.block (.seq (.region ?_)))
    refine .rd (.move rfl) rfl ?_
    refine .rd (.assign rfl) rfl (.nil (.seq ?_))
    refine .drawTail 39 mixed (by kernel_rfl) fun w' hp => ?_
    refine .rd hp (.move rfl) rfl ?_
    refine .rd hp (.move rfl) rfl ?_
    refine .rd hp (.move rfl) rfl ?_
    refine .rd hp (.mulN (a := 4) rfl rfl (by omega)) rfl ?_
    refine .rd hp (.nil rfl) rfl ?_
    refine .rd hp (.idxA rfl rfl Tryd.underlying56 Tryd.sizeOf5 (by omega)) rfl ?_
    refine .rd hp (.ldBy rfl Tryd.isAgg5 (hrd _ (4 * t) (by omega))) rfl ?_
    refine .rd hp (.conv32 rfl Tryd.underlying5 Tryd.underlying54) rfl ?_
    refine .rd hp (.shl32 (s := 24) rfl rfl (by omega)) rfl ?_
    refine .rd hp (.move rfl) rfl ?_
    refine .rd hp (.move rfl) rfl ?_
    refine .rd hp (.mulN (a := 4) rfl rfl (by omega)) rfl ?_
    refine .rd hp (.addN (b := 1) rfl rfl (by omega)) rfl ?_
    refine .rd hp (.nil rfl) rfl ?_
    refine .rd hp (.idxA rfl rfl Tryd.underlying56 Tryd.sizeOf5 (by omega)) rfl ?_
    refine .rd hp (.ldBy rfl Tryd.isAgg5 (hrd _ (4 * t + 1) (by omega))) rfl ?_
    refine .rd hp (.conv32 rfl Tryd.underlying5 Tryd.underlying54) rfl ?_
    refine .rd hp (.shl32 (s := 16) rfl rfl (by omega)) rfl ?_
    refine .rd hp (.or32 rfl rfl) rfl ?_
    refine .rd hp (.move rfl) rfl ?_
    refine .rd hp (.move rfl) rfl ?_
    refine .rd hp (.mulN (a := 4) rfl rfl (by omega)) rfl ?_
    refine .rd hp (.addN (b := 2) rfl rfl (by omega)) rfl ?_
    refine .rd hp (.nil rfl) rfl ?_
    refine .rd hp (.idxA rfl rfl Tryd.underlying56 Tryd.sizeOf5 (by omega)) rfl ?_
    refine .rd hp (.ldBy rfl Tryd.isAgg5 (hrd _ (4 * t + 2) (by omega))) rfl ?_
    refine .rd hp (.conv32 rfl Tryd.underlying5 Tryd.underlying54) rfl ?_
    refine .rd hp (.shl32 (s := 8) rfl rfl (by omega)) rfl ?_
    refine .rd hp (.or32 rfl rfl) rfl ?_
    refine .rd hp (.move rfl) rfl ?_
    refine .rd hp (.move rfl) rfl ?_
    refine .rd hp (.mulN (a := 4) rfl rfl (by omega)) rfl ?_
    refine .rd hp (.addN (b := 3) rfl rfl (by omega)) rfl ?_
    refine .rd hp (.nil rfl) rfl ?_
    refine .rd hp (.idxA rfl rfl Tryd.underlying56 Tryd.sizeOf5 (by omega)) rfl ?_
    refine .rd hp (.ldBy rfl Tryd.isAgg5 (hrd _ (4 * t + 3) (by omega))) rfl ?_
    refine .rd hp (.conv32 rfl Tryd.underlying5 Tryd.underlying54) rfl ?_
    refine .rd hp ((Rd.or32 rfl rfl).cast (v' := u32 (next bs (sched bs t) t)) (congrArg u32 ?_)) rfl ?_
    · rw [next_word _ _ _ hlt]
      simp only [word, BitVec.ofNat_toNat]
    refine .rd hp (.idxA rfl rfl Tryd.underlying68 Tryd.sizeOf54 (by omega)) rfl (.done hp ?_)
    refine .st rfl rfl Tryd.sizeOf54 rfl rfl rfl 0 rfl (by rw [Cw_length bs t (by omega)]; omega) (.nil (.inBlock (.seq (.region ?_))))
    refine .rd (.addN (b := 1) rfl rfl (by omega)) rfl ?_
    refine .rd (.move rfl) rfl (.nil (.round (16 - (t + 1)) (by omega) ⟨t + 1, by omega, rfl, rfl, ?_⟩ ⟨rfl, rfl, rfl, rfl, trivial⟩))
    simp only [List.set_cons_zero, Nat.zero_add, Nat.mul_one]
    rw [Cw_set bs t (by omega)]
  have ht : t = 16 := by have := of_decide_eq_false hge; omega
  subst ht
  clear hge
  -- for t := 16; t < len(w); t++
  refine .seq (.seq (.region (.rd (.assign rfl) rfl (.nil (.seq ?_)))))
  refine .block (.weak (L' := [(6, i64 16), (4, .pointer (some ⟨bw, 0, none⟩)), (0, .pointer (some ⟨b1, o1, none⟩))]) ⟨rfl, rfl, rfl, trivial⟩
    (.loop (fun m L M => ∃ t, 16 ≤ t ∧ t ≤ 64 ∧ m = 64 - t ∧ L = [(6, i64 t), (4, .pointer (some ⟨bw, 0, none⟩)), (0, .pointer (some ⟨b1, o1, none⟩))] ∧ M = [⟨bw, Cw bs t, 68⟩, ⟨b1, C1, T1⟩]) 48 ⟨16, by omega, by omega, rfl, rfl, rfl⟩ ?_))
  rintro m L M ⟨t, ht0, ht, rfl, rfl, rfl⟩
  refine .seq (.seq (.region ?_))
  refine .rd (.move rfl) rfl ?_
  refine .rd (.lssN (b := 64) rfl rfl) rfl (.nil (.seq ?_))
  refine .cond rfl (fun hlt => .skip (.seq (.seq ?_))) fun hge => .exit (.thE (.thE (.exitHere (.seq ?_))))
  · have hlt : t < 64 := of_decide_eq_true hlt
    have g : ∀ i, i < t → (Cw bs t)[0 + i * 1]? = some (u32 ((sched bs t).getD i 0)) := fun i hi => by rw [Nat.zero_add, Nat.mul_one]; exact Cw_get bs t i hi
    refine .block (.seq (.draw mixed (by kernel_rfl) ?_))
    refine .rd (.move rfl) rfl ?_
    refine .rd (.subN (b := 15) rfl rfl (by omega) (by omega)) rfl ?_
    refine .rd (.idxA rfl rfl Tryd.underlying68 Tryd.sizeOf54 (by omega)) rfl ?_
    refine .rd (.ld rfl Tryd.isAgg54 0 rfl (g _ (by omega))) rfl ?_
    refine .rd (.move rfl) rfl ?_
    refine .rd (.subN (b := 2) rfl rfl (by omega) (by omega)) rfl ?_
    refine .rd (.idxA rfl rfl Tryd.underlying68 Tryd.sizeOf54 (by omega)) rfl ?_
    refine .rd (.ld rfl Tryd.isAgg54 0 rfl (g _ (by omega))) rfl ?_
    refine .rd (.assign rfl) rfl ?_
    refine .rd (.assign rfl) rfl (.done (.seq (.seq (.region ?_))))
    refine .rd (.move rfl) rfl ?_
    refine .callv (.func rfl Tryd.func35 rfl (by decide)) (fun w _ => right 7 _ w (by decide) (by decide)) rfl ?_
    refine .rd (.move rfl) rfl ?_
    refine .callv (.func rfl Tryd.func35 rfl (by decide)) (fun w _ => right 18 _ w (by decide) (by decide)) rfl ?_
    refine .rd (.xor32 rfl rfl) rfl ?_
    refine .rd (.move rfl) rfl ?_
    refine .rd (.shr32 (s := 3) rfl rfl (by omega)) rfl ?_
    refine .rd (.xor32 rfl rfl) rfl ?_
    refine .rd (.assign rfl) rfl (.nil (.seq (.seq (.region ?_))))
    refine .rd (.move rfl) rfl ?_
    refine .callv (.func rfl Tryd.func35 rfl (by decide)) (fun w _ => right 17 _ w (by decide) (by decide)) rfl ?_
    refine .rd (.move rfl) rfl ?_
    refine .callv (.func rfl Tryd.func35 rfl (by decide)) (fun w _ => right 19 _ w (by decide) (by decide)) rfl ?_
    refine .rd (.xor32 rfl rfl) rfl ?_
    refine .rd (.move rfl) rfl ?_
    refine .rd (.shr32 (s := 10) rfl rfl (by omega)) rfl ?_
    refine .rd (.xor32 rfl rfl) rfl ?_
    refine .rd (.assign rfl) rfl (.nil (.seq ?_))
    refine .drawTail 15 mixed (by kernel_rfl) fun w' hp => ?_
    refine .rd hp (.move rfl) rfl ?_
    refine .rd hp (.move rfl) rfl ?_
    refine .rd hp (.subN (b := 16) rfl rfl (by omega) (by omega)) rfl ?_
    refine .rd hp (.idxA rfl rfl Tryd.underlying68 Tryd.sizeOf54 (by omega)) rfl ?_
    refine .rd hp (.ld rfl Tryd.isAgg54 0 rfl (g _ (by omega))) rfl ?_
    refine .rd hp (.move rfl) rfl ?_
    refine .rd hp (.add32 rfl rfl) rfl ?_
    refine .rd hp (.move rfl) rfl ?_
    refine .rd hp (.subN (b := 7) rfl rfl (by omega) (by omega)) rfl ?_
    refine .rd hp (.idxA rfl rfl Tryd.underlying68 Tryd.sizeOf54 (by omega)) rfl ?_
    refine .rd hp (.ld rfl Tryd.isAgg54 0 rfl (g _ (by omega))) rfl ?_
    refine .rd hp (.add32 rfl rfl) rfl ?_
    refine .rd hp (.move rfl) rfl ?_
    refine .rd hp ((Rd.add32 rfl rfl).cast (v' := u32 (next bs (sched bs t) t)) (congrArg u32 (next_later bs _ t ht0).symm)) rfl ?_
    refine .rd hp (.idxA rfl rfl Tryd.underlying68 Tryd.sizeOf54 (by omega)) rfl (.done hp ?_)
    refine .st rfl rfl Tryd.sizeOf54 rfl rfl rfl 0 rfl (by rw [Cw_length bs t (by omega)]; omega) (.nil (.inBlock (.seq (.region ?_))))
    refine .rd (.move rfl) rfl ?_
    refine .rd (.addN (b := 1) rfl rfl (by omega)) rfl ?_
    refine .rd (.assign rfl) rfl (.nil (.round (64 - (t + 1)) (by omega) ⟨t + 1, by omega, by omega, rfl, rfl, ?_⟩ ⟨rfl, rfl, rfl, trivial⟩))
    simp only [List.set_cons_zero, Nat.zero_add, Nat.mul_one]
    rw [Cw_set bs t (by omega)]
  have ht : t = 64 := by have := of_decide_eq_false hge; omega
  subst ht
  clear hge ht0
  -- the eight words
  have hw : ∀ i, i < 8 → C1[o1 + i * 1]? = some (u32 (s.list.getD i 0)) := fun i hi => by rw [Nat.mul_one]; exact hs i hi
  refine .seq (.draw mixed (by kernel_rfl) ?_)
  refine .rd (.move rfl) rfl ?_
  refine .rd (.nil rfl) rfl ?_
  refine .rd (.idxA (k := 0) rfl rfl Tryd.underlying55 Tryd.sizeOf54 (by omega)) rfl ?_
  refine .rd (.ld rfl Tryd.isAgg54 1 rfl (hw 0 (by omega))) rfl ?_
  refine .rd (.move rfl) rfl ?_
  refine .rd (.nil rfl) rfl ?_
  refine .rd (.idxA (k := 1) rfl rfl Tryd.underlying55 Tryd.sizeOf54 (by omega)) rfl ?_
  refine .rd (.ld rfl Tryd.isAgg54 1 rfl (hw 1 (by omega))) rfl ?_
  refine .rd (.move rfl) rfl ?_
  refine .rd (.nil rfl) rfl ?_
  refine .rd (.idxA (k := 2) rfl rfl Tryd.underlying55 Tryd.sizeOf54 (by omega)) rfl ?_
  refine .rd (.ld rfl Tryd.isAgg54 1 rfl (hw 2 (by omega))) rfl ?_
  refine .rd (.move rfl) rfl ?_
  refine .rd (.nil rfl) rfl ?_
  refine .rd (.idxA (k := 3) rfl rfl Tryd.underlying55 Tryd.sizeOf54 (by omega)) rfl ?_
  refine .rd (.ld rfl Tryd.isAgg54 1 rfl (hw 3 (by omega))) rfl ?_
  refine .rd (.assign rfl) rfl ?_
  refine .rd (.assign rfl) rfl ?_
  refine .rd (.assign rfl) rfl ?_
  refine .rd (.assign rfl) rfl (.done (.seq ?_))
  refine .seq (.draw mixed (by kernel_rfl) ?_)
  refine .rd (.move rfl) rfl ?_
  refine .rd (.nil rfl) rfl ?_
  refine .rd (.idxA (k := 4) rfl rfl Tryd.underlying55 Tryd.sizeOf54 (by omega)) rfl ?_
  refine .rd (.ld rfl Tryd.isAgg54 1 rfl (hw 4 (by omega))) rfl ?_
  refine .rd (.move rfl) rfl ?_
  refine .rd (.nil rfl) rfl ?_
  refine .rd (.idxA (k := 5) rfl rfl Tryd.underlying55 Tryd.sizeOf54 (by omega)) rfl ?_
  refine .rd (.ld rfl Tryd.isAgg54 1 rfl (hw 5 (by omega))) rfl ?_
  refine .rd (.move rfl) rfl ?_
  refine .rd (.nil rfl) rfl ?_
  refine .rd (.idxA (k := 6) rfl rfl Tryd.underlying55 Tryd.sizeOf54 (by omega)) rfl ?_
  refine .rd (.ld rfl Tryd.isAgg54 1 rfl (hw 6 (by omega))) rfl ?_
  refine .rd (.move rfl) rfl ?_
  refine .rd (.nil rfl) rfl ?_
  refine .rd (.idxA (k := 7) rfl rfl Tryd.underlying55 Tryd.sizeOf54 (by omega)) rfl ?_
  refine .rd (.ld rfl Tryd.isAgg54 1 rfl (hw 7 (by omega))) rfl ?_
  refine .rd (.assign rfl) rfl ?_
  refine .rd (.assign rfl) rfl ?_
  refine .rd (.assign rfl) rfl ?_
  refine .rd (.assign rfl) rfl (.done (.seq ?_))
  -- for t := range 64
  refine .seq (.seq (.region (.rd (.move rfl) rfl (.nil (.seq ?_)))))
  refine .block (.weak (L' := [(142, i64 0), (11, u32 s.a), (12, u32 s.b), (13, u32 s.c), (14, u32 s.d), (15, u32 s.e), (16, u32 s.f), (17, u32 s.g), (18, u32 s.h), (4, .pointer (some ⟨bw, 0, none⟩)), (0, .pointer (some ⟨b1, o1, none⟩))]) ⟨rfl, rfl, rfl, rfl, rfl, rfl, rfl, rfl, rfl, rfl, rfl, trivial⟩
    (.loop (fun m L M => ∃ t v, t ≤ 64 ∧ m = 64 - t ∧ v = rounds (sched bs 64) s t ∧ L = [(142, i64 t), (11, u32 v.a), (12, u32 v.b), (13, u32 v.c), (14, u32 v.d), (15, u32 v.e), (16, u32 v.f), (17, u32 v.g), (18, u32 v.h), (4, .pointer (some ⟨bw, 0, none⟩)), (0, .pointer (some ⟨b1, o1, none⟩))] ∧ M = [⟨bw, Cw bs 64, 68⟩, ⟨b1, C1, T1⟩]) 64 ⟨0, s, by omega, rfl, rfl, rfl, rfl⟩ ?_))
  rintro m L M ⟨t, v, ht, rfl, hv, rfl, rfl⟩
  refine .seq (.region (.rd (.lssN (b := 64) rfl rfl) rfl (.nil (.seq ?_))))
  refine .seq (.cond rfl (fun hlt => .skip (.seq ?_)) fun hge => .exit (.thE (.thE (.exitHere (.seq ?_)))))
  · have hlt : t < 64 := of_decide_eq_true hlt
    have g : (Cw bs 64)[0 + t * 1]? = some (u32 ((sched bs 64).getD t 0)) := by rw [Nat.zero_add, Nat.mul_one]; exact Cw_get bs 64 t hlt
    have gK : w.cell? ⟨1, 0 + t * 1, none⟩ = some (u32 (K.getD t 0)) := by
      have hl : t < K.length := hlt
      have := hK t (u32 (K.getD t 0)) (by simp [List.getD, List.getElem?_eq_getElem hl])
      rw [Nat.mul_one]; exact this
    refine .seq (.block (.seq (.region ?_)))
    refine .rd (.move rfl) rfl ?_
    refine .rd (.assign rfl) rfl (.nil (.seq ?_))
    refine .seq (.draw mixed (by kernel_rfl) ?_)
    refine .rd (.move rfl) rfl ?_
    refine .rd (.move rfl) rfl ?_
    refine .callv (.func rfl Tryd.func35 rfl (by decide)) (fun w _ => right 6 _ w (by decide) (by decide)) rfl ?_
    refine .rd (.move rfl) rfl ?_
    refine .callv (.func rfl Tryd.func35 rfl (by decide)) (fun w _ => right 11 _ w (by decide) (by decide)) rfl ?_
    refine .rd (.xor32 rfl rfl) rfl ?_
    refine .rd (.move rfl) rfl ?_
    refine .callv (.func rfl Tryd.func35 rfl (by decide)) (fun w _ => right 25 _ w (by decide) (by decide)) rfl ?_
    refine .rd (.xor32 rfl rfl) rfl ?_
    refine .rd (.add32 rfl rfl) rfl ?_
    refine .rd (.move rfl) rfl ?_
    refine .rd (.move rfl) rfl ?_
    refine .rd (.and32 rfl rfl) rfl ?_
    refine .rd (.move rfl) rfl ?_
    refine .rd (.cpl32 rfl) rfl ?_
    refine .rd (.move rfl) rfl ?_
    refine .rd (.and32 rfl rfl) rfl ?_
    refine .rd (.xor32 rfl rfl) rfl ?_
    refine .rd (.add32 rfl rfl) rfl ?_
    refine .rd (.move rfl) rfl ?_
    refine .rd (.idxA rfl rfl Tryd.underlying68 Tryd.sizeOf54 (by omega)) rfl ?_
    refine .rd (.ldOld rfl Tryd.isAgg54 (by simpa using h1.symm) gK) rfl ?_
    refine .rd (.add32 rfl rfl) rfl ?_
    refine .rd (.move rfl) rfl ?_
    refine .rd (.idxA rfl rfl Tryd.underlying68 Tryd.sizeOf54 (by omega)) rfl ?_
    refine .rd (.ld rfl Tryd.isAgg54 0 rfl g) rfl ?_
    refine .rd ((Rd.add32 rfl rfl).cast (v' := u32 (p1 v (K.getD t 0) ((sched bs 64).getD t 0))) rfl) rfl ?_
    refine .rd (.assign rfl) rfl (.done (.seq ?_))
    refine .seq (.region ?_)
    refine .rd (.move rfl) rfl ?_
    refine .callv (.func rfl Tryd.func35 rfl (by decide)) (fun w _ => right 2 _ w (by decide) (by decide)) rfl ?_
    refine .rd (.move rfl) rfl ?_
    refine .callv (.func rfl Tryd.func35 rfl (by decide)) (fun w _ => right 13 _ w (by decide) (by decide)) rfl ?_
    refine .rd (.xor32 rfl rfl) rfl ?_
    refine .rd (.move rfl) rfl ?_
    refine .callv (.func rfl Tryd.func35 rfl (by decide)) (fun w _ => right 22 _ w (by decide) (by decide)) rfl ?_
    refine .rd (.xor32 rfl rfl) rfl ?_
    refine .rd (.move rfl) rfl ?_
    refine .rd (.move rfl) rfl ?_
    refine .rd (.and32 rfl rfl) rfl ?_
    refine .rd (.move rfl) rfl ?_
    refine .rd (.move rfl) rfl ?_
    refine .rd (.and32 rfl rfl) rfl ?_
    refine .rd (.xor32 rfl rfl) rfl ?_
    refine .rd (.move rfl) rfl ?_
    refine .rd (.move rfl) rfl ?_
    refine .rd (.and32 rfl rfl) rfl ?_
    refine .rd (.xor32 rfl rfl) rfl ?_
    refine .rd ((Rd.add32 rfl rfl).cast (v' := u32 (p2 v)) rfl) rfl ?_
    refine .rd (.assign rfl) rfl (.nil (.seq (.region ?_)))
    refine .rd (.move rfl) rfl ?_
    refine .rd (.move rfl) rfl ?_
    refine .rd (.add32 rfl rfl) rfl ?_
    refine .rd (.move rfl) rfl ?_
    refine .rd (.move rfl) rfl ?_
    refine .rd (.move rfl) rfl ?_
    refine .rd (.move rfl) rfl ?_
    refine .rd (.move rfl) rfl ?_
    refine .rd (.add32 rfl rfl) rfl ?_
    refine .rd (.move rfl) rfl ?_
    refine .rd (.move rfl) rfl ?_
    refine .rd (.move rfl) rfl ?_
    refine .rd (.assign rfl) rfl ?_
    refine .rd (.assign rfl) rfl ?_
    refine .rd (.assign rfl) rfl ?_
    refine .rd (.assign rfl) rfl ?_
    refine .rd (.assign rfl) rfl ?_
    refine .rd (.assign rfl) rfl ?_
    refine .rd (.assign rfl) rfl ?_
    refine .rd (.assign rfl) rfl (.nil (.inBlock (.seq (.region ?_))))
    refine .rd (.addN (b := 1) rfl rfl (by omega)) rfl ?_
    refine .rd (.move rfl) rfl (.nil (.round (64 - (t + 1)) (by omega) ⟨t + 1, Sha.step v (K.getD t 0) ((sched bs 64).getD t 0), by omega, rfl, ?_, rfl, rfl⟩ ⟨rfl, rfl, rfl, rfl, rfl, rfl, rfl, rfl, rfl, rfl, rfl, trivial⟩))
    rw [hv, rounds]
  have ht : t = 64 := by have := of_decide_eq_false hge; omega
  subst ht
  clear hge
  -- for i, x := range [8]uint32{a, ..}
  refine .seq (.region ?_)
  refine .rd (.move rfl) rfl ?_
  refine .rd (.move rfl) rfl ?_
  refine .rd (.move rfl) rfl ?_
  refine .rd (.move rfl) rfl ?_
  refine .rd (.move rfl) rfl ?_
  refine .rd (.move rfl) rfl ?_
  refine .rd (.move rfl) rfl ?_
  refine .rd (.move rfl) rfl ?_
  refine .rd (.build (v := .agg (v.list.map u32).toArray) rfl ?_) rfl ?_
  · intro w; kernel_rfl
  refine .rd (.move rfl) rfl (.nil (.seq ?_))
  have hC1 : o1 + 8 ≤ C1.length := by
    have := (List.getElem?_eq_some_iff.1 (hs 7 (by omega))).1
    omega
  have hlist : v.list.length = 8 := rfl
  have hadd : ∀ i, i < 8 → (s.add v).list.getD i 0 = s.list.getD i 0 + v.list.getD i 0 := by
    intro i hi
    match i, hi with
    | 0, _ | 1, _ | 2, _ | 3, _ | 4, _ | 5, _ | 6, _ | 7, _ => rfl
  have htake : ∀ i, i < 8 → ((s.add v).list.take (i + 1)).map u32 = ((s.add v).list.take i).map u32 ++ [u32 ((s.add v).list.getD i 0)] := by
    intro i hi
    match i, hi with
    | 0, _ | 1, _ | 2, _ | 3, _ | 4, _ | 5, _ | 6, _ | 7, _ => rfl
  have hlen' : ∀ i, i ≤ 8 → (((s.add v).list.take i).map u32).length = i := by
    intro i hi
    have : (s.add v).list.length = 8 := rfl
    simp; omega
  refine .block (.weak (L' := [(214, i64 0), (213, .agg (v.list.map u32).toArray), (0, .pointer (some ⟨b1, o1, none⟩))]) ⟨rfl, rfl, rfl, trivial⟩
    (.loop (fun m L M => ∃ i, i ≤ 8 ∧ m = 8 - i ∧ L = [(214, i64 i), (213, .agg (v.list.map u32).toArray), (0, .pointer (some ⟨b1, o1, none⟩))] ∧ M = [⟨bw, Cw bs 64, 68⟩, ⟨b1, splice C1 o1 (((s.add v).list.take i).map u32), T1⟩]) 8 ⟨0, by omega, rfl, rfl, rfl⟩ ?_))
  rintro m L M ⟨i, hi, rfl, rfl, rfl⟩
  refine .seq (.region (.rd (.lssN (b := 8) rfl rfl) rfl (.nil (.seq ?_))))
  refine .seq (.cond rfl (fun hlt => .skip (.seq ?_)) fun hge => .exit (.thE (.thE (.exitHere ?_))))
  · have hlt : i < 8 := of_decide_eq_true hlt
    have hx : (v.list.map u32)[i]? = some (u32 (v.list.getD i 0)) := by
      match i, hlt with
      | 0, _ | 1, _ | 2, _ | 3, _ | 4, _ | 5, _ | 6, _ | 7, _ => rfl
    have hg : (splice C1 o1 (((s.add v).list.take i).map u32))[o1 + i * 1]? = some (u32 (s.list.getD i 0)) := by
      rw [splice_get _ _ _ _ (by rw [hlen' i hi]; omega), if_neg (by rw [hlen' i hi]; omega)]
      exact hw i hlt
    refine .seq (.block (.seq (.region ?_)))
    refine .rd (.move rfl) rfl ?_
    refine .rd (.idxV rfl rfl Tryd.underlying55 Tryd.isAgg54 Tryd.sizeOf54 (by omega) hx) rfl ?_
    refine .rd (.assign rfl) rfl ?_
    refine .rd (.assign rfl) rfl (.nil (.seq ?_))
    refine .drawTail 9 mixed (by kernel_rfl) fun w' hp => ?_
    refine .rd hp (.move rfl) rfl ?_
    refine .rd hp (.move rfl) rfl ?_
    refine .rd hp (.nil rfl) rfl ?_
    refine .rd hp (.idxA rfl rfl Tryd.underlying55 Tryd.sizeOf54 (by omega)) rfl ?_
    refine .rd hp (.ld rfl Tryd.isAgg54 1 rfl hg) rfl ?_
    refine .rd hp (.move rfl) rfl ?_
    refine .rd hp ((Rd.add32 rfl rfl).cast (v' := u32 ((s.add v).list.getD i 0)) (congrArg u32 (hadd i hlt).symm)) rfl ?_
    refine .rd hp (.nil rfl) rfl ?_
    refine .rd hp (.idxA rfl rfl Tryd.underlying55 Tryd.sizeOf54 (by omega)) rfl (.done hp ?_)
    refine .st rfl rfl Tryd.sizeOf54 rfl rfl rfl 1 rfl (by rw [splice_length]; omega) (.nil (.inBlock (.seq (.region ?_))))
    refine .rd (.addN (b := 1) rfl rfl (by omega)) rfl ?_
    refine .rd (.move rfl) rfl (.nil (.round (8 - (i + 1)) (by omega) ⟨i + 1, by omega, rfl, rfl, ?_⟩ ⟨rfl, rfl, rfl, trivial⟩))
    rw [htake i hlt, splice_snoc, hlen' i hi, Nat.mul_one]
    rfl
  have hi : i = 8 := by have := of_decide_eq_false hge; omega
  subst hi
  refine .end0 rfl fun w' hp => ⟨rfl, ?_⟩
  have := hp.sub (M' := [⟨b1, splice C1 o1 (((s.add v).list.take 8).map u32), T1⟩]) (by simp)
  rw [show (s.add v).list.take 8 = (comp s bs).list by rw [hv]; rfl] at this
  exact this

end Go.Proofs.YtmokinjncelmbaaDoorRRR
