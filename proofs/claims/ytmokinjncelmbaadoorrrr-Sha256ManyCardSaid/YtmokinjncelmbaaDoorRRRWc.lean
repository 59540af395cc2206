/- The walks of the reference's table, schedule and block: the slice holds the block's bytes. -/
import Derived.Test.YtmokinjncelmbaaDoorRRRWb
import Derived.Test.YtmokinjncelmbaaDoorRRRKe
namespace Go.Proofs.YtmokinjncelmbaaDoorRRR
open Go.Sx Go.Sha

theorem one_u32 {l : List (BitVec 32)} : ∀ v ∈ l.map u32, v.oneCell' = true := fun v hv => by obtain ⟨x, _, rfl⟩ := List.mem_map.1 hv; rfl
theorem one_u8 {l : List (BitVec 8)} : ∀ v ∈ l.map u8, v.oneCell' = true := fun v hv => by obtain ⟨x, _, rfl⟩ := List.mem_map.1 hv; rfl

theorem info55 : (Tryd.prog.info? 55).map (·.size) = some 8 := by kernel_rfl
theorem info68 : (Tryd.prog.info? 68).map (·.size) = some 64 := by kernel_rfl
theorem info24 : (Tryd.prog.info? 24).map (·.size) = some 32 := by kernel_rfl
theorem info25 : (Tryd.prog.info? 25).map (·.size) = some 32 := by kernel_rfl
theorem info56 : (Tryd.prog.info? 56).map (·.size) = some 64 := by kernel_rfl
theorem info58 : (Tryd.prog.info? 58).map (·.size) = some 73 := by kernel_rfl

theorem refK (w : World) : Calls Tryd.prog 32 [].toArray w fun e w' => e = .returned (.agg (K.map u32).toArray) ∧ Hp w w' [] [] := by
  refine enter0 Tryd.func32 rfl rfl ?_
  refine .seq (.region (.alloc Tryd.zeroValue68 rfl (C := List.replicate 64 (.int .u32 0)) rfl fun b hb => .nil (.seq ?_)))
  refine .seq (.region ?_)
  refine .rd (.build (v := .agg (K.map u32).toArray) rfl (fun w => by kernel_rfl)) rfl ?_
  refine .stAgg rfl rfl Tryd.sizeOf68 one_u32 rfl 0 rfl (by decide) (.nil (.seq (.ret ?_)))
  rw [splice_all _ _ (by decide)]
  exact .retCell rfl rfl (j := 0) rfl Tryd.underlying68 rfl info68 fun w' hp => ⟨rfl, hp.nil⟩

theorem add_or (a b c d : BitVec 8) : BitVec.ofNat 32 a.toNat <<< 24 + BitVec.ofNat 32 b.toNat <<< 16 + BitVec.ofNat 32 c.toNat <<< 8 + BitVec.ofNat 32 d.toNat = a.setWidth 32 <<< 24 ||| b.setWidth 32 <<< 16 ||| c.setWidth 32 <<< 8 ||| d.setWidth 32 := by
  simp only [BitVec.ofNat_toNat]
  have z : ∀ (x : BitVec 8) (k : Nat), 8 ≤ k → x.getLsbD k = false := fun x k h => BitVec.getLsbD_of_ge x k h
  have h1 : (a.setWidth 32 <<< 24) &&& (b.setWidth 32 <<< 16) = 0#32 := by
    ext i hi
    simp
    intro _ _ _
    exact z b _ (by omega)
  have h2 : (a.setWidth 32 <<< 24 ||| b.setWidth 32 <<< 16) &&& (c.setWidth 32 <<< 8) = 0#32 := by
    ext i hi
    simp
    by_cases hc : i < 16
    · intro h; rcases h with ⟨h, _⟩ | ⟨h, _⟩ <;> omega
    · intro _ _
      exact z c _ (by omega)
  have h3 : (a.setWidth 32 <<< 24 ||| b.setWidth 32 <<< 16 ||| c.setWidth 32 <<< 8) &&& (d.setWidth 32) = 0#32 := by
    ext i hi
    simp
    by_cases hc : i < 8
    · intro h; rcases h with (⟨h, _⟩ | ⟨h, _⟩) | ⟨h, _⟩ <;> omega
    · intro _
      exact z d _ (by omega)
  rw [BitVec.add_eq_or_of_and_eq_zero _ _ h1, BitVec.add_eq_or_of_and_eq_zero _ _ h2, BitVec.add_eq_or_of_and_eq_zero _ _ h3]

theorem schedule (bs : List (BitVec 8)) (w : World) (b o len cap : Nat) (hlen : bs.length = 64) (hl : 64 ≤ len) (hb : w.rangeAt b o (bs.map u8)) :
    Calls Tryd.prog 31 [.slice (some ⟨b, o, none⟩) len cap].toArray w fun e w' => e = .returned (.agg ((sched bs 64).map u32).toArray) ∧ Hp w w' [] [] := by
  have hrd : ∀ i, i < 64 → w.cell? ⟨b, o + i * 1, none⟩ = some (u8 (bs.getD i 0)) := by
    intro i hi
    have hl : i < bs.length := by omega
    have := hb i (u8 (bs.getD i 0)) (by simp [List.getD, List.getElem?_eq_getElem hl])
    simpa using this
  refine enter0 Tryd.func31 rfl rfl ?_
  refine .seq (.region (.alloc Tryd.zeroValue68 rfl (C := List.replicate 64 (.int .u32 0)) rfl fun br hbr => .nil (.seq ?_)))
  refine .seq (.region (.alloc Tryd.zeroValue68 rfl (C := Cw bs 0) rfl fun bw hbw => .nil (.seq ?_)))
  refine .seq (.seq (.region (.rd (.assign rfl) rfl (.nil (.seq ?_)))))
  refine .block (.weak (L' := [(4, i64 0), (3, .pointer (some ⟨bw, 0, none⟩)), (2, .pointer (some ⟨br, 0, none⟩)), (0, .slice (some ⟨b, o, none⟩) len cap)]) ⟨rfl, rfl, rfl, rfl, trivial⟩
    (.loop (fun m L M => ∃ t, t ≤ 64 ∧ m = 64 - t ∧ L = [(4, i64 t), (3, .pointer (some ⟨bw, 0, none⟩)), (2, .pointer (some ⟨br, 0, none⟩)), (0, .slice (some ⟨b, o, none⟩) len cap)] ∧ M = [⟨bw, Cw bs t, 68⟩, ⟨br, List.replicate 64 (.int .u32 0), 68⟩]) 64 ⟨0, by omega, rfl, rfl, rfl⟩ ?_))
  rintro m L M ⟨t, ht, rfl, rfl, rfl⟩
  refine .seq (.seq (.region ?_))
  refine .rd (.move rfl) rfl ?_
  refine .rd (.lssN (b := 64) rfl rfl) rfl (.nil (.seq ?_))
  refine .cond rfl (fun hlt => .skip (.seq ?_)) fun hge => .exit (.thE (.thE (.exitHere (.seq ?_))))
  · have hlt : t < 64 := of_decide_eq_true hlt
    refine .seq (.block (.seq (.seq (.region ?_))))
    refine .rd (.move rfl) rfl ?_
    refine .rd (.lssN (b := 16) rfl rfl) rfl (.nil (.seq ?_))
    refine .cond rfl (fun h16 => .seq ?_) fun h16 => .skip (.seq ?_)
    · have h16 : t < 16 := of_decide_eq_true h16
      refine .drawTail 35 mixed (by kernel_rfl) fun w' hp => ?_
      refine .rd hp (.move rfl) rfl ?_
      refine .rd hp (.move rfl) rfl ?_
      refine .rd hp (.move rfl) rfl ?_
      refine .rd hp (.mulN (a := 4) rfl rfl (by omega)) rfl ?_
      refine .rd hp (.idxS rfl rfl Tryd.underlying29 Tryd.sizeOf5 (by omega)) rfl ?_
      refine .rd hp (.ldOld rfl Tryd.isAgg5 (by simp) (hrd (4 * t) (by omega))) rfl ?_
      refine .rd hp (.conv32 rfl Tryd.underlying5 Tryd.underlying54) rfl ?_
      refine .rd hp (.shl32 (s := 24) rfl rfl (by omega)) rfl ?_
      refine .rd hp (.move rfl) rfl ?_
      refine .rd hp (.move rfl) rfl ?_
      refine .rd hp (.mulN (a := 4) rfl rfl (by omega)) rfl ?_
      refine .rd hp (.addN (b := 1) rfl rfl (by omega)) rfl ?_
      refine .rd hp (.idxS rfl rfl Tryd.underlying29 Tryd.sizeOf5 (by omega)) rfl ?_
      refine .rd hp (.ldOld rfl Tryd.isAgg5 (by simp) (hrd (4 * t + 1) (by omega))) rfl ?_
      refine .rd hp (.conv32 rfl Tryd.underlying5 Tryd.underlying54) rfl ?_
      refine .rd hp (.shl32 (s := 16) rfl rfl (by omega)) rfl ?_
      refine .rd hp (.add32 rfl rfl) rfl ?_
      refine .rd hp (.move rfl) rfl ?_
      refine .rd hp (.move rfl) rfl ?_
      refine .rd hp (.mulN (a := 4) rfl rfl (by omega)) rfl ?_
      refine .rd hp (.addN (b := 2) rfl rfl (by omega)) rfl ?_
      refine .rd hp (.idxS rfl rfl Tryd.underlying29 Tryd.sizeOf5 (by omega)) rfl ?_
      refine .rd hp (.ldOld rfl Tryd.isAgg5 (by simp) (hrd (4 * t + 2) (by omega))) rfl ?_
      refine .rd hp (.conv32 rfl Tryd.underlying5 Tryd.underlying54) rfl ?_
      refine .rd hp (.shl32 (s := 8) rfl rfl (by omega)) rfl ?_
      refine .rd hp (.add32 rfl rfl) rfl ?_
      refine .rd hp (.move rfl) rfl ?_
      refine .rd hp (.move rfl) rfl ?_
      refine .rd hp (.mulN (a := 4) rfl rfl (by omega)) rfl ?_
      refine .rd hp (.addN (b := 3) rfl rfl (by omega)) rfl ?_
      refine .rd hp (.idxS rfl rfl Tryd.underlying29 Tryd.sizeOf5 (by omega)) rfl ?_
      refine .rd hp (.ldOld rfl Tryd.isAgg5 (by simp) (hrd (4 * t + 3) (by omega))) rfl ?_
      refine .rd hp (.conv32 rfl Tryd.underlying5 Tryd.underlying54) rfl ?_
      refine .rd hp ((Rd.add32 rfl rfl).cast (v' := u32 (next bs (sched bs t) t)) (congrArg u32 ?_)) rfl ?_
      · rw [next_word _ _ _ h16, word]
        exact add_or _ _ _ _
      refine .rd hp (.idxA rfl rfl Tryd.underlying68 Tryd.sizeOf54 (by omega)) rfl (.done hp ?_)
      refine .st rfl rfl Tryd.sizeOf54 rfl rfl rfl 0 rfl (by rw [Cw_length bs t (by omega)]; omega) (.nil (.seq (.exit (.thE (.exitHere (.seq (.region ?_)))))))
      refine .rd (.move rfl) rfl ?_
      refine .rd (.addN (b := 1) rfl rfl (by omega)) rfl ?_
      refine .rd (.assign rfl) rfl (.nil (.round (64 - (t + 1)) (by omega) ⟨t + 1, by omega, rfl, rfl, ?_⟩ ⟨rfl, rfl, rfl, rfl, trivial⟩))
      simp only [List.set_cons_zero, Nat.zero_add, Nat.mul_one]
      rw [Cw_set bs t (by omega)]
    · have ht0 : 16 ≤ t := by have := of_decide_eq_false h16; omega
      have g : ∀ i, i < t → (Cw bs t)[0 + i * 1]? = some (u32 ((sched bs t).getD i 0)) := fun i hi => by rw [Nat.zero_add, Nat.mul_one]; exact Cw_get bs t i hi
      refine .seq (.draw mixed (by kernel_rfl) ?_)
      refine .rd (.move rfl) rfl ?_
      refine .rd (.subN (b := 15) rfl rfl (by omega) (by omega)) rfl ?_
      refine .rd (.idxA rfl rfl Tryd.underlying68 Tryd.sizeOf54 (by omega)) rfl ?_
      refine .rd (.ld rfl Tryd.isAgg54 0 rfl (g _ (by omega))) rfl ?_
      refine .rd (.move rfl) rfl ?_
      refine .rd (.subN (b := 2) rfl rfl (by omega) (by omega)) rfl ?_
      refine .rd (.idxA rfl rfl Tryd.underlying68 Tryd.sizeOf54 (by omega)) rfl ?_
      refine .rd (.ld rfl Tryd.isAgg54 0 rfl (g _ (by omega))) rfl ?_
      refine .rd (.assign rfl) rfl ?_
      refine .rd (.assign rfl) rfl (.done (.seq (.seq (.region ?_))))
      refine .rd (.move rfl) rfl ?_
      refine .callv (.func rfl Tryd.func33 rfl (by decide)) (fun w _ => turn 7 _ w (by decide) (by decide)) rfl ?_
      refine .rd (.move rfl) rfl ?_
      refine .callv (.func rfl Tryd.func33 rfl (by decide)) (fun w _ => turn 18 _ w (by decide) (by decide)) rfl ?_
      refine .rd (.xor32 rfl rfl) rfl ?_
      refine .rd (.move rfl) rfl ?_
      refine .rd (.shr32 (s := 3) rfl rfl (by omega)) rfl ?_
      refine .rd (.xor32 rfl rfl) rfl ?_
      refine .rd (.assign rfl) rfl (.nil (.seq (.seq (.region ?_))))
      refine .rd (.move rfl) rfl ?_
      refine .callv (.func rfl Tryd.func33 rfl (by decide)) (fun w _ => turn 17 _ w (by decide) (by decide)) rfl ?_
      refine .rd (.move rfl) rfl ?_
      refine .callv (.func rfl Tryd.func33 rfl (by decide)) (fun w _ => turn 19 _ w (by decide) (by decide)) rfl ?_
      refine .rd (.xor32 rfl rfl) rfl ?_
      refine .rd (.move rfl) rfl ?_
      refine .rd (.shr32 (s := 10) rfl rfl (by omega)) rfl ?_
      refine .rd (.xor32 rfl rfl) rfl ?_
      refine .rd (.assign rfl) rfl (.nil (.seq ?_))
      refine .drawTail 15 mixed (by kernel_rfl) fun w' hp => ?_
      refine .rd hp (.move rfl) rfl ?_
      refine .rd hp (.move rfl) rfl ?_
      refine .rd hp (.subN (b := 16) rfl rfl (by omega) (by omega)) rfl ?_
      refine .rd hp (.idxA rfl rfl Tryd.underlying68 Tryd.sizeOf54 (by omega)) rfl ?_
      refine .rd hp (.ld rfl Tryd.isAgg54 0 rfl (g _ (by omega))) rfl ?_
      refine .rd hp (.move rfl) rfl ?_
      refine .rd hp (.add32 rfl rfl) rfl ?_
      refine .rd hp (.move rfl) rfl ?_
      refine .rd hp (.subN (b := 7) rfl rfl (by omega) (by omega)) rfl ?_
      refine .rd hp (.idxA rfl rfl Tryd.underlying68 Tryd.sizeOf54 (by omega)) rfl ?_
      refine .rd hp (.ld rfl Tryd.isAgg54 0 rfl (g _ (by omega))) rfl ?_
      refine .rd hp (.add32 rfl rfl) rfl ?_
      refine .rd hp (.move rfl) rfl ?_
      refine .rd hp ((Rd.add32 rfl rfl).cast (v' := u32 (next bs (sched bs t) t)) (congrArg u32 (next_later bs _ t ht0).symm)) rfl ?_
      refine .rd hp (.idxA rfl rfl Tryd.underlying68 Tryd.sizeOf54 (by omega)) rfl (.done hp ?_)
      refine .st rfl rfl Tryd.sizeOf54 rfl rfl rfl 0 rfl (by rw [Cw_length bs t (by omega)]; omega) (.nil (.inBlock (.seq (.region ?_))))
      refine .rd (.move rfl) rfl ?_
      refine .rd (.addN (b := 1) rfl rfl (by omega)) rfl ?_
      refine .rd (.assign rfl) rfl (.nil (.round (64 - (t + 1)) (by omega) ⟨t + 1, by omega, rfl, rfl, ?_⟩ ⟨rfl, rfl, rfl, rfl, trivial⟩))
      simp only [List.set_cons_zero, Nat.zero_add, Nat.mul_one]
      rw [Cw_set bs t (by omega)]
  have ht : t = 64 := by have := of_decide_eq_false hge; omega
  subst ht
  have hfull : Cw bs 64 = (sched bs 64).map u32 := by simp [Cw]
  have hlw : ((sched bs 64).map u32).length = 64 := by simp [sched_length]
  rw [hfull]
  refine .seq (.region ?_)
  refine .rd ((Rd.ldAgg (m := 64) rfl Tryd.underlying68 rfl info68 0 rfl (by omega)).cast (v' := .agg ((sched bs 64).map u32).toArray) (by rw [List.drop_zero, List.take_of_length_le (by omega)])) rfl ?_
  refine .stAgg rfl rfl (by rw [hlw]; exact Tryd.sizeOf68) one_u32 rfl 1 rfl (by rw [hlw]; decide) (.nil (.seq (.ret ?_)))
  rw [splice_all _ _ (by rw [hlw]; rfl)]
  exact .retCell rfl rfl (j := 1) rfl Tryd.underlying68 rfl (by rw [hlw]; exact info68) fun w' hp => ⟨rfl, hp.nil⟩

end Go.Proofs.YtmokinjncelmbaaDoorRRR
