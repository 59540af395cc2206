/- The walks of the reference's Compare and of Sha256Compares: at every input it hands back true. -/
import Derived.Test.YtmokinjncelmbaaDoorRRRXa
import Derived.Test.YtmokinjncelmbaaDoorRRRWj
namespace Go.Sx
variable {P : Program} {n : Nat} {w0 : World} {O : List Nat} {L : Env} {M : List Blk} {ty T T' : TypeId} {x y : Operand}
theorem Rd.rem8 {a b : Nat} (hx : ev L x = some (.int .u8 (a : Int))) (hy : ev L y = some (.int .u8 (b : Int))) (hb : 0 < b) : Rd P n w0 O M L (.binOp .rem T x y T') ty (.int .u8 ((a % b : Nat) : Int)) :=
  .int2 hx hy fun w => by
    have h0 : b ≠ 0 := by omega
    have h1 : (a : Int).tmod (b : Int) = (a : Int) % (b : Int) := Int.tmod_eq_emod_of_nonneg (by omega)
    simp [binOp, Op.intDiv, h0, h1]
theorem Rd.eqlBool {a b : Bool} (hx : ev L x = some (.bool a)) (hy : ev L y = some (.bool b)) (hu : P.underlying T = some .bool) : Rd P n w0 O M L (.binOp .eql T x y T') ty (.bool (a == b)) := fun _ _ _ _ _ w hk _ => by
  have h1 : binOp .eql T (.bool a) (.bool b) = (do pure (.bool (← Op.equal T (.bool a) (.bool b)))) := rfl
  have h2 : (Op.equal T (.bool a) (.bool b)).run P w = .ok (a == b) w := run_equal_bool w T a b hu
  simp only [execOp, hk.eval hx, hk.eval hy, h1, eqGuard]
  simp [h2]
end Go.Sx
namespace Go.Proofs.YtmokinjncelmbaaDoorRRR
open Go.Sx Go.Sha

theorem getD_get (A : List (BitVec 8)) (i : Nat) (hi : i < A.length) : A[i]? = some (A.getD i 0) := by simp [List.getElem?_eq_getElem hi]
theorem cell_get (A : List (BitVec 8)) (i : Nat) (hi : i < A.length) : (A.map u8)[0 + i * 1]? = some (u8 (A.getD i 0)) := by
  rw [Nat.zero_add, Nat.mul_one, List.getElem?_map, getD_get A i hi]
  rfl
theorem drop_getD (A : List (BitVec 8)) (i : Nat) (hi : i < A.length) : A.drop i = A.getD i 0 :: A.drop (i + 1) := by
  rw [List.drop_eq_getElem_cons hi]
  simp [List.getElem?_eq_getElem hi]

theorem refCompare (A B : List (BitVec 8)) (w : World) (hA : A.length = 32) (hB : B.length = 32) :
    Calls Tryd.prog 16 [.agg (A.map u8).toArray, .agg (B.map u8).toArray].toArray w fun e w' => e = .returned (.int .i64 (cmpB A B)) ∧ Hp w w' [] [] := by
  refine enter0 Tryd.func16 rfl rfl ?_
  refine .seq (.region ?_)
  refine .box rfl rfl (C := A.map u8) rfl fun b2 h2 => ?_
  refine .box rfl rfl (C := B.map u8) rfl fun b3 h3 => ?_
  refine .rd (.assign rfl) rfl (.nil (.seq ?_))
  refine .seq (.seq (.region (.rd (.assign rfl) rfl (.nil (.seq ?_)))))
  refine .block (.weak (L' := [(5, i64 0), (3, .pointer (some ⟨b3, 0, none⟩)), (2, .pointer (some ⟨b2, 0, none⟩))]) ⟨rfl, rfl, rfl, trivial⟩
    (.loop (fun r L M => ∃ k, k ≤ 32 ∧ r = 32 - k ∧ cmpB (A.drop k) (B.drop k) = cmpB A B ∧ L = [(5, i64 k), (3, .pointer (some ⟨b3, 0, none⟩)), (2, .pointer (some ⟨b2, 0, none⟩))] ∧ M = [⟨b3, B.map u8, 24⟩, ⟨b2, A.map u8, 24⟩]) 32 ⟨0, by omega, rfl, rfl, rfl, rfl⟩ ?_))
  rintro r L M ⟨k, hk, rfl, hc, rfl, rfl⟩
  refine .seq (.seq (.region ?_))
  refine .rd (.move rfl) rfl ?_
  refine .rd (.lssN (b := 32) rfl rfl) rfl (.nil (.seq ?_))
  refine .cond rfl (fun hlt => .skip (.seq ?_)) fun hge => .exit (.thE (.thE (.exitHere (.seq ?_))))
  · have hlt : k < 32 := of_decide_eq_true hlt
    have ga := cell_get A k (by omega)
    have gb := cell_get B k (by omega)
    have hc' := hc
    rw [drop_getD A k (by omega), drop_getD B k (by omega), cmpB_cons] at hc'
    generalize A.getD k 0 = x at *
    generalize B.getD k 0 = y at *
    refine .seq (.block (.seq (.seq (.draw mixed (by kernel_rfl) ?_))))
    refine .rd (.move rfl) rfl ?_
    refine .rd (.idxA rfl rfl Tryd.underlying24 Tryd.sizeOf5 hlt) rfl ?_
    refine .rd (.ld (v := u8 x) rfl Tryd.isAgg5 1 rfl ga) rfl ?_
    refine .rd (.move rfl) rfl ?_
    refine .rd (.idxA rfl rfl Tryd.underlying24 Tryd.sizeOf5 hlt) rfl ?_
    refine .rd (.ld (v := u8 y) rfl Tryd.isAgg5 0 rfl gb) rfl ?_
    refine .rd ((Rd.lss rfl rfl).cast (v' := .bool (decide (x < y))) (by simp [BitVec.lt_def])) rfl (.done (.seq ?_))
    refine .cond rfl (fun h1 => ?_) fun h1 => .skip (.seq (.seq (.draw mixed (by kernel_rfl) ?_)))
    · have h1 : x < y := of_decide_eq_true h1
      rw [if_pos h1] at hc'
      refine .seq (.region (.rd (.assign rfl) rfl (.nil (.seq (.ret ?_)))))
      repeat (first | refine At.thR ?_ | refine At.blR ?_)
      exact .ret1 rfl rfl fun w' hp => ⟨by rw [← hc'], hp.nil⟩
    have h1 : ¬ x < y := of_decide_eq_false h1
    refine .rd (.move rfl) rfl ?_
    refine .rd (.idxA rfl rfl Tryd.underlying24 Tryd.sizeOf5 hlt) rfl ?_
    refine .rd (.ld (v := u8 x) rfl Tryd.isAgg5 1 rfl ga) rfl ?_
    refine .rd (.move rfl) rfl ?_
    refine .rd (.idxA rfl rfl Tryd.underlying24 Tryd.sizeOf5 hlt) rfl ?_
    refine .rd (.ld (v := u8 y) rfl Tryd.isAgg5 0 rfl gb) rfl ?_
    refine .rd ((Rd.gtr rfl rfl).cast (v' := .bool (decide (y < x))) (by simp [BitVec.lt_def])) rfl (.done (.seq ?_))
    refine .cond rfl (fun h2 => ?_) fun h2 => .skip (.inBlock (.seq (.region ?_)))
    · have h2 : y < x := of_decide_eq_true h2
      rw [if_neg h1, if_pos h2] at hc'
      refine .seq (.region (.rd (.assign rfl) rfl (.nil (.seq (.ret ?_)))))
      repeat (first | refine At.thR ?_ | refine At.blR ?_)
      exact .ret1 rfl rfl fun w' hp => ⟨by rw [← hc'], hp.nil⟩
    have h2 : ¬ y < x := of_decide_eq_false h2
    rw [if_neg h1, if_neg h2] at hc'
    refine .rd (.move rfl) rfl ?_
    refine .rd (.addN (b := 1) rfl rfl (by omega)) rfl ?_
    refine .rd (.assign rfl) rfl (.nil (.round (32 - (k + 1)) (by omega) ⟨k + 1, by omega, rfl, hc', rfl, rfl⟩ ⟨rfl, rfl, rfl, trivial⟩))
  have hk : k = 32 := by have := of_decide_eq_false hge; omega
  subst hk
  rw [List.drop_of_length_le (by omega), List.drop_of_length_le (by omega)] at hc
  refine .seq (.region (.rd (.assign rfl) rfl (.nil (.seq (.ret ?_)))))
  exact .ret1 rfl rfl fun w' hp => ⟨by rw [← hc]; rfl, hp.nil⟩

theorem info32 : (Tryd.prog.info? 32).map (·.size) = some 2 := by kernel_rfl

/-- One byte is changed by 'by': nothing has turned just where 'by' is 0. -/
theorem change_same (A : List (BitVec 8)) (i : Nat) (y : BitVec 8) (hi : i < A.length) : A = A.set i (A.getD i 0 ^^^ y) ↔ y = 0#8 := by
  constructor
  · intro h
    have h1 := congrArg (fun l => l.getD i 0) h
    simp [List.getD, hi] at h1
    have h2 := congrArg (A[i] ^^^ ·) h1
    simpa [← BitVec.xor_assoc] using h2.symm
  · rintro rfl
    simp [List.getElem?_eq_getElem hi]

theorem compares (A ch c : List (BitVec 8)) (w : World) (hT : Tables w) (hA : A.length = 32) (hch : ch.length = 2) (hc : c.length = 32) :
    Calls Tryd.prog 5 [.agg (A.map u8).toArray, .agg (ch.map u8).toArray, .agg (c.map u8).toArray].toArray w fun e w' => e = .returned (.bool true) ∧ Hp w w' [] [] := by
  obtain ⟨c0, c1, rfl⟩ : ∃ c0 c1, ch = [c0, c1] := by
    match ch, hch with
    | [a, b], _ => exact ⟨a, b, rfl⟩
  have i24 : ∀ X : List (BitVec 8), X.length = 32 → (Tryd.prog.info? 24).map (·.size) = some (X.map u8).length := fun X h => by rw [info24, List.length_map, h]
  have i25 : ∀ X : List (BitVec 8), X.length = 32 → (Tryd.prog.info? 25).map (·.size) = some (X.map u8).length := fun X h => by rw [info25, List.length_map, h]
  have s24 : ∀ X : List (BitVec 8), X.length = 32 → ∀ w, (sizeOf 24).run Tryd.prog w = .ok (X.map u8).length w := fun X h w => by rw [List.length_map, h]; exact Tryd.sizeOf24 w
  have s25 : ∀ X : List (BitVec 8), X.length = 32 → ∀ w, (sizeOf 25).run Tryd.prog w = .ok (X.map u8).length w := fun X h w => by rw [List.length_map, h]; exact Tryd.sizeOf25 w
  refine enter0 Tryd.func5 rfl rfl ?_
  refine .seq (.region ?_)
  refine .box rfl rfl (C := A.map u8) rfl fun b3 h3 => ?_
  refine .box rfl rfl (C := [u8 c0, u8 c1]) rfl fun b4 h4 => ?_
  refine .box rfl rfl (C := c.map u8) rfl fun b5 h5 => ?_
  refine .rd (.assign rfl) rfl (.nil (.seq ?_))
  have calm : ∀ {K1 : Act → World → Prop} {R : Ending → World → Prop}, Sx.Calm (Exit.then K1 (bodyPost Tryd.prog Tryd.f5 R)) := calm_then calm_body
  refine .seq (.held mixed ?_)
  refine .take 0 rfl (by kernel_rfl) (by kernel_rfl) (by kernel_rfl) calm (.refl _) (.ldFull rfl Tryd.underlying24 rfl (i24 A hA) 2 rfl) rfl ?_
  refine .take 1 rfl (by kernel_rfl) (by kernel_rfl) (by kernel_rfl) calm (.refl _) (.idxA (k := 1) rfl rfl Tryd.underlying32 Tryd.sizeOf5 (by omega)) rfl ?_
  refine .take 2 rfl (by kernel_rfl) (by kernel_rfl) (by kernel_rfl) calm (.refl _) (.ld (v := u8 c1) rfl Tryd.isAgg5 1 rfl rfl) rfl ?_
  refine .all (rs := [3]) (by kernel_rfl) (by simp) (all1 (.op rfl (.alloc Tryd.zeroValue24 rfl (C := List.replicate 32 (.int .u8 0)) rfl fun b7 h7 => .nil (WO.end (.cons _ (.refl _)) ?_))))
  refine .all (rs := [4]) (by kernel_rfl) (by simp) (all1 (.op rfl (.stAgg (vs := A.map u8) rfl rfl (s24 A hA) one_u8 rfl 0 rfl (by simp [hA]) (.nil (WO.end (.cons _ (.refl _)) ?_)))))
  refine .all (rs := [5]) (by kernel_rfl) (by simp) (all1 (.op rfl (.rd (.assign rfl) rfl (.nil (WO.end (.cons _ (.refl _)) ?_)))))
  refine .done (by kernel_rfl) (.seq ?_)
  rw [splice_zeros32 _ hA]
  have hi : c0.toNat % 32 < 32 := Nat.mod_lt _ (by omega)
  refine .seq (.region ?_)
  refine .rd (.idxA (k := 0) rfl rfl Tryd.underlying32 Tryd.sizeOf5 (by omega)) rfl ?_
  refine .rd (.ld (v := u8 c0) rfl Tryd.isAgg5 2 rfl rfl) rfl ?_
  refine .rd (.rem8 (b := 32) rfl rfl (by omega)) rfl ?_
  refine .rd (.idxA rfl rfl Tryd.underlying24 Tryd.sizeOf5 hi) rfl ?_
  refine .rd (.ld (v := u8 (A.getD (c0.toNat % 32) 0)) rfl Tryd.isAgg5 0 rfl (cell_get A _ (by omega))) rfl ?_
  refine .rd (.move rfl) rfl ?_
  refine .rd (.xor8 rfl rfl) rfl ?_
  refine .rd (.idxA rfl rfl Tryd.underlying24 Tryd.sizeOf5 hi) rfl ?_
  refine .st (v := u8 (A.getD (c0.toNat % 32) 0 ^^^ c1)) rfl rfl Tryd.sizeOf5 rfl rfl rfl 0 rfl (by simp [hA]; omega) (.nil (.seq ?_))
  have hsame := change_same A (c0.toNat % 32) c1 (by omega)
  rw [Nat.zero_add, Nat.mul_one, ← List.map_set]
  have hB : (A.set (c0.toNat % 32) (A.getD (c0.toNat % 32) 0 ^^^ c1)).length = 32 := by simp [hA]
  generalize A.set (c0.toNat % 32) (A.getD (c0.toNat % 32) 0 ^^^ c1) = B at *
  -- the two digests
  refine .mid (fun L M => ∃ b9 b10, L = [(10, .pointer (some ⟨b10, 0, none⟩)), (9, .pointer (some ⟨b9, 0, none⟩)), (8, u8 c1), (5, .pointer (some ⟨b5, 0, none⟩)), (3, .pointer (some ⟨b3, 0, none⟩))] ∧ M = [⟨b10, B.map u8, 25⟩, ⟨b9, A.map u8, 25⟩, ⟨b7, B.map u8, 24⟩, ⟨b5, c.map u8, 24⟩, ⟨b4, [u8 c0, u8 c1], 32⟩, ⟨b3, A.map u8, 24⟩]) ?_ ?_
  · refine .held mixed ?_
    refine .take 0 rfl (by kernel_rfl) (by kernel_rfl) (by kernel_rfl) calm (.refl _) (.ldFull rfl Tryd.underlying24 rfl (i24 A hA) 3 rfl) rfl ?_
    refine .take 1 rfl (by kernel_rfl) (by kernel_rfl) (by kernel_rfl) calm (.refl _) (.ldFull rfl Tryd.underlying24 rfl (i24 B hB) 0 rfl) rfl ?_
    refine .all (rs := [2, 3]) (by kernel_rfl) (by simp) (all2 (.op rfl (.alloc Tryd.zeroValue25 rfl (C := List.replicate 32 (.int .u8 0)) rfl fun b9 h9 => .nil (WO.end (.cons _ (.refl _)) ?_))) (.op rfl (.alloc Tryd.zeroValue25 rfl (C := List.replicate 32 (.int .u8 0)) rfl fun b10 h10 => .nil (WO.end (.cons _ (.refl _)) ?_))))
    · refine .all (rs := [3]) (by kernel_rfl) (by simp) (all1 (.op rfl (.alloc Tryd.zeroValue25 rfl (C := List.replicate 32 (.int .u8 0)) rfl fun b10 h10 => .nil (WO.end (.cons _ (.cons _ (.refl _))) ?_))))
      refine .all (rs := [4]) (by kernel_rfl) (by simp) (all1 (.op rfl (.stAgg (vs := A.map u8) rfl rfl (s25 A hA) one_u8 rfl 1 rfl (by simp [hA]) (.nil (WO.end (.cons _ (.cons _ (.refl _))) ?_)))))
      refine .all (rs := [5]) (by kernel_rfl) (by simp) (all1 (.op rfl (.stAgg (vs := B.map u8) rfl rfl (s25 B hB) one_u8 rfl 0 rfl (by simp [hB]) (.nil (WO.end (.cons _ (.cons _ (.refl _))) ?_)))))
      refine .done (by kernel_rfl) (.mid ⟨b9, b10, rfl, ?_⟩ ⟨rfl, rfl, rfl, rfl, rfl, trivial⟩)
      rw [splice_zeros32 _ hA, splice_zeros32 _ hB]; rfl
    · refine .all (rs := [2]) (by kernel_rfl) (by simp) (all1 (.op rfl (.alloc Tryd.zeroValue25 rfl (C := List.replicate 32 (.int .u8 0)) rfl fun b9 h9 => .nil (WO.end (.cons _ (.cons _ (.refl _))) ?_))))
      refine .all (rs := [4]) (by kernel_rfl) (by simp) (all1 (.op rfl (.stAgg (vs := A.map u8) rfl rfl (s25 A hA) one_u8 rfl 0 rfl (by simp [hA]) (.nil (WO.end (.cons _ (.cons _ (.refl _))) ?_)))))
      refine .all (rs := [5]) (by kernel_rfl) (by simp) (all1 (.op rfl (.stAgg (vs := B.map u8) rfl rfl (s25 B hB) one_u8 rfl 1 rfl (by simp [hB]) (.nil (WO.end (.cons _ (.cons _ (.refl _))) ?_)))))
      refine .done (by kernel_rfl) (.perm (.swap _ _ _) (.mid ⟨b9, b10, rfl, ?_⟩ ⟨rfl, rfl, rfl, rfl, rfl, trivial⟩))
      rw [splice_zeros32 _ hA, splice_zeros32 _ hB]; rfl
  rintro L M ⟨b9, b10, rfl, rfl⟩
  refine .seq (.region (.rd (.assign rfl) rfl (.nil (.seq ?_))))
  refine .mid (fun L M => L = [(11, .int .i64 (if cmpB A B < 0 then -1 else 0)), (10, .pointer (some ⟨b10, 0, none⟩)), (9, .pointer (some ⟨b9, 0, none⟩)), (8, u8 c1), (5, .pointer (some ⟨b5, 0, none⟩)), (3, .pointer (some ⟨b3, 0, none⟩))] ∧ M = [⟨b10, B.map u8, 25⟩, ⟨b9, A.map u8, 25⟩, ⟨b7, B.map u8, 24⟩, ⟨b5, c.map u8, 24⟩, ⟨b4, [u8 c0, u8 c1], 32⟩, ⟨b3, A.map u8, 24⟩]) ?_ ?_
  · refine .seq (.draw mixed (by kernel_rfl) ?_)
    refine .rd (.ldFull rfl Tryd.underlying25 rfl (i25 A hA) 1 rfl) rfl ?_
    refine .callv (.func (vs := [.agg (A.map u8).toArray]) rfl Tryd.func14 rfl (by decide)) (fun w' hp => string A w' hA) rfl ?_
    refine .rd (.ldFull rfl Tryd.underlying25 rfl (i25 B hB) 0 rfl) rfl ?_
    refine .callv (.func (vs := [.agg (B.map u8).toArray]) rfl Tryd.func14 rfl (by decide)) (fun w' hp => string B w' hB) rfl ?_
    refine .rd ((Rd.strLss rfl rfl).cast (v' := .bool (decide (cmpB A B < 0))) (by rw [less_texts])) rfl (.done (.seq ?_))
    refine .cond rfl (fun h => ?_) fun h => .skip ?_
    · rw [if_pos (of_decide_eq_true h)]
      exact .region (.rd (.assign rfl) rfl (.nil (.mid ⟨rfl, rfl⟩ ⟨rfl, rfl, rfl, rfl, rfl, rfl, trivial⟩)))
    · rw [if_neg (of_decide_eq_false h)]
      exact .mid ⟨rfl, rfl⟩ ⟨rfl, rfl, rfl, rfl, rfl, rfl, trivial⟩
  rintro L M ⟨rfl, rfl⟩
  refine .mid (fun L M => L = [(11, .int .i64 (cmpB A B)), (10, .pointer (some ⟨b10, 0, none⟩)), (9, .pointer (some ⟨b9, 0, none⟩)), (8, u8 c1), (5, .pointer (some ⟨b5, 0, none⟩)), (3, .pointer (some ⟨b3, 0, none⟩))] ∧ M = [⟨b10, B.map u8, 25⟩, ⟨b9, A.map u8, 25⟩, ⟨b7, B.map u8, 24⟩, ⟨b5, c.map u8, 24⟩, ⟨b4, [u8 c0, u8 c1], 32⟩, ⟨b3, A.map u8, 24⟩]) ?_ ?_
  · refine .seq (.draw mixed (by kernel_rfl) ?_)
    refine .rd (.ldFull rfl Tryd.underlying25 rfl (i25 A hA) 1 rfl) rfl ?_
    refine .callv (.func (vs := [.agg (A.map u8).toArray]) rfl Tryd.func14 rfl (by decide)) (fun w' hp => string A w' hA) rfl ?_
    refine .rd (.ldFull rfl Tryd.underlying25 rfl (i25 B hB) 0 rfl) rfl ?_
    refine .callv (.func (vs := [.agg (B.map u8).toArray]) rfl Tryd.func14 rfl (by decide)) (fun w' hp => string B w' hB) rfl ?_
    refine .rd ((Rd.strGtr rfl rfl).cast (v' := .bool (decide (0 < cmpB A B))) (by rw [more_texts])) rfl (.done (.seq ?_))
    have h3 := cmpB_three A B
    refine .cond rfl (fun h => ?_) fun h => .skip ?_
    · have h := of_decide_eq_true h
      rw [show cmpB A B = 1 by omega]
      exact .region (.rd (.assign rfl) rfl (.nil (.mid ⟨rfl, rfl⟩ ⟨rfl, rfl, rfl, rfl, rfl, rfl, trivial⟩)))
    · have h := of_decide_eq_false h
      have e : (if cmpB A B < 0 then -1 else 0) = cmpB A B := by split <;> omega
      rw [e]
      exact .mid ⟨rfl, rfl⟩ ⟨rfl, rfl, rfl, rfl, rfl, rfl, trivial⟩
  rintro L M ⟨rfl, rfl⟩
  have hbd := cmpB_bounds A B
  have hz : (cmpB A B == 0) = (c1 == 0#8) := by
    rw [Bool.eq_iff_iff, beq_iff_eq, beq_iff_eq, cmpB_zero, hsame]
  refine .seq (.draw mixed (by kernel_rfl) ?_)
  refine .callv (.func (vs := []) rfl Tryd.func10 rfl (by decide)) (fun w' hp => known w' (hT.nil hp)) rfl ?_
  refine .rd (.move rfl) rfl ?_
  refine .guardYes rfl ?_
  refine .rd (.ldFull rfl Tryd.underlying25 rfl (i25 A hA) 1 rfl) rfl ?_
  refine .guardYes rfl ?_
  refine .rd (.ldFull rfl Tryd.underlying25 rfl (i25 B hB) 0 rfl) rfl ?_
  refine .guardYes rfl ?_
  refine .callv (.func (vs := [.agg (A.map u8).toArray, .agg (B.map u8).toArray]) rfl Tryd.func15 rfl (by decide)) (fun w' hp => compare A B w' hA hB) rfl ?_
  refine .guardYes rfl ?_
  refine .rd (.move rfl) rfl ?_
  refine .guardYes rfl ?_
  refine .rd ((Rd.eql rfl rfl).cast (v' := .bool true) (by simp)) rfl ?_
  refine .rd (.pick rfl rfl) rfl ?_
  refine .rd (.move rfl) rfl ?_
  refine .guardYes rfl ?_
  refine .rd (.ldFull rfl Tryd.underlying25 rfl (i25 B hB) 0 rfl) rfl ?_
  refine .guardYes rfl ?_
  refine .rd (.ldFull rfl Tryd.underlying25 rfl (i25 A hA) 1 rfl) rfl ?_
  refine .guardYes rfl ?_
  refine .callv (.func (vs := [.agg (B.map u8).toArray, .agg (A.map u8).toArray]) rfl Tryd.func15 rfl (by decide)) (fun w' hp => compare B A w' hB hA) rfl ?_
  refine .guardYes rfl ?_
  refine .rd (.move rfl) rfl ?_
  refine .guardYes rfl ?_
  refine .rd (.neg rfl (by omega) (by omega)) rfl ?_
  refine .guardYes rfl ?_
  refine .rd ((Rd.eql rfl rfl).cast (v' := .bool true) (by rw [cmpB_neg A B]; simp)) rfl ?_
  refine .rd (.pick rfl rfl) rfl ?_
  refine .rd (.move rfl) rfl ?_
  refine .guardYes rfl ?_
  refine .rd (.ldFull rfl Tryd.underlying25 rfl (i25 A hA) 1 rfl) rfl ?_
  refine .guardYes rfl ?_
  refine .rd (.ldFull rfl Tryd.underlying24 rfl (i24 c hc) 3 rfl) rfl ?_
  refine .guardYes rfl ?_
  refine .callv (.func (vs := [.agg (A.map u8).toArray, .agg (c.map u8).toArray]) rfl Tryd.func15 rfl (by decide)) (fun w' hp => compare A c w' hA hc) rfl ?_
  refine .guardYes rfl ?_
  refine .rd (.ldFull rfl Tryd.underlying24 rfl (i24 A hA) 5 rfl) rfl ?_
  refine .guardYes rfl ?_
  refine .rd (.ldFull rfl Tryd.underlying24 rfl (i24 c hc) 3 rfl) rfl ?_
  refine .guardYes rfl ?_
  refine .callv (.func (vs := [.agg (A.map u8).toArray, .agg (c.map u8).toArray]) rfl Tryd.func16 rfl (by decide)) (fun w' hp => refCompare A c w' hA hc) rfl ?_
  refine .guardYes rfl ?_
  refine .rd ((Rd.eql rfl rfl).cast (v' := .bool true) (by simp)) rfl ?_
  refine .rd (.pick rfl rfl) rfl ?_
  refine .rd (.move rfl) rfl ?_
  refine .guardYes rfl ?_
  refine .rd (.move rfl) rfl ?_
  refine .guardYes rfl ?_
  refine .rd (.eql rfl rfl) rfl ?_
  refine .guardYes rfl ?_
  refine .rd (.move rfl) rfl ?_
  refine .guardYes rfl ?_
  refine .rd (.eql8 (b := 0#8) rfl rfl) rfl ?_
  refine .guardYes rfl ?_
  refine .rd ((Rd.eqlBool rfl rfl Tryd.underlying4).cast (v' := .bool true) (by rw [hz]; simp)) rfl ?_
  refine .rd (.pick rfl rfl) rfl ?_
  refine .rd (.assign rfl) rfl (.done (.seq (.ret ?_)))
  exact .ret1 rfl rfl fun w' hp => ⟨rfl, hp.nil⟩
end Go.Proofs.YtmokinjncelmbaaDoorRRR
