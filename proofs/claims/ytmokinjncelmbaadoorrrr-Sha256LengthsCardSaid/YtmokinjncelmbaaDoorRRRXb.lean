/- The walk of Sha256Lengths: at every two bytes it hands back true. -/
import Derived.Test.YtmokinjncelmbaaDoorRRRXa
namespace Go.Proofs.YtmokinjncelmbaaDoorRRR
open Go.Sx Go.Sha

theorem head_get {xs sp : List Value} {i : Nat} {v : Value} (hv : xs[i]? = some v) : (xs ++ sp)[0 + i]? = some v := by
  rw [Nat.zero_add, List.getElem?_append_left (List.getElem?_eq_some_iff.1 hv).1]; exact hv

/-- The text of one byte 0. -/
def zb : ByteArray := ⟨#[0]⟩
theorem bsOf_zb : bsOf zb = [0#8] := rfl

theorem pad_differs (m : List (BitVec 8)) : pad m ≠ pad (m ++ [0#8]) := by
  intro h
  unfold pad at h
  have h1 := List.append_inj_right' h (by rw [len8_length, len8_length])
  have h2 := congrArg (fun l => l.getD 7 0) h1
  simp [len8] at h2
  have h3 := congrArg BitVec.toNat h2
  simp at h3
  omega

theorem lengths (n c : BitVec 8) (w : World) (hT : Tables w) : Calls Tryd.prog 4 [u8 n, u8 c].toArray w fun e w' => e = .returned (.bool true) ∧ Hp w w' [] [] := by
  have hn := n.isLt
  refine enter0 Tryd.func4 rfl rfl ?_
  refine .seq (.region (.rd (.assign rfl) rfl (.nil (.seq ?_))))
  refine .seq (.region (.rd (.assign rfl) rfl (.nil (.seq ?_))))
  refine .seq (.seq (.region (.rd (.assign rfl) rfl (.nil (.seq ?_)))))
  refine .block (.weak (L' := [(6, i64 0), (5, .slice none 0 0), (1, u8 c), (0, u8 n)]) ⟨rfl, rfl, rfl, rfl, trivial⟩
    (.loop (fun r L M => ∃ k v, k ≤ n.toNat ∧ r = n.toNat - k ∧ L = [(6, i64 k), (5, v), (1, u8 c), (0, u8 n)] ∧ ((k = 0 ∧ v = .slice none 0 0 ∧ M = []) ∨ (0 < k ∧ ∃ b sp, v = bsl b (List.replicate k c) sp ∧ M = [bbl b (List.replicate k c) sp 5]))) n.toNat ⟨0, _, by omega, rfl, rfl, .inl ⟨rfl, rfl, rfl⟩⟩ ?_))
  rintro r L M ⟨k, v, hk, rfl, rfl, hv⟩
  refine .seq (.seq (.region ?_))
  refine .rd (.move rfl) rfl ?_
  refine .rd (.move rfl) rfl ?_
  refine .rd (.convI rfl Tryd.underlying5 Tryd.underlying3 (by omega)) rfl ?_
  refine .rd (.lssN rfl rfl) rfl (.nil (.seq ?_))
  refine .cond rfl (fun hlt => .skip (.seq ?_)) fun hge => .exit (.thE (.thE (.exitHere (.seq ?_))))
  · have hlt : k < n.toNat := of_decide_eq_true hlt
    refine .mid (fun L' M' => ∃ b sp, L' = [(6, i64 k), (5, bsl b (List.replicate (k + 1) c) sp), (1, u8 c), (0, u8 n)] ∧ M' = [bbl b (List.replicate (k + 1) c) sp 5]) ?_ ?_
    · refine .block (.region ?_)
      refine .rd (.move rfl) rfl ?_
      refine .rd (.move rfl) rfl ?_
      refine .buildSlice (C := [u8 c]) (e := 5) rfl (fun w => by kernel_rfl) rfl fun b8 hb8 => ?_
      rcases hv with ⟨rfl, rfl, rfl⟩ | ⟨h0, b, sp, rfl, rfl⟩
      · refine .appendNil (news := [u8 c]) elem29 rfl rfl rfl (.ofBlock (j := 0) rfl rfl (by simp [Value.oneCell'])) (by simp) (by simp) (by simp) fun b2 sp2 => ?_
        refine .rd (.assign rfl) rfl (.nil (.inBlock ?_))
        refine .dropM (M' := [bbl b2 [c] sp2 5]) (.cons_cons _ (List.nil_sublist _)) ?_
        exact .mid ⟨b2, sp2, rfl, rfl⟩ ⟨rfl, rfl, rfl, rfl, trivial⟩
      · refine .appendB (l' := [c]) elem29 rfl rfl rfl 1 rfl (.ofBlock (j := 0) rfl rfl (by simp [Value.oneCell'])) (by simp; omega) fun b2 sp2 => ?_
        refine .rd (.assign rfl) rfl (.nil (.inBlock ?_))
        refine .dropM (M' := [bbl b2 (List.replicate k c ++ [c]) sp2 5]) (List.sublist_cons_self _ _) ?_
        rw [← List.replicate_succ']
        exact .mid ⟨b2, sp2, rfl, rfl⟩ ⟨rfl, rfl, rfl, rfl, trivial⟩
    rintro L' M' ⟨b, sp, rfl, rfl⟩
    refine .region ?_
    refine .rd (.move rfl) rfl ?_
    refine .rd (.addN (b := 1) rfl rfl (by omega)) rfl ?_
    refine .rd (.assign rfl) rfl (.nil (.round (n.toNat - (k + 1)) (by omega) ⟨k + 1, _, by omega, rfl, rfl, .inr ⟨by omega, b, sp, rfl, rfl⟩⟩ ⟨rfl, rfl, rfl, rfl, trivial⟩))
  refine .mid (fun L' M' => ∃ t : ByteArray, t.size ≤ 255 ∧ L' = [(7, .string t)] ∧ M' = []) ?_ ?_
  · refine .region ?_
    refine .rd (.move rfl) rfl ?_
    rcases hv with ⟨rfl, rfl, rfl⟩ | ⟨h0, b, sp, rfl, rfl⟩
    · refine .rd (.toStrNil rfl Tryd.underlying29 Tryd.underlying5 Tryd.underlying9) rfl ?_
      refine .rd (.assign rfl) rfl (.nil ?_)
      exact .mid ⟨_, by simp, rfl, rfl⟩ ⟨rfl, trivial⟩
    · refine .rd (.toStr (l := List.replicate k c) rfl Tryd.underlying29 Tryd.underlying5 Tryd.underlying9 rfl (fun w' hp => hp.range (j := 0) rfl fun i v hv => head_get hv)) rfl ?_
      refine .rd (.assign rfl) rfl (.nil ?_)
      exact .dropM (List.nil_sublist _) (.mid ⟨_, by simp; omega, rfl, rfl⟩ ⟨rfl, trivial⟩)
  rintro L' M' ⟨t, ht0, rfl, rfl⟩
  clear hv hge hk
  have ht : t.size ≤ 1099511627776 := by omega
  have hz1 : (t ++ zb).size = t.size + 1 := by rw [ByteArray.size_append]; rfl
  have hz2 : zb.size = 1 := rfl
  have hz : (t ++ zb).size ≤ 1099511627776 := by omega
  have hbz : bsOf (t ++ zb) = bsOf t ++ [0#8] := bsOf_append t zb
  refine .mid (fun L' M' => L' = [(9, .string (ofBs (pad (bsOf (t ++ zb))))), (8, .string (ofBs (pad (bsOf t)))), (7, .string t)] ∧ M' = []) ?_ ?_
  · have calm : ∀ {K1 : Act → World → Prop} {R : Ending → World → Prop}, Sx.Calm (Exit.then K1 (bodyPost Tryd.prog Tryd.f4 R)) := calm_then calm_body
    refine .heldBy [] mixed ?_
    refine .take 0 rfl (by kernel_rfl) (by kernel_rfl) (by kernel_rfl) calm (List.nil_sublist _) (.move rfl) rfl ?_
    refine .take 3 rfl (by kernel_rfl) (by kernel_rfl) (by kernel_rfl) calm (List.nil_sublist _) (.move rfl) rfl ?_
    refine .take 4 rfl (by kernel_rfl) (by kernel_rfl) (by kernel_rfl) calm (List.nil_sublist _) (.strAdd (b := zb) rfl rfl (by omega)) rfl ?_
    refine .all (rs := [1]) (by kernel_rfl) (by simp) (all1 (.op rfl (.callNew (α := Nat × List Value) (v := fun x => bsl x.1 (pad (bsOf t)) x.2) (N := fun x => [bbl x.1 (pad (bsOf t)) x.2 5]) (.func (vs := [.string t]) rfl Tryd.func13 rfl (by decide)) (fun w' _ => (Pad t w' ht).mono fun e w'' ⟨b, sp, h1, h2⟩ => ⟨(b, sp), h1, h2⟩) rfl fun ⟨b1, sp1⟩ => .nil (WO.end (List.nil_sublist _) ?_))))
    refine .all (rs := [2, 5]) (by kernel_rfl) (by simp) (all2 (.op rfl (.rd (.toStr (l := pad (bsOf t)) rfl Tryd.underlying29 Tryd.underlying5 Tryd.underlying9 rfl (fun w' hp => hp.range (j := 0) rfl fun i v hv => head_get hv)) rfl (.nil (WO.end (List.nil_sublist _) ?_)))) (.op rfl (.callNew (α := Nat × List Value) (v := fun x => bsl x.1 (pad (bsOf (t ++ zb))) x.2) (N := fun x => [bbl x.1 (pad (bsOf (t ++ zb))) x.2 5]) (.func (vs := [.string (t ++ zb)]) rfl Tryd.func13 rfl (by decide)) (fun w' _ => (Pad (t ++ zb) w' hz).mono fun e w'' ⟨b, sp, h1, h2⟩ => ⟨(b, sp), h1, h2⟩) rfl fun ⟨b2, sp2⟩ => .nil (WO.end (List.nil_sublist _) ?_))))
    · refine .all (rs := [5]) (by kernel_rfl) (by simp) (all1 (.op rfl (.callNew (α := Nat × List Value) (v := fun x => bsl x.1 (pad (bsOf (t ++ zb))) x.2) (N := fun x => [bbl x.1 (pad (bsOf (t ++ zb))) x.2 5]) (.func (vs := [.string (t ++ zb)]) rfl Tryd.func13 rfl (by decide)) (fun w' _ => (Pad (t ++ zb) w' hz).mono fun e w'' ⟨b, sp, h1, h2⟩ => ⟨(b, sp), h1, h2⟩) rfl fun ⟨b2, sp2⟩ => .nil (WO.end (List.nil_sublist _) ?_))))
      refine .all (rs := [6, 7]) (by kernel_rfl) (by simp) (all2 (.op rfl (.rd (.toStr (l := pad (bsOf (t ++ zb))) rfl Tryd.underlying29 Tryd.underlying5 Tryd.underlying9 rfl (fun w' hp => hp.range (j := 0) rfl fun i v hv => head_get hv)) rfl (.nil (WO.end (List.nil_sublist _) ?_)))) (.op rfl (.rd (.assign rfl) rfl (.nil (WO.end (List.nil_sublist _) ?_)))))
      · refine .all (rs := [7]) (by kernel_rfl) (by simp) (all1 (.op rfl (.rd (.assign rfl) rfl (.nil (WO.end (List.nil_sublist _) ?_)))))
        refine .all (rs := [8]) (by kernel_rfl) (by simp) (all1 (.op rfl (.rd (.assign rfl) rfl (.nil (WO.end (List.nil_sublist _) ?_)))))
        exact .done (by kernel_rfl) (.dropM (List.nil_sublist _) (.mid ⟨rfl, rfl⟩ ⟨rfl, rfl, rfl, trivial⟩))
      · refine .all (rs := [6]) (by kernel_rfl) (by simp) (all1 (.op rfl (.rd (.toStr (l := pad (bsOf (t ++ zb))) rfl Tryd.underlying29 Tryd.underlying5 Tryd.underlying9 rfl (fun w' hp => hp.range (j := 0) rfl fun i v hv => head_get hv)) rfl (.nil (WO.end (List.nil_sublist _) ?_)))))
        refine .all (rs := [8]) (by kernel_rfl) (by simp) (all1 (.op rfl (.rd (.assign rfl) rfl (.nil (WO.end (List.nil_sublist _) ?_)))))
        exact .done (by kernel_rfl) (.dropM (List.nil_sublist _) (.mid ⟨rfl, rfl⟩ ⟨rfl, rfl, rfl, trivial⟩))
    · refine .all (rs := [2, 6]) (by kernel_rfl) (by simp) (all2 (.op rfl (.rd (.toStr (l := pad (bsOf t)) rfl Tryd.underlying29 Tryd.underlying5 Tryd.underlying9 rfl (fun w' hp => hp.range (j := 1) rfl fun i v hv => head_get hv)) rfl (.nil (WO.end (List.nil_sublist _) ?_)))) (.op rfl (.rd (.toStr (l := pad (bsOf (t ++ zb))) rfl Tryd.underlying29 Tryd.underlying5 Tryd.underlying9 rfl (fun w' hp => hp.range (j := 0) rfl fun i v hv => head_get hv)) rfl (.nil (WO.end (List.nil_sublist _) ?_)))))
      · refine .all (rs := [6, 7]) (by kernel_rfl) (by simp) (all2 (.op rfl (.rd (.toStr (l := pad (bsOf (t ++ zb))) rfl Tryd.underlying29 Tryd.underlying5 Tryd.underlying9 rfl (fun w' hp => hp.range (j := 0) rfl fun i v hv => head_get hv)) rfl (.nil (WO.end (List.nil_sublist _) ?_)))) (.op rfl (.rd (.assign rfl) rfl (.nil (WO.end (List.nil_sublist _) ?_)))))
        · refine .all (rs := [7]) (by kernel_rfl) (by simp) (all1 (.op rfl (.rd (.assign rfl) rfl (.nil (WO.end (List.nil_sublist _) ?_)))))
          refine .all (rs := [8]) (by kernel_rfl) (by simp) (all1 (.op rfl (.rd (.assign rfl) rfl (.nil (WO.end (List.nil_sublist _) ?_)))))
          exact .done (by kernel_rfl) (.dropM (List.nil_sublist _) (.mid ⟨rfl, rfl⟩ ⟨rfl, rfl, rfl, trivial⟩))
        · refine .all (rs := [6]) (by kernel_rfl) (by simp) (all1 (.op rfl (.rd (.toStr (l := pad (bsOf (t ++ zb))) rfl Tryd.underlying29 Tryd.underlying5 Tryd.underlying9 rfl (fun w' hp => hp.range (j := 0) rfl fun i v hv => head_get hv)) rfl (.nil (WO.end (List.nil_sublist _) ?_)))))
          refine .all (rs := [8]) (by kernel_rfl) (by simp) (all1 (.op rfl (.rd (.assign rfl) rfl (.nil (WO.end (List.nil_sublist _) ?_)))))
          exact .done (by kernel_rfl) (.dropM (List.nil_sublist _) (.mid ⟨rfl, rfl⟩ ⟨rfl, rfl, rfl, trivial⟩))
      · refine .all (rs := [2]) (by kernel_rfl) (by simp) (all1 (.op rfl (.rd (.toStr (l := pad (bsOf t)) rfl Tryd.underlying29 Tryd.underlying5 Tryd.underlying9 rfl (fun w' hp => hp.range (j := 1) rfl fun i v hv => head_get hv)) rfl (.nil (WO.end (List.nil_sublist _) ?_)))))
        refine .all (rs := [7]) (by kernel_rfl) (by simp) (all1 (.op rfl (.rd (.assign rfl) rfl (.nil (WO.end (List.nil_sublist _) ?_)))))
        refine .all (rs := [8]) (by kernel_rfl) (by simp) (all1 (.op rfl (.rd (.assign rfl) rfl (.nil (WO.end (List.nil_sublist _) ?_)))))
        exact .done (by kernel_rfl) (.dropM (List.nil_sublist _) (.mid ⟨rfl, rfl⟩ ⟨rfl, rfl, rfl, trivial⟩))
  rintro L' M' ⟨rfl, rfl⟩
  have hx : (ofBs (pad (bsOf t))).size % 64 = 0 := by rw [ofBs_size]; exact pad_mod _
  have hxy : ¬ ofBs (pad (bsOf t)) = ofBs (pad (bsOf (t ++ zb))) := fun h => by
    have := congrArg bsOf h
    rw [bsOf_ofBs, bsOf_ofBs, hbz] at this
    exact pad_differs _ this
  generalize ofBs (pad (bsOf t)) = x at *
  generalize ofBs (pad (bsOf (t ++ zb))) = y at *
  refine .seq (.region ?_)
  refine .callv (.func (vs := []) rfl Tryd.func10 rfl (by decide)) (fun w' hp => known w' (hT.nil hp)) rfl ?_
  refine .rd (.move rfl) rfl ?_
  refine .guardYes rfl ?_
  refine .rd (.move rfl) rfl ?_
  refine .guardYes rfl ?_
  refine .callv (.func (vs := [.string t]) rfl Tryd.func11 rfl (by decide)) (fun w' hp => sum t w' (hT.nil hp) ht) rfl ?_
  refine .guardYes rfl ?_
  refine .rd (.move rfl) rfl ?_
  refine .guardYes rfl ?_
  refine .callv (.func (vs := [.string t]) rfl Tryd.func12 rfl (by decide)) (fun w' _ => refSum t w' ht) rfl ?_
  refine .guardYes rfl ?_
  refine .rd ((Rd.eqlArr rfl rfl Tryd.underlying24 Tryd.underlying5 Tryd.sizeOf5 guard24 (out_length _) (out_length _)).cast (v' := .bool true) (by simp)) rfl ?_
  refine .rd (.pick rfl rfl) rfl ?_
  refine .rd (.move rfl) rfl ?_
  refine .guardYes rfl ?_
  refine .rd (.move rfl) rfl ?_
  refine .guardYes rfl ?_
  refine .rd (.strAdd (b := zb) rfl rfl (by omega)) rfl ?_
  refine .guardYes rfl ?_
  refine .callv (.func (vs := [.string (t ++ zb)]) rfl Tryd.func11 rfl (by decide)) (fun w' hp => sum (t ++ zb) w' (hT.nil hp) hz) rfl ?_
  refine .guardYes rfl ?_
  refine .rd (.move rfl) rfl ?_
  refine .guardYes rfl ?_
  refine .rd (.strAdd (b := zb) rfl rfl (by omega)) rfl ?_
  refine .guardYes rfl ?_
  refine .callv (.func (vs := [.string (t ++ zb)]) rfl Tryd.func12 rfl (by decide)) (fun w' _ => refSum (t ++ zb) w' hz) rfl ?_
  refine .guardYes rfl ?_
  refine .rd ((Rd.eqlArr rfl rfl Tryd.underlying24 Tryd.underlying5 Tryd.sizeOf5 guard24 (out_length _) (out_length _)).cast (v' := .bool true) (by simp)) rfl ?_
  refine .rd (.pick rfl rfl) rfl ?_
  refine .rd (.move rfl) rfl ?_
  refine .guardYes rfl ?_
  refine .rd (.move rfl) rfl ?_
  refine .guardYes rfl ?_
  refine .rd (.move rfl) rfl ?_
  refine .guardYes rfl ?_
  refine .rd ((Rd.strNeq (a := x) (b := y) rfl rfl).cast (v' := .bool true) (by simp [hxy])) rfl ?_
  refine .rd (.pick rfl rfl) rfl ?_
  refine .rd (.move rfl) rfl ?_
  refine .guardYes rfl ?_
  refine .rd (.move rfl) rfl ?_
  refine .guardYes rfl ?_
  refine .rd (.len rfl Tryd.underlying9) rfl ?_
  refine .guardYes rfl ?_
  refine .rd (.remN (b := 64) rfl rfl (by omega)) rfl ?_
  refine .guardYes rfl ?_
  refine .rd ((Rd.eqlN (b := 0) rfl rfl).cast (v' := .bool true) (by simp [hx])) rfl ?_
  refine .rd (.pick rfl rfl) rfl ?_
  refine .rd (.assign rfl) rfl (.nil (.seq (.ret ?_)))
  exact .ret1 rfl rfl fun w' hp => ⟨rfl, hp.nil⟩
end Go.Proofs.YtmokinjncelmbaaDoorRRR
