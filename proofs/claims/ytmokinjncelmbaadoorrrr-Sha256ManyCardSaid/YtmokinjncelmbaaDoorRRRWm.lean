/- The walks of Tagged, of the reference's Tagged, of the law's 'list' and 'same': lists of texts of at most 100 bytes. -/
import Derived.Test.YtmokinjncelmbaaDoorRRRWl
namespace Go.Sx
variable {P : Program} {n : Nat} {w0 : World} {O : List Nat}
variable {ops : Array Oper} {Q : Exit → Act → World → Prop} {rest : List Oper} {L : Env} {M : List Blk}
variable {d : Option Tmp} {o : Op} {ty : TypeId} {pos : String} {aft : Array Edge}
/-- A call that hands back new blocks, a value that leads to them, and a fact on both. -/
theorem WL.callNewP {α : Type} {f : FuncId} {args : Array Value} {v : α → Value} {N : α → List Blk} {p : α → Prop} (hc : Cl P n L o ty f args) (hcall : ∀ w, Hp w0 w O M → Calls P f args w fun e w' => ∃ x, p x ∧ e = .returned (v x) ∧ Hp w w' [] (N x)) (hd : fits n d = true)
    (h : ∀ x, p x → WL P n w0 O ops Q rest (push d (v x) L) (N x ++ M)) : WL P n w0 O ops Q (⟨d, o, ty, pos, aft, none⟩ :: rest) L M :=
  WL.call (R := fun e w w' => ∃ x, p x ∧ e = .returned (v x) ∧ Hp w w' [] (N x)) hc hcall fun _ _ _ hp ⟨x, hx0, hx, hn⟩ => ⟨v x, hx, fun _ hk => h x hx0 _ _ (hk.push hd) (hp.after_new hn)⟩
end Go.Sx
namespace Go.Proofs.YtmokinjncelmbaaDoorRRR
open Go.Sx Go.Sha

abbrev none32 : List (BitVec 8) := List.replicate 32 0#8
abbrev tagOut (tag : BitVec 8) (ss : List ByteArray) : Value :=
  if ss.length ≤ 255 then .tuple [.agg ((sha (joined tag (bytesOf' ss))).map u8).toArray, .int .i64 0].toArray else .tuple [.agg (none32.map u8).toArray, .int .i64 9].toArray
theorem build25 : ∀ w, (Instr.build 25 #[]).run Tryd.prog w = .ok (.agg (none32.map u8).toArray) w := fun w => by kernel_rfl
theorem sizes_bytes {ss : List ByteArray} (hs : ∀ s ∈ ss, s.size ≤ 100) : ∀ x ∈ bytesOf' ss, x.length ≤ 100 := fun x hx => by
  obtain ⟨s, h, rfl⟩ := List.mem_map.1 hx
  rw [bsOf_length]
  exact hs s h
theorem joined_small (tag : BitVec 8) (ss : List ByteArray) (hs : ∀ s ∈ ss, s.size ≤ 100) (hl : ss.length ≤ 255) : (ofBs (joined tag (bytesOf' ss))).size ≤ 1099511627776 := by
  have := joined_bound tag (bytesOf' ss) (sizes_bytes hs)
  rw [List.length_map] at this
  rw [ofBs_size]
  omega

theorem tagged (tag : BitVec 8) (ss : List ByteArray) (a : Option Addr) (len cap : Nat) (w : World) (hT : Tables w) (ht : Texts w a len ss) (hs : ∀ s ∈ ss, s.size ≤ 100) :
    Calls Tryd.prog 25 [u8 tag, .slice a len cap].toArray w fun e w' => e = .returned (tagOut tag ss) ∧ Hp w w' [] [] := by
  refine enter0 Tryd.func25 rfl rfl ?_
  refine .seq (.region ?_)
  refine .alloc Tryd.zeroValue25 rfl (C := List.replicate 32 (.int .u8 0)) rfl fun b4 h4 => ?_
  refine .rd (.assign rfl) rfl (.nil (.seq ?_))
  refine .seq (.region ?_)
  refine .rd (.move rfl) rfl ?_
  refine .rd (.move rfl) rfl ?_
  refine .callv (.func (vs := [u8 tag, .slice a len cap]) rfl Tryd.func23 rfl (by decide)) (fun w' hp => join tag ss a len cap w' (ht.after hp) hs) rfl ?_
  refine .rd (.move rfl) rfl ?_
  by_cases hl : ss.length ≤ 255
  · rw [joinOut, tagOut, if_pos hl, if_pos hl]
    have hsm := joined_small tag ss hs hl
    have hss : bsOf (ofBs (joined tag (bytesOf' ss))) = joined tag (bytesOf' ss) := bsOf_ofBs _
    generalize ofBs (joined tag (bytesOf' ss)) = t at *
    rw [← hss]
    refine .rd (.extract rfl rfl) rfl ?_
    refine .rd (.extract rfl rfl) rfl ?_
    refine .rd (.assign rfl) rfl ?_
    refine .rd (.assign rfl) rfl (.nil (.seq ?_))
    refine .seq (.seq (.region ?_))
    refine .rd (.move rfl) rfl ?_
    refine .rd ((Rd.neq rfl rfl).cast (v' := .bool false) rfl) rfl (.nil (.seq ?_))
    refine .no rfl rfl (.skip (.seq ?_))
    refine .seq (.region ?_)
    refine .rd (.move rfl) rfl ?_
    refine .callv (.func (vs := [.string t]) rfl Tryd.func11 rfl (by decide)) (fun w' hp => sum t w' (hT.nil hp) hsm) rfl ?_
    refine .stAgg (vs := (sha (bsOf t)).map u8) rfl rfl Tryd.sizeOf25 one_u8 rfl 0 rfl (Nat.le_refl 32) ?_
    rw [splice_zeros32 (sha (bsOf t)) (out_length _)]
    refine .rd (.assign rfl) rfl (.nil (.seq (.ret ?_)))
    exact .retCell1 rfl rfl rfl (j := 0) rfl Tryd.underlying25 rfl info25 fun w' hp => ⟨rfl, hp.nil⟩
  · rw [joinOut, tagOut, if_neg hl, if_neg hl]
    refine .rd (.extract rfl rfl) rfl ?_
    refine .rd (.extract rfl rfl) rfl ?_
    refine .rd (.assign rfl) rfl ?_
    refine .rd (.assign rfl) rfl (.nil (.seq ?_))
    refine .seq (.seq (.region ?_))
    refine .rd (.move rfl) rfl ?_
    refine .rd ((Rd.neq rfl rfl).cast (v' := .bool true) rfl) rfl (.nil (.seq ?_))
    refine .yes rfl rfl (.seq (.region ?_))
    refine .rd (.build (vs := []) (v := .agg (none32.map u8).toArray) rfl build25) rfl ?_
    refine .rd (.move rfl) rfl ?_
    refine .stAgg (vs := none32.map u8) rfl rfl Tryd.sizeOf25 one_u8 rfl 0 rfl (Nat.le_refl 32) ?_
    rw [splice_zeros32 none32 rfl]
    refine .rd (.assign rfl) rfl (.nil (.seq (.ret ?_)))
    repeat (first | refine At.thR ?_ | refine At.blR ?_)
    exact .retCell1 rfl rfl rfl (j := 0) rfl Tryd.underlying25 rfl info25 fun w' hp => ⟨rfl, hp.nil⟩

theorem refTagged (tag : BitVec 8) (ss : List ByteArray) (a : Option Addr) (len cap : Nat) (w : World) (ht : Texts w a len ss) (hs : ∀ s ∈ ss, s.size ≤ 100) (hl : ss.length ≤ 255) :
    Calls Tryd.prog 26 [u8 tag, .slice a len cap].toArray w fun e w' => e = .returned (.agg ((sha (joined tag (bytesOf' ss))).map u8).toArray) ∧ Hp w w' [] [] := by
  refine enter0 Tryd.func26 rfl rfl ?_
  refine .seq (.region (.alloc Tryd.zeroValue24 rfl (C := List.replicate 32 (.int .u8 0)) rfl fun b4 h4 => .nil (.seq ?_)))
  refine .seq (.region ?_)
  refine .rd (.move rfl) rfl ?_
  refine .rd (.move rfl) rfl ?_
  refine .callv (.func (vs := [u8 tag, .slice a len cap]) rfl Tryd.func30 rfl (by decide)) (fun w' hp => refJoin tag ss a len cap w' (ht.after hp) hs) rfl ?_
  refine .rd (.move rfl) rfl ?_
  rw [joinOut, if_pos hl]
  have hsm := joined_small tag ss hs hl
  have hss : bsOf (ofBs (joined tag (bytesOf' ss))) = joined tag (bytesOf' ss) := bsOf_ofBs _
  generalize ofBs (joined tag (bytesOf' ss)) = t at *
  rw [← hss]
  refine .rd (.extract rfl rfl) rfl ?_
  refine .rd (.extract rfl rfl) rfl ?_
  refine .rd (.assign rfl) rfl ?_
  refine .rd (.assign rfl) rfl (.nil (.seq ?_))
  refine .seq (.region ?_)
  refine .rd (.move rfl) rfl ?_
  refine .callv (.func (vs := [.string t]) rfl Tryd.func12 rfl (by decide)) (fun w' _ => refSum t w' hsm) rfl ?_
  refine .stAgg (vs := (sha (bsOf t)).map u8) rfl rfl Tryd.sizeOf24 one_u8 rfl 0 rfl (Nat.le_refl 32) (.nil (.seq (.ret ?_)))
  rw [splice_zeros32 (sha (bsOf t)) (out_length _)]
  exact .retCell rfl rfl (j := 0) rfl Tryd.underlying24 rfl info24 fun w' hp => ⟨rfl, hp.nil⟩
end Go.Proofs.YtmokinjncelmbaaDoorRRR
