/- The walk of Sha256Sums: at every text it hands back true. -/
import Derived.Test.YtmokinjncelmbaaDoorRRRWi
namespace Go.Proofs.YtmokinjncelmbaaDoorRRR
open Go.Sx Go.Sha

theorem guard24 : Tryd.prog.eqGuardType Tryd.prog.depth 24 = false := by kernel_rfl

theorem sums (s : ByteArray) (w : World) (hT : Tables w) : Calls Tryd.prog 3 [.string s].toArray w fun e w' => e = .returned (.bool true) ∧ Hp w w' [] [] := by
  refine enter0 Tryd.func3 rfl rfl ?_
  refine .seq (.region (.rd (.assign rfl) rfl (.nil (.seq ?_))))
  refine .seq (.region ?_)
  refine .rd (.move rfl) rfl ?_
  refine .callv (.func (vs := [.string s, i64 1000]) rfl Tryd.func9 rfl (by decide)) (fun w' _ => short s 1000 w') rfl ?_
  refine .rd (.assign rfl) rfl (.nil (.seq ?_))
  generalize ht : s.extract 0 (min s.size 1000) = t
  have hl : t.size ≤ 1099511627776 := by rw [← ht]; simp; omega
  clear ht
  refine .seq (.region ?_)
  refine .callv (.func (vs := []) rfl Tryd.func10 rfl (by decide)) (fun w' hp => known w' (hT.nil hp)) rfl ?_
  refine .rd (.move rfl) rfl ?_
  refine .guardYes rfl ?_
  refine .rd (.move rfl) rfl ?_
  refine .guardYes rfl ?_
  refine .callv (.func (vs := [.string t]) rfl Tryd.func11 rfl (by decide)) (fun w' hp => sum t w' (hT.nil hp) hl) rfl ?_
  refine .guardYes rfl ?_
  refine .rd (.move rfl) rfl ?_
  refine .guardYes rfl ?_
  refine .callv (.func (vs := [.string t]) rfl Tryd.func12 rfl (by decide)) (fun w' _ => refSum t w' hl) rfl ?_
  refine .guardYes rfl ?_
  refine .rd ((Rd.eqlArr rfl rfl Tryd.underlying24 Tryd.underlying5 Tryd.sizeOf5 guard24 (out_length _) (out_length _)).cast (v' := .bool true) (by simp)) rfl ?_
  refine .rd (.pick rfl rfl) rfl ?_
  refine .rd (.assign rfl) rfl (.nil (.seq (.ret ?_)))
  exact .ret1 rfl rfl fun w' hp => ⟨rfl, hp.nil⟩
end Go.Proofs.YtmokinjncelmbaaDoorRRR
