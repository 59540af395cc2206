/- The walks of the three functions that rotate a word: no condition beyond the distance between 1 and 31. -/
import Derived.Test.YtmokinjncelmbaaDoorRRRKc
import Derived.Test.YtmokinjncelmbaaDoorRRRProg
import Derived.KernelRfl
import Derived.Test.YtmokinjncelmbaaDoorRRRPa
namespace Go.Proofs.YtmokinjncelmbaaDoorRRR
open Go.Sx Go.Sha

theorem mixed : Tryd.prog.follows .mixedOrders = true := by kernel_rfl

theorem and31 : ∀ m : Fin 32, 1 ≤ m.val → (BitVec.ofNat 64 (18446744073709551616 - m.val) &&& 31#64) = BitVec.ofNat 64 (32 - m.val) := by decide
theorem sub32 : ∀ m : Fin 32, 1 ≤ m.val → (32#64 - BitVec.ofNat 64 (32 - m.val)).toNat = m.val := by decide

theorem conv_neg (m : Nat) (h0 : 1 ≤ m) (h1 : m ≤ 31) : IntKind.u64.wrap (-(m : Int)) = ((BitVec.ofNat 64 (18446744073709551616 - m)).toNat : Int) := by
  simp [IntKind.wrap, IntKind.bits, IntKind.signed]
  omega




theorem rotl (x : BitVec 32) (m : Nat) (w : World) (h0 : 1 ≤ m) (h1 : m ≤ 31) :
    Calls Tryd.prog 36 [u32 x, .int .i64 (-(m : Int))].toArray w fun e w' => e = .returned (u32 (rotr m x)) ∧ Hp w w' [] [] := by
  have hc : ∀ L, ev L (.tmp 6) = some (.int .i64 (-(m : Int))) → Rd Tryd.prog 17 w [] [] L (.convert 3 60 (.tmp 6)) 60 (u64 (BitVec.ofNat 64 (18446744073709551616 - m))) := by
    intro L hL
    have := Rd.conv (P := Tryd.prog) (n := 17) (w0 := w) (O := []) (M := []) (ty := 60) (k := .u64) (S := 3) (D := 60) hL Tryd.underlying3 Tryd.underlying60
    rwa [conv_neg m h0 h1] at this
  have ha : (BitVec.ofNat 64 (18446744073709551616 - m) &&& 31#64) = BitVec.ofNat 64 (32 - m) := and31 ⟨m, by omega⟩ h0
  have hs : (32#64 - BitVec.ofNat 64 (32 - m)).toNat = m := sub32 ⟨m, by omega⟩ h0
  have ht : (BitVec.ofNat 64 (32 - m)).toNat = 32 - m := by simp; omega
  refine enter0 Tryd.func36 rfl rfl ?_
  refine .seq (.region (.rd (.assign rfl) rfl (.nil (.seq ?_))))
  refine .seq (.region ?_)
  refine .rd (.move rfl) rfl ?_
  refine .rd (hc _ rfl) rfl ?_
  refine .rd ((Rd.and64 (b := 31#64) rfl rfl).cast (congrArg u64 ha)) rfl ?_
  refine .rd (.assign rfl) rfl (.nil (.seq ?_))
  refine .seq (.region ?_)
  refine .rd (.move rfl) rfl ?_
  refine .rd (.move rfl) rfl ?_
  refine .rd (.shl32 rfl rfl (by rw [ht]; omega)) rfl ?_
  refine .rd (.move rfl) rfl ?_
  refine .rd (.move rfl) rfl ?_
  refine .rd (.sub64 (a := 32#64) rfl rfl) rfl ?_
  refine .rd (.shr32 rfl rfl (by rw [hs]; omega)) rfl ?_
  refine .rd (.or32 rfl rfl) rfl ?_
  refine .rd (.assign rfl) rfl (.nil (.seq (.ret ?_)))
  refine .ret1 rfl rfl fun w' hp => ⟨?_, hp⟩
  rw [hs, ht, BitVec.or_comm]
  rfl

theorem right (m : Nat) (x : BitVec 32) (w : World) (h0 : 1 ≤ m) (h1 : m ≤ 31) :
    Calls Tryd.prog 35 [i64 m, u32 x].toArray w fun e w' => e = .returned (u32 (rotr m x)) ∧ Hp w w' [] [] := by
  refine enter0 Tryd.func35 rfl rfl ?_
  refine .seq (.region (.rd (.assign rfl) rfl (.nil (.seq ?_))))
  refine .seq (.region ?_)
  refine .rd (.move rfl) rfl ?_
  refine .rd (.move rfl) rfl ?_
  refine .rd (.neg rfl (by omega) (by omega)) rfl ?_
  refine .callv (.func (vs := [u32 x, .int .i64 (-(m : Int))]) rfl Tryd.func36 rfl (by decide)) (fun w _ => rotl x m w h0 h1) rfl ?_
  refine .rd (.assign rfl) rfl (.nil (.seq (.ret ?_)))
  exact .ret1 rfl rfl fun w' hp => ⟨rfl, hp⟩

theorem turn (m : Nat) (x : BitVec 32) (w : World) (h0 : 1 ≤ m) (h1 : m ≤ 31) :
    Calls Tryd.prog 33 [i64 m, u32 x].toArray w fun e w' => e = .returned (u32 (rotr m x)) ∧ Hp w w' [] [] := by
  refine enter0 Tryd.func33 rfl rfl ?_
  refine .seq (.region (.rd (.assign rfl) rfl (.nil (.seq ?_))))
  refine .seq (.draw mixed (by kernel_rfl) ?_)
  refine .rd (.move rfl) rfl ?_
  refine .rd (.move rfl) rfl ?_
  refine .rd (.shr32 rfl rfl (by omega)) rfl ?_
  refine .rd (.move rfl) rfl ?_
  refine .rd (.move rfl) rfl ?_
  refine .rd (.subN (a := 32) rfl rfl (by omega) (by omega)) rfl ?_
  refine .rd (.shl32 rfl rfl (by omega)) rfl ?_
  refine .rd (.or32 rfl rfl) rfl ?_
  refine .rd (.assign rfl) rfl (.done (.seq (.ret ?_)))
  exact .ret1 rfl rfl fun w' hp => ⟨rfl, hp⟩

end Go.Proofs.YtmokinjncelmbaaDoorRRR
