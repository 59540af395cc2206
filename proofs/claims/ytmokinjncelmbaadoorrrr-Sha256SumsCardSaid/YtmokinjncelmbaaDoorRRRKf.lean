/- A region that draws its order and makes or writes blocks: what reads is taken first, what is left is met in each order: no condition. -/
import Derived.Test.YtmokinjncelmbaaDoorRRRKe
import Derived.OrdersHeld
namespace Go.Sx
variable {P : Program} {n : Nat} {w0 : World} {O : List Nat} {M M0 : List Blk} {L : Env} {ty : TypeId}
variable {ops : Array Oper} {Q : Exit → Act → World → Prop} {fuel : Nat} {listed : Array Bool}

theorem Hp.perm {w : World} {M' : List Blk} (h : Hp w0 w O M) (hp : M.Perm M') : Hp w0 w O M' :=
  ⟨h.os, h.tape, h.output, h.size, h.frame, fun e he => h.mem e (hp.mem_iff.2 he), fun e he => h.own e (hp.mem_iff.2 he), (hp.map _).nodup_iff.1 h.nodup⟩
theorem At.perm {e : Exit} {M' : List Blk} (hp : M.Perm M') (h : At n w0 O Q e L M') : At n w0 O Q e L M := fun a w hk hh => h a w hk (hh.perm hp)

/-- 'M0': the blocks that are read, and that nothing in the region writes. -/
def WH (P : Program) (n : Nat) (w0 : World) (O : List Nat) (M0 : List Blk) (ops : Array Oper) (Q : Exit → Act → World → Prop) (fuel : Nat) (listed : Array Bool) (L : Env) (M : List Blk) : Prop :=
  ∀ a w, Knows n L a → Hp w0 w O M → wpAnyH P .any ops Q (fun w => Hp w0 w O M0) fuel listed a w

/-- One operation that has come up. -/
def WO (P : Program) (n : Nat) (w0 : World) (O : List Nat) (M0 : List Blk) (ops : Array Oper) (Q : Exit → Act → World → Prop) (fuel : Nat) (listed : Array Bool) (i : Nat) (L : Env) (M : List Blk) : Prop :=
  ∀ a w, Knows n L a → Hp w0 w O M → wpOp P ops Q i (fun a' w' => Hp w0 w' O M0 ∧ wpAnyH P .any ops Q (fun w => Hp w0 w O M0) fuel listed a' w') a w

theorem WC.held {id : Nat} {l : List Oper} (hm : P.follows .mixedOrders = true) (h : WH P n w0 O M l.toArray Q l.toArray.size (Array.replicate l.toArray.size false) L M) : WC P n w0 O Q (.region id l.toArray true) L M := fun a _ hk hp =>
  wp_region_held hm (h a _ hk hp.drew)
theorem WC.heldBy (M0 : List Blk) {id : Nat} {l : List Oper} (hm : P.follows .mixedOrders = true) (h : WH P n w0 O M0 l.toArray Q l.toArray.size (Array.replicate l.toArray.size false) L M) : WC P n w0 O Q (.region id l.toArray true) L M := fun a _ hk hp =>
  wp_region_held hm (h a _ hk hp.drew)

/-- What a panic leaves does not hang on a slot. -/
def Calm (Q : Exit → Act → World → Prop) : Prop := ∀ (d : Option Tmp) (v : Value) c a w, Q (.panic c) (a.put d v) w → Q (.panic c) a w

theorem WH.take (i : Nat) {d : Option Tmp} {o : Op} {pos : String} {aft : Array Edge} {v : Value} (hi : ops[i]? = some ⟨d, o, ty, pos, aft, none⟩) (hs : Region.noSelect ops = true) (hf : Region.free .any ops listed i = true) (hr : (Region.ready .any ops listed).contains i = true)
    (hQ : Calm Q) (hsub : M0.Sublist M) (hrd : Rd P n w0 O M0 L o ty v) (hd : fits n d = true) (h : WH P n w0 O M0 ops Q fuel (listed.setIfInBounds i true) (push d v L) M) : WH P n w0 O M0 ops Q (fuel + 1) listed L M := fun a w hk hp =>
  wpAnyH_take hi hs hf hr (fun c a w => hQ d v c a w) (.inl ⟨by simp [Region.wanted], fun w' hw => hrd _ _ _ _ a w' hk hw⟩) (hp.sub hsub) (h _ _ (hk.push hd) hp)

theorem WH.all {rs : List Nat} (hr : Region.ready .any ops listed = rs) (hne : rs ≠ []) (h : ∀ i ∈ rs, WO P n w0 O M0 ops Q fuel (listed.setIfInBounds i true) i L M) : WH P n w0 O M0 ops Q (fuel + 1) listed L M := fun a w hk hp =>
  wpAnyH_all hr hne fun i hi => h i hi a w hk hp

theorem WH.done (hr : Region.ready .any ops listed = []) (h : At n w0 O Q .normal L M) : WH P n w0 O M0 ops Q fuel listed L M := fun a w hk hp => wpAnyH_done hr (h a w hk hp) _

theorem WO.op {i : Nat} {d : Option Tmp} {o : Op} {pos : String} {aft : Array Edge} (hi : ops[i]? = some ⟨d, o, ty, pos, aft, none⟩)
    (h : WL P n w0 O ops (fun e a w => e = .normal ∧ Hp w0 w O M0 ∧ wpAnyH P .any ops Q (fun w => Hp w0 w O M0) fuel listed a w) [⟨d, o, ty, pos, aft, none⟩] L M) : WO P n w0 O M0 ops Q fuel listed i L M := fun a w hk hp => by
  have := h a w hk hp
  unfold wpList at this
  rw [if_pos (by simp [Region.wanted])] at this
  unfold wpOp
  rw [hi]
  simp only
  rw [if_pos (by simp [Region.wanted])]
  rcases this with h1 | ⟨_, a', w', h2, _⟩
  · refine .inl ?_
    unfold Oper.wp at h1 ⊢
    generalize (execOp a.eval _).run P w = r at h1
    cases r with
    | ok nx w' =>
      cases nx <;> simp only [Oper.upon] at h1 ⊢
      case value v => exact ⟨h1.2.1, h1.2.2⟩
      case skip => exact ⟨h1.2.1, h1.2.2⟩
      case defer x => exact ⟨h1.2.1, h1.2.2⟩
      case enter f args =>
        refine h1.mono fun e w'' he => ?_
        cases e with
        | returned v => exact ⟨he.2.1, he.2.2⟩
        | panicked c => exact absurd he.1 (by simp)
        | outgrown => obtain ⟨_, _, h3, _⟩ := he; exact absurd h3 (by simp)
      case row row args => exact Rows.mono h1 fun v w'' he => ⟨he.2.1, he.2.2⟩
    | halt x w' =>
      cases x <;> simp only [Oper.upon] at h1 ⊢
      case panic v => exact absurd h1.1 (by simp)
  · exact absurd h2 (by simp)

/-- What is known between two pieces of code, said once for all the ways into it. -/
def Mid (n : Nat) (w0 : World) (O : List Nat) (I : Env → List Blk → Prop) (a : Act) (w : World) : Prop := ∃ L M, I L M ∧ Knows n L a ∧ Hp w0 w O M
theorem WC.mid {x y : Code} (I : Env → List Blk → Prop) (hx : WC P n w0 O (Exit.then (Mid n w0 O I) Q) x L M) (hy : ∀ L M, I L M → WC P n w0 O Q y L M) : WC P n w0 O Q (.seq x y) L M := fun a w hk hp => by
  refine wp_seq (wp_mono (hx a w hk hp) fun e a' w' q => ?_)
  cases e with
  | normal => obtain ⟨L', M', h1, h2, h3⟩ := q; exact hy L' M' h1 a' w' h2 h3
  | _ => exact q
theorem At.mid {I : Env → List Blk → Prop} {L' : Env} (hI : I L' M) (hs : Sub L L') : At n w0 O (Exit.then (Mid n w0 O I) Q) .normal L M := fun _ _ hk hp => ⟨L', M, hI, hk.weak hs.lk, hp⟩

theorem WO.end (hsub : M0.Sublist M) (h : WH P n w0 O M0 ops Q fuel listed L M) : At n w0 O (fun e a w => e = .normal ∧ Hp w0 w O M0 ∧ wpAnyH P .any ops Q (fun w => Hp w0 w O M0) fuel listed a w) .normal L M := fun a w hk hp => ⟨rfl, hp.sub hsub, h a w hk hp⟩
end Go.Sx
