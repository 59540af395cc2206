/- The rules of the walk: a region in order, a region that draws its order, the forms of code, calls: no condition. -/
import Derived.Test.YtmokinjncelmbaaDoorRRRKa
import Derived.Deep.LoopGhost
namespace Go.Sx
variable {P : Program} {n : Nat} {w0 : World} {O : List Nat}

/-! ### Judgements -/
/-- From every frame that knows 'L' and every world that is 'M' against 'w0': the code comes to 'Q'. -/
def WC (P : Program) (n : Nat) (w0 : World) (O : List Nat) (Q : Exit → Act → World → Prop) (c : Code) (L : Env) (M : List Blk) : Prop :=
  ∀ a w, Knows n L a → Hp w0 w O M → c.wp P Q a w

def WL (P : Program) (n : Nat) (w0 : World) (O : List Nat) (ops : Array Oper) (Q : Exit → Act → World → Prop) (l : List Oper) (L : Env) (M : List Blk) : Prop :=
  ∀ a w, Knows n L a → Hp w0 w O M → wpList P ops Q l a w

/-- The quiet walk of a region that draws: the worlds of 'M' are the class. -/
def WQ (P : Program) (n : Nat) (w0 : World) (O : List Nat) (M : List Blk) (ops : Array Oper) (Qs : Act → Prop) (l : List Oper) (L : Env) : Prop :=
  ∀ a, Knows n L a → wpQuiet P ops (fun w => Hp w0 w O M) Qs l a

/-- The walk of the head of a region that draws and ends in a forced tail: one world, left alone. -/
def WS (P : Program) (n : Nat) (w : World) (ops : Array Oper) (Qs : Act → Prop) (l : List Oper) (L : Env) : Prop :=
  ∀ a, Knows n L a → wpStill P ops w Qs l a

/-- What holds at an exit. -/
def At (n : Nat) (w0 : World) (O : List Nat) (Q : Exit → Act → World → Prop) (e : Exit) (L : Env) (M : List Blk) : Prop :=
  ∀ a w, Knows n L a → Hp w0 w O M → Q e a w

/-- The operation reads at most: it yields 'v' and leaves the world. -/
def Rd (P : Program) (n : Nat) (w0 : World) (O : List Nat) (M : List Blk) (L : Env) (o : Op) (ty : TypeId) (v : Value) : Prop :=
  ∀ (d : Option Tmp) (pos : String) (aft : Array Edge) (g : Option (Nat × Bool)) (a : Act) (w : World), Knows n L a → Hp w0 w O M →
    (execOp a.eval ⟨d, o, ty, pos, aft, g⟩).run P w = .ok (.value v) w

/-- The operation calls function 'f'. -/
def Cl (P : Program) (n : Nat) (L : Env) (o : Op) (ty : TypeId) (f : FuncId) (args : Array Value) : Prop :=
  ∀ (d : Option Tmp) (pos : String) (aft : Array Edge) (g : Option (Nat × Bool)) (a : Act) (w : World), Knows n L a →
    (execOp a.eval ⟨d, o, ty, pos, aft, g⟩).run P w = .ok (.enter f args) w

/-- What the frame knows behind an operation. -/
def push : Option Nat → Value → Env → Env
  | some d, v, L => (d, v) :: L
  | none, _, L => L

def fits (n : Nat) : Option Nat → Bool
  | some d => Nat.blt d n
  | none => true

theorem Knows.push {L : Env} {a : Act} (h : Knows n L a) {d : Option Nat} {v : Value} (hd : fits n d = true) : Knows n (Sx.push d v L) (a.put d v) := by
  cases d with
  | none => exact h
  | some d => exact h.put hd

/-! ### A region in order -/
section list
variable {ops : Array Oper} {Q : Exit → Act → World → Prop} {rest : List Oper} {L : Env} {M : List Blk}
variable {d : Option Tmp} {o : Op} {ty : TypeId} {pos : String} {aft : Array Edge}

theorem WL.nil (h : At n w0 O Q .normal L M) : WL P n w0 O ops Q [] L M := fun a w hk hp => h a w hk hp

theorem WL.rd {v : Value} (hr : Rd P n w0 O M L o ty v) (hd : fits n d = true) (h : WL P n w0 O ops Q rest (push d v L) M) :
    WL P n w0 O ops Q (⟨d, o, ty, pos, aft, none⟩ :: rest) L M := fun a w hk hp => by
  unfold wpList
  rw [if_pos (by simp [Region.wanted])]
  refine .inl ?_
  rw [Oper.wp, hr _ _ _ _ a w hk hp, Oper.upon_value]
  exact h _ _ (hk.push hd) hp

/-- Whatever leaves a value and another world. -/
theorem WL.op (h : ∀ a w, Knows n L a → Hp w0 w O M → ∃ v w', (execOp a.eval ⟨d, o, ty, pos, aft, none⟩).run P w = .ok (.value v) w' ∧ wpList P ops Q rest (a.put d v) w') :
    WL P n w0 O ops Q (⟨d, o, ty, pos, aft, none⟩ :: rest) L M := fun a w hk hp => by
  unfold wpList
  rw [if_pos (by simp [Region.wanted])]
  refine .inl ?_
  obtain ⟨v, w', hr, h'⟩ := h a w hk hp
  rw [Oper.wp, hr, Oper.upon_value]
  exact h'

theorem WL.skipOp (h : ∀ a w, Knows n L a → Hp w0 w O M → ∃ w', (execOp a.eval ⟨d, o, ty, pos, aft, none⟩).run P w = .ok .skip w' ∧ wpList P ops Q rest (a.put d undef) w') :
    WL P n w0 O ops Q (⟨d, o, ty, pos, aft, none⟩ :: rest) L M := fun a w hk hp => by
  unfold wpList
  rw [if_pos (by simp [Region.wanted])]
  refine .inl ?_
  obtain ⟨w', hr, h'⟩ := h a w hk hp
  rw [Oper.wp, hr, Oper.upon_skip]
  exact h'

/-- A call, by its contract. -/
theorem WL.call {f : FuncId} {args : Array Value} {R : Ending → World → World → Prop} (hc : Cl P n L o ty f args) (hcall : ∀ w, Hp w0 w O M → Calls P f args w (R · w ·))
    (h : ∀ w e w', Hp w0 w O M → R e w w' → ∃ v, e = .returned v ∧ ∀ a, Knows n L a → wpList P ops Q rest (a.put d v) w') :
    WL P n w0 O ops Q (⟨d, o, ty, pos, aft, none⟩ :: rest) L M := fun a w hk hp => by
  unfold wpList
  rw [if_pos (by simp [Region.wanted])]
  refine .inl ?_
  rw [Oper.wp, hc _ _ _ _ a w hk, Oper.upon_enter]
  refine (hcall w hp).mono fun e w' hR => ?_
  obtain ⟨v, rfl, h'⟩ := h w e w' hp hR
  exact h' a hk

/-- A call that hands back a known value and turns nothing that was there. -/
theorem WL.callv {f : FuncId} {args : Array Value} {v : Value} (hc : Cl P n L o ty f args) (hcall : ∀ w, Hp w0 w O M → Calls P f args w fun e w' => e = .returned v ∧ Hp w w' [] []) (hd : fits n d = true)
    (h : WL P n w0 O ops Q rest (push d v L) M) : WL P n w0 O ops Q (⟨d, o, ty, pos, aft, none⟩ :: rest) L M :=
  WL.call (R := fun e w w' => e = .returned v ∧ Hp w w' [] []) hc hcall fun _ _ _ hp hR => ⟨v, hR.1, fun _ hk => h _ _ (hk.push hd) (hp.after hR.2)⟩

/-- A call that hands back new blocks, and a value that leads to them. -/
theorem WL.callNew {α : Type} {f : FuncId} {args : Array Value} {v : α → Value} {N : α → List Blk} (hc : Cl P n L o ty f args) (hcall : ∀ w, Hp w0 w O M → Calls P f args w fun e w' => ∃ x, e = .returned (v x) ∧ Hp w w' [] (N x)) (hd : fits n d = true)
    (h : ∀ x, WL P n w0 O ops Q rest (push d (v x) L) (N x ++ M)) : WL P n w0 O ops Q (⟨d, o, ty, pos, aft, none⟩ :: rest) L M :=
  WL.call (R := fun e w w' => ∃ x, e = .returned (v x) ∧ Hp w w' [] (N x)) hc hcall fun _ _ _ hp ⟨x, hx, hn⟩ => ⟨v x, hx, fun _ hk => h x _ _ (hk.push hd) (hp.after_new hn)⟩
/-- A call that may write one block that the caller knows. -/
theorem WL.callOne {f : FuncId} {args : Array Value} {v : Value} {b : Nat} {C C' : List Value} {T : TypeId} (j : Nat) (hj : M[j]? = some ⟨b, C, T⟩) (hc : Cl P n L o ty f args) (hcall : ∀ w, Hp w0 w O M → Calls P f args w fun e w' => e = .returned v ∧ Hp w w' [b] [⟨b, C', T⟩]) (hd : fits n d = true)
    (h : WL P n w0 O ops Q rest (push d v L) (M.set j ⟨b, C', T⟩)) : WL P n w0 O ops Q (⟨d, o, ty, pos, aft, none⟩ :: rest) L M :=
  WL.call (R := fun e w w' => e = .returned v ∧ Hp w w' [b] [⟨b, C', T⟩]) hc hcall fun _ _ _ hp hR => ⟨v, hR.1, fun _ hk => h _ _ (hk.push hd) (hp.after_one hj hR.2)⟩

/-! ### Guarded operations -/
/-- The guard's answer, read off the frame. -/
def gd (ops : Array Oper) (L : Env) (j : Nat) : Option Value := match ops[j]? with
  | some o => match o.dst with
    | some d => lk L d
    | none => none
  | none => none

theorem yielded_of {L : Env} {a : Act} (hk : Knows n L a) {j : Nat} {b : Bool} (h : gd ops L j = some (.bool b)) : yielded ops a.tmps j = some b := by
  unfold gd at h
  cases hj : ops[j]? with
  | none => simp [hj] at h
  | some o =>
    cases hd : o.dst with
    | none => simp [hj, hd] at h
    | some d =>
      simp [hj, hd] at h
      have := hk.get d _ h
      simp [yielded, hj, hd, this]

theorem WL.guardYes {j : Nat} {b : Bool} (hg : gd ops L j = some (.bool b)) (h : WL P n w0 O ops Q (⟨d, o, ty, pos, aft, none⟩ :: rest) L M) :
    WL P n w0 O ops Q (⟨d, o, ty, pos, aft, some (j, b)⟩ :: rest) L M := fun a w hk hp => by
  have hy := yielded_of hk hg
  have h' := h a w hk hp
  unfold wpList at h' ⊢
  rw [if_pos (by simp [Region.wanted])] at h'
  rw [if_pos (by simp [Region.wanted, hy])]
  exact h'

theorem WL.guardNo {j : Nat} {b c : Bool} (hg : gd ops L j = some (.bool c)) (hne : (c == b) = false) (hd : fits n d = true) (h : WL P n w0 O ops Q rest (push d undef L) M) :
    WL P n w0 O ops Q (⟨d, o, ty, pos, aft, some (j, b)⟩ :: rest) L M := fun a w hk hp => by
  have hy := yielded_of hk hg
  unfold wpList
  rw [if_neg (by simpa [Region.wanted, hy] using hne)]
  exact h _ _ (hk.push hd) hp

/-- A slot is forgotten, or said again. -/
theorem WL.weak {L' : Env} (hs : Sub L L') (h : WL P n w0 O ops Q rest L' M) : WL P n w0 O ops Q rest L M := fun a w hk hp => h a w (hk.weak hs.lk) hp
end list

/-! ### A region that draws -/
section quiet
variable {ops : Array Oper} {Qs : Act → Prop} {rest : List Oper} {L : Env} {M : List Blk}
variable {d : Option Tmp} {o : Op} {ty : TypeId} {pos : String} {aft : Array Edge}

theorem WQ.nil (h : ∀ a, Knows n L a → Qs a) : WQ P n w0 O M ops Qs [] L := fun a hk => wpQuiet_nil (h a hk)

theorem WQ.rd {v : Value} (hr : Rd P n w0 O M L o ty v) (hd : fits n d = true) (h : WQ P n w0 O M ops Qs rest (push d v L)) :
    WQ P n w0 O M ops Qs (⟨d, o, ty, pos, aft, none⟩ :: rest) L := fun a hk => by
  unfold wpQuiet
  rw [if_pos (by simp [Region.wanted])]
  refine ⟨v, fun w hp => ?_, h _ (hk.push hd)⟩
  rw [Oper.quietAt, hr _ _ _ _ a w hk hp]
  exact ⟨rfl, rfl⟩

theorem WQ.callv {f : FuncId} {args : Array Value} {v : Value} (hc : Cl P n L o ty f args) (hcall : ∀ w, Hp w0 w O M → Calls P f args w fun e w' => e = .returned v ∧ Hp w w' [] []) (hd : fits n d = true)
    (h : WQ P n w0 O M ops Qs rest (push d v L)) : WQ P n w0 O M ops Qs (⟨d, o, ty, pos, aft, none⟩ :: rest) L := fun a hk => by
  unfold wpQuiet
  rw [if_pos (by simp [Region.wanted])]
  refine ⟨v, fun w hp => ?_, h _ (hk.push hd)⟩
  rw [Oper.quietAt, hc _ _ _ _ a w hk]
  exact ⟨rfl, (hcall w hp).mono fun e w' hR => ⟨hR.1, hp.after hR.2⟩⟩

theorem WQ.guardYes {j : Nat} {b : Bool} (hg : gd ops L j = some (.bool b)) (h : WQ P n w0 O M ops Qs (⟨d, o, ty, pos, aft, none⟩ :: rest) L) :
    WQ P n w0 O M ops Qs (⟨d, o, ty, pos, aft, some (j, b)⟩ :: rest) L := fun a hk => by
  have hy := yielded_of hk hg
  have h' := h a hk
  unfold wpQuiet at h' ⊢
  rw [if_pos (by simp [Region.wanted])] at h'
  rw [if_pos (by simp [Region.wanted, hy])]
  exact h'

theorem WQ.guardNo {j : Nat} {b c : Bool} (hg : gd ops L j = some (.bool c)) (hne : (c == b) = false) (hd : fits n d = true) (h : WQ P n w0 O M ops Qs rest (push d undef L)) :
    WQ P n w0 O M ops Qs (⟨d, o, ty, pos, aft, some (j, b)⟩ :: rest) L := fun a hk => by
  have hy := yielded_of hk hg
  unfold wpQuiet
  rw [if_neg (by simpa [Region.wanted, hy] using hne)]
  exact h _ (hk.push hd)

theorem WQ.weak {L' : Env} (hs : Sub L L') (h : WQ P n w0 O M ops Qs rest L') : WQ P n w0 O M ops Qs rest L := fun a hk => h a (hk.weak hs.lk)

/-- The head of a region with a forced tail. -/
theorem WS.nil {w : World} (h : ∀ a, Knows n L a → Qs a) : WS P n w ops Qs [] L := fun a hk => wpStill_nil (h a hk)

theorem WS.rd {w : World} {v : Value} (hp : Hp w0 w O M) (hr : Rd P n w0 O M L o ty v) (hd : fits n d = true) (h : WS P n w ops Qs rest (push d v L)) :
    WS P n w ops Qs (⟨d, o, ty, pos, aft, none⟩ :: rest) L := fun a hk => by
  unfold wpStill
  rw [if_pos (by simp [Region.wanted])]
  rw [Oper.still, hr _ _ _ _ a w hk hp]
  exact ⟨rfl, h _ (hk.push hd)⟩
end quiet

/-! ### Code -/
section code
variable {Q : Exit → Act → World → Prop} {L : Env} {M : List Blk}

theorem WC.seq {x y : Code} (h : WC P n w0 O (Exit.then (y.wp P Q) Q) x L M) : WC P n w0 O Q (.seq x y) L M := fun a w hk hp => wp_seq (h a w hk hp)
theorem WC.region {id : Nat} {l : List Oper} (h : WL P n w0 O l.toArray Q l L M) : WC P n w0 O Q (.region id l.toArray false) L M := fun a w hk hp => wp_region_lit (h a w hk hp)
theorem WC.draw {id : Nat} {l : List Oper} (hm : P.follows .mixedOrders = true) (hB : Region.lexB .any l.toArray = true)
    (h : WQ P n w0 O M l.toArray (fun a' => ∀ w', Hp w0 w' O M → Q .normal a' w') l L) : WC P n w0 O Q (.region id l.toArray true) L M := fun a w hk hp =>
  wp_region_quiet (C := fun w => Hp w0 w O M) hm hB hp.drew (by simpa using h a hk)
theorem WQ.done {ops : Array Oper} (h : At n w0 O Q .normal L M) : WQ P n w0 O M ops (fun a' => ∀ w', Hp w0 w' O M → Q .normal a' w') [] L := WQ.nil fun a hk w' hp => h a w' hk hp
/-- A region that draws: a head that reads, then a tail in one forced order. -/
theorem WC.drawTail {id : Nat} {l : List Oper} (k : Nat) (hm : P.follows .mixedOrders = true) (hB : Region.lexTailB .any l.toArray k = true)
    (h : ∀ w, Hp w0 w O M → WS P n w l.toArray (fun a' => wpList P l.toArray Q (l.drop k) a' w) (l.take k) L) : WC P n w0 O Q (.region id l.toArray true) L M := fun a _ hk hp =>
  wp_region_still_tail k hm hB (h _ hp.drew a hk)
theorem WS.done {w : World} {ops : Array Oper} {l : List Oper} (hp : Hp w0 w O M) (h : WL P n w0 O ops Q l L M) : WS P n w ops (fun a' => wpList P ops Q l a' w) [] L := WS.nil fun a hk => h a w hk hp

theorem WC.cond {c : Operand} {x y : Code} {t : Bool} (hc : ev L c = some (.bool t)) (ht : t = true → WC P n w0 O Q x L M) (hf : t = false → WC P n w0 O Q y L M) : WC P n w0 O Q (.cond c x y) L M := fun a w hk hp =>
  wp_cond_split (hk.eval hc) (fun h => ht h a w hk hp) (fun h => hf h a w hk hp)
theorem WC.yes {c : Operand} {x y : Code} {t : Bool} (hc : ev L c = some (.bool t)) (ht : t = true) (h : WC P n w0 O Q x L M) : WC P n w0 O Q (.cond c x y) L M := fun a w hk hp =>
  wp_cond_true (by rw [hk.eval hc, ht]) (h a w hk hp)
theorem WC.no {c : Operand} {x y : Code} {t : Bool} (hc : ev L c = some (.bool t)) (ht : t = false) (h : WC P n w0 O Q y L M) : WC P n w0 O Q (.cond c x y) L M := fun a w hk hp =>
  wp_cond_false (by rw [hk.eval hc, ht]) (h a w hk hp)
theorem WC.skip (h : At n w0 O Q .normal L M) : WC P n w0 O Q .skip L M := fun a w hk hp => wp_skip (h a w hk hp)
theorem WC.ret (h : At n w0 O Q .ret L M) : WC P n w0 O Q .ret L M := fun a w hk hp => wp_ret (h a w hk hp)
theorem WC.exit {id : Nat} (h : At n w0 O Q (.exit id) L M) : WC P n w0 O Q (.exit id) L M := fun a w hk hp => wp_exit (h a w hk hp)
theorem WC.block {id : Nat} {c : Code} (h : WC P n w0 O (Exit.inBlock id Q) c L M) : WC P n w0 O Q (.block id c) L M := fun a w hk hp => wp_block (h a w hk hp)
theorem WC.weak {c : Code} {L' : Env} (hs : Sub L L') (h : WC P n w0 O Q c L' M) : WC P n w0 O Q c L M := fun a w hk hp => h a w (hk.weak hs.lk) hp
theorem WC.drop {c : Code} {M' : List Blk} (hs : M'.Sublist M) (h : WC P n w0 O Q c L M') : WC P n w0 O Q c L M := fun a w hk hp => h a w hk (hp.sub hs)

/-- A loop: 'R m L M': at a round's head, with at most 'm' rounds to come. -/
theorem WC.loop {c : Code} (R : Nat → Env → List Blk → Prop) (m0 : Nat) (h0 : R m0 L M)
    (round : ∀ m L M, R m L M → WC P n w0 O (Exit.then (fun a' w' => ∃ m' L' M', m' < m ∧ R m' L' M' ∧ Knows n L' a' ∧ Hp w0 w' O M') Q) c L M) : WC P n w0 O Q (.loop c) L M := fun a w hk hp => by
  refine wp_loop_ghost (fun m a w => ∃ L M, R m L M ∧ Knows n L a ∧ Hp w0 w O M) m0 ⟨L, M, h0, hk, hp⟩ ?_
  rintro m a w ⟨L, M, hR, hk, hp⟩
  refine wp_mono (round m L M hR a w hk hp) fun e a' w' q => ?_
  cases e with
  | normal => obtain ⟨m', L', M', h1, h2, h3, h4⟩ := q; exact ⟨m', h1, L', M', h2, h3, h4⟩
  | _ => exact q
theorem At.round {R : Nat → Env → List Blk → Prop} {m : Nat} {Q : Exit → Act → World → Prop} {L' : Env} (m' : Nat) (hm : m' < m) (hR : R m' L' M) (hs : Sub L L') : At n w0 O (Exit.then (fun a' w' => ∃ m' L' M', m' < m ∧ R m' L' M' ∧ Knows n L' a' ∧ Hp w0 w' O M') Q) .normal L M :=
  fun _ _ hk hp => ⟨m', L', M, hm, hR, hk.weak hs.lk, hp⟩
theorem At.seq {y : Code} (h : WC P n w0 O Q y L M) : At n w0 O (Exit.then (y.wp P Q) Q) .normal L M := fun a w hk hp => h a w hk hp
theorem At.inBlock {id : Nat} (h : At n w0 O Q .normal L M) : At n w0 O (Exit.inBlock id Q) .normal L M := fun a w hk hp => h a w hk hp
theorem At.exitHere {id : Nat} (h : At n w0 O Q .normal L M) : At n w0 O (Exit.inBlock id Q) (.exit id) L M := fun a w hk hp => by
  show (if id = id then Q .normal a w else Q (.exit id) a w)
  rw [if_pos rfl]
  exact h a w hk hp
theorem At.exitPast {id j : Nat} (hne : Nat.beq j id = false) (h : At n w0 O Q (.exit j) L M) : At n w0 O (Exit.inBlock id Q) (.exit j) L M := fun a w hk hp => by
  show (if j = id then Q .normal a w else Q (.exit j) a w)
  rw [if_neg (fun e => by subst e; simp at hne)]
  exact h a w hk hp
theorem At.thE {K : Act → World → Prop} {id : Nat} (h : At n w0 O Q (.exit id) L M) : At n w0 O (Exit.then K Q) (.exit id) L M := h
theorem At.thR {K : Act → World → Prop} (h : At n w0 O Q .ret L M) : At n w0 O (Exit.then K Q) .ret L M := h
theorem At.blR {id : Nat} (h : At n w0 O Q .ret L M) : At n w0 O (Exit.inBlock id Q) .ret L M := h
theorem At.weak {e : Exit} {L' : Env} (hs : Sub L L') (h : At n w0 O Q e L' M) : At n w0 O Q e L M := fun a w hk hp => h a w (hk.weak hs.lk) hp

theorem At.dropM {e : Exit} {M' : List Blk} (hs : M'.Sublist M) (h : At n w0 O Q e L M') : At n w0 O Q e L M := fun a w hk hp => h a w hk (hp.sub hs)
/-- A function's end: one result, in a slot. -/
theorem At.ret1 {fn : Func} {R : Ending → World → Prop} {t : Tmp} {v : Value} (hr : fn.results = #[.tmp t]) (hv : lk L t = some v) (h : ∀ w, Hp w0 w O M → R (.returned v) w) : At n w0 O (bodyPost P fn R) .ret L M := fun a w hk hp =>
  bodyPost_ret (results_tmp hr _ _ _) hk.defers (by
    have := hk.get t v hv
    rw [show a.tmps.getD t undef = v by simp [this]]
    exact h w hp)
theorem At.ret2 {fn : Func} {R : Ending → World → Prop} {t u : Tmp} {v x : Value} (hr : fn.results = #[.tmp t, .tmp u]) (hv : lk L t = some v) (hx : lk L u = some x) (h : ∀ w, Hp w0 w O M → R (.returned (.tuple #[v, x])) w) : At n w0 O (bodyPost P fn R) .ret L M := fun a w hk hp =>
  bodyPost_ret (results_tmp2 hr _ _ _) hk.defers (by
    have h1 := hk.get t v hv
    have h2 := hk.get u x hx
    rw [show a.tmps.getD t undef = v by simp [h1], show a.tmps.getD u undef = x by simp [h2]]
    exact h w hp)
/-- .. no result. -/
theorem At.end0 {fn : Func} {R : Ending → World → Prop} (hr : fn.results = #[]) (h : ∀ w, Hp w0 w O M → R (.returned (.tuple #[])) w) : At n w0 O (bodyPost P fn R) .normal L M := fun _ w hk hp =>
  bodyPost_end (results_none hr _ _ _) hk.defers (h w hp)
theorem At.ret0 {fn : Func} {R : Ending → World → Prop} (hr : fn.results = #[]) (h : ∀ w, Hp w0 w O M → R (.returned (.tuple #[])) w) : At n w0 O (bodyPost P fn R) .ret L M := fun _ w hk hp =>
  bodyPost_ret (results_none hr _ _ _) hk.defers (h w hp)
/-- .. one result, an array or a struct in a block of its own. -/
theorem At.retCell {fn : Func} {R : Ending → World → Prop} {t : Tmp} {ty : TypeId} {desc : TypeDesc} {j b : Nat} {C : List Value} {T : TypeId} (hr : fn.results = #[.cell t ty]) (hv : lk L t = some (.pointer (some ⟨b, 0, none⟩))) (hj : M[j]? = some ⟨b, C, T⟩)
    (hu : P.underlying ty = some desc) (hd : desc.isRow = true) (hi : (P.info? ty).map (·.size) = some C.length) (h : ∀ w, Hp w0 w O M → R (.returned (.agg C.toArray)) w) : At n w0 O (bodyPost P fn R) .ret L M := fun a w hk hp =>
  bodyPost_ret (v := .agg C.toArray) (by
    have h1 := hk.get t _ hv
    obtain ⟨fr, hb, _⟩ := hp.get hj
    refine results_cell_row hr _ w b T C.toArray fr desc (by simp [h1]) hb hu ?_ (by simpa using hi)
    cases desc <;> simp_all) hk.defers (h w hp)
/-- .. an array or a struct, and a slot. -/
theorem At.retCell1 {fn : Func} {R : Ending → World → Prop} {t u : Tmp} {x : Value} {ty : TypeId} {desc : TypeDesc} {j b : Nat} {C : List Value} {T : TypeId} (hr : fn.results = #[.cell t ty, .tmp u]) (hv : lk L t = some (.pointer (some ⟨b, 0, none⟩))) (hx : lk L u = some x) (hj : M[j]? = some ⟨b, C, T⟩)
    (hu : P.underlying ty = some desc) (hd : desc.isRow = true) (hi : (P.info? ty).map (·.size) = some C.length) (h : ∀ w, Hp w0 w O M → R (.returned (.tuple #[.agg C.toArray, x])) w) : At n w0 O (bodyPost P fn R) .ret L M := fun a w hk hp =>
  bodyPost_ret (v := .tuple #[.agg C.toArray, x]) (by
    have h1 := hk.get t _ hv
    have h2 := hk.get u _ hx
    obtain ⟨fr, hb, _⟩ := hp.get hj
    have hl := run_loadVar_row (P := P) w b T ty C.toArray fr desc hb hu (by cases desc <;> simp_all) (by simpa using hi)
    simp [results, hr, h1, h2, asAddr, hl]) hk.defers (h w hp)
end code

/-- A function is walked: from the arguments' frame, every world. -/
theorem enter {f : FuncId} {fn : Func} {c : Code} {args : List Value} {w : World} {R : Ending → World → Prop} {M : List Blk} (hf : P.funcs[f]? = some fn) (hb : fn.body = some c) (hn : Nat.ble args.length fn.ntmps = true) (hp : Hp w w O M)
    (h : WC P fn.ntmps w O (bodyPost P fn R) c (envFrom 0 args) M) : Calls P f args.toArray w R := by
  refine calls_of_wp hf hb (h _ _ ⟨?_, rfl, fun i v hv => ?_⟩ hp)
  · have : args.length ≤ fn.ntmps := Nat.le_of_ble_eq_true hn
    simp; omega
  · have := (lk_envFrom args 0 i v hv).2
    obtain ⟨hl, he⟩ := List.getElem?_eq_some_iff.1 this
    simp only [Nat.sub_zero] at hl he
    simp [Array.getElem?_append, hl, he]
theorem enter0 {f : FuncId} {fn : Func} {c : Code} {args : List Value} {w : World} {R : Ending → World → Prop} (hf : P.funcs[f]? = some fn) (hb : fn.body = some c) (hn : Nat.ble args.length fn.ntmps = true)
    (h : WC P fn.ntmps w [] (bodyPost P fn R) c (envFrom 0 args) []) : Calls P f args.toArray w R := enter hf hb hn .refl h
theorem enter1 {f : FuncId} {fn : Func} {c : Code} {args : List Value} {w : World} {R : Ending → World → Prop} {b : Nat} {C : List Value} {T : TypeId} (hm : Hold w ⟨b, C, T⟩) (hf : P.funcs[f]? = some fn) (hb : fn.body = some c) (hn : Nat.ble args.length fn.ntmps = true)
    (h : WC P fn.ntmps w [b] (bodyPost P fn R) c (envFrom 0 args) [⟨b, C, T⟩]) : Calls P f args.toArray w R := enter hf hb hn (.start hm) h
end Go.Sx
