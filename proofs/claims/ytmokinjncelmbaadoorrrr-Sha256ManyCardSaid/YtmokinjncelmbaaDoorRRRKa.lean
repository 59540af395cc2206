/- Frames as lists of known slots, memory as a list of whole blocks, and the rules by which a region of operations is walked over them: no condition. -/
import Derived.WalkKit
import Derived.Deep.Quiet
import Derived.Deep.MidRow
import Derived.StillTail
namespace Go.Sx

/-! ### Frames -/
abbrev Env := List (Nat × Value)

def lk : Env → Nat → Option Value
  | [], _ => none
  | p :: r, i => bif Nat.beq p.1 i then some p.2 else lk r i

theorem lk_cons (d : Nat) (v : Value) (r : Env) (i : Nat) : lk ((d, v) :: r) i = if d = i then some v else lk r i := by
  by_cases h : d = i
  · subst h; simp [lk]
  · have : Nat.beq d i = false := by
      cases hb : Nat.beq d i with
      | false => rfl
      | true => exact absurd (Nat.eq_of_beq_eq_true hb) h
    simp [lk, this, h]

structure Knows (n : Nat) (L : Env) (a : Act) : Prop where
  size : a.tmps.size = n
  defers : a.defers = []
  get : ∀ i v, lk L i = some v → a.tmps[i]? = some v

theorem Knows.put {n : Nat} {L : Env} {a : Act} (h : Knows n L a) {d : Nat} {v : Value} (hd : Nat.blt d n = true) : Knows n ((d, v) :: L) (a.put (some d) v) := by
  have hd' : d < n := by simpa using hd
  refine ⟨by simp [Act.put, h.size], h.defers, fun i u hu => ?_⟩
  rw [lk_cons] at hu
  by_cases hi : d = i
  · subst hi
    simp at hu
    subst hu
    simp [Act.put, h.size, hd']
  · simp [hi] at hu
    simp [Act.put, hi, h.get i u hu]

theorem Knows.weak {n : Nat} {L L' : Env} {a : Act} (h : Knows n L a) (hl : ∀ i v, lk L' i = some v → lk L i = some v) : Knows n L' a :=
  ⟨h.size, h.defers, fun i v hv => h.get i v (hl i v hv)⟩

/-- All that 'L'' says is said by 'L'. -/
def Sub (L : Env) : Env → Prop
  | [] => True
  | p :: r => lk L p.1 = some p.2 ∧ Sub L r

theorem Sub.lk {L : Env} : ∀ {L' : Env}, Sub L L' → ∀ i v, lk L' i = some v → lk L i = some v
  | [], _, i, v, h => by simp [Sx.lk] at h
  | (d, u) :: r, hs, i, v, h => by
    rw [lk_cons] at h
    by_cases hi : d = i
    · subst hi
      simp at h
      subst h
      exact hs.1
    · simp [hi] at h
      exact Sub.lk hs.2 i v h

def ev (L : Env) : Operand → Option Value
  | .tmp t => lk L t
  | .const v => some v
  | .global g => some (.pointer (some ⟨g, 0, none⟩))
  | .func f => some (.func (.func f) #[] #[])

theorem Knows.eval {n : Nat} {L : Env} {a : Act} (h : Knows n L a) {x : Operand} {v : Value} (hx : ev L x = some v) : a.eval x = v := by
  cases x with
  | tmp t => have := h.get t v hx; simp [Act.eval, this]
  | const u => simpa [ev, Act.eval] using hx
  | global g => simpa [ev, Act.eval] using hx
  | func f => simpa [ev, Act.eval] using hx

/-- The values of a list of operands. -/
def evs (L : Env) : List Operand → Option (List Value)
  | [] => some []
  | x :: r => match ev L x, evs L r with
    | some v, some vs => some (v :: vs)
    | _, _ => none

theorem Knows.evals {n : Nat} {L : Env} {a : Act} (h : Knows n L a) : ∀ {xs : List Operand} {vs : List Value}, evs L xs = some vs → xs.map a.eval = vs
  | [], vs, hx => by simpa [evs] using hx
  | x :: r, vs, hx => by
    simp only [evs] at hx
    cases h1 : ev L x with
    | none => simp [h1] at hx
    | some v =>
      cases h2 : evs L r with
      | none => simp [h1, h2] at hx
      | some us =>
        simp [h1, h2] at hx
        subst hx
        simp [h.eval h1, h.evals h2]

def envFrom (k : Nat) : List Value → Env
  | [] => []
  | v :: r => (k, v) :: envFrom (k + 1) r

theorem lk_envFrom : ∀ (l : List Value) (k i : Nat) (v : Value), lk (envFrom k l) i = some v → k ≤ i ∧ l[i - k]? = some v
  | [], _, _, _, h => by simp [envFrom, lk] at h
  | u :: r, k, i, v, h => by
    rw [envFrom, lk_cons] at h
    by_cases hi : k = i
    · subst hi; simp at h; subst h; simp
    · simp [hi] at h
      have := lk_envFrom r (k + 1) i v h
      refine ⟨by omega, ?_⟩
      obtain ⟨m, hm⟩ : ∃ m, i = k + 1 + m := ⟨i - (k + 1), by omega⟩
      subst hm
      have e1 : k + 1 + m - (k + 1) = m := by omega
      have e2 : k + 1 + m - k = m + 1 := by omega
      rw [e1] at this
      rw [e2]
      simpa using this.2

/-! ### Memory -/
structure Blk where
  b : Nat
  C : List Value
  T : TypeId

/-- Block 'b' holds exactly the cells 'C', none of them frozen. -/
def Hold (w : World) (e : Blk) : Prop := ∃ fr : Nat × Nat, w.heap[e.b]? = some (.cells e.C.toArray e.T fr) ∧ ∀ i, i < e.C.length → ¬ (fr.1 ≤ i ∧ i < fr.2)

/-- Against 'w0' (where the call began): of the blocks that were there none has turned but those of 'O'; the blocks of 'M' are the call's own (or of 'O') and hold what 'M' says. -/
structure Hp (w0 w : World) (O : List Nat) (M : List Blk) : Prop where
  os : w.os = w0.os
  tape : w.tape = w0.tape
  output : w.output = w0.output
  size : w0.heap.size ≤ w.heap.size
  frame : ∀ k, k < w0.heap.size → k ∉ O → w.heap[k]? = w0.heap[k]?
  mem : ∀ e, e ∈ M → Hold w e
  own : ∀ e, e ∈ M → w0.heap.size ≤ e.b ∨ e.b ∈ O
  nodup : (M.map Blk.b).Nodup

theorem Hold.lt {w : World} {e : Blk} (h : Hold w e) : e.b < w.heap.size := by
  obtain ⟨fr, h, _⟩ := h
  rcases Nat.lt_or_ge e.b w.heap.size with h' | h'
  · exact h'
  · simp [Array.getElem?_eq_none h'] at h

theorem Hold.cell {w : World} {e : Blk} (h : Hold w e) (i : Nat) : w.cell? ⟨e.b, i, none⟩ = e.C[i]? := by
  obtain ⟨fr, h, _⟩ := h
  simp [World.cell?, h]

theorem Hold.free {w : World} {e : Blk} (h : Hold w e) {i : Nat} (hi : i < e.C.length) : w.frozen? ⟨e.b, i, none⟩ = false := by
  obtain ⟨fr, h, hf⟩ := h
  have := hf i hi
  simp only [World.frozen?, h]
  simp
  omega

theorem Hold.of_block {w w' : World} {e : Blk} (h : Hold w e) (hb : w'.heap[e.b]? = w.heap[e.b]?) : Hold w' e := by
  obtain ⟨fr, h, hf⟩ := h
  exact ⟨fr, by rw [hb, h], hf⟩

theorem Hold.set {w : World} {e : Blk} (h : Hold w e) (i : Nat) (v : Value) : Hold (w.setCell ⟨e.b, i, none⟩ v) ⟨e.b, e.C.set i v, e.T⟩ := by
  obtain ⟨fr, h, hf⟩ := h
  refine ⟨fr, ?_, fun j hj => hf j (by simpa using hj)⟩
  show (w.setCell ⟨e.b, i, none⟩ v).heap[e.b]? = _
  simp only [World.setCell, Array.getElem?_modify, ↓reduceIte, h, Option.map_some]
  simp

theorem Hp.refl {w : World} {O : List Nat} : Hp w w O [] := ⟨rfl, rfl, rfl, Nat.le_refl _, fun _ _ _ => rfl, by simp, by simp, by simp⟩

theorem Hp.start {w : World} {e : Blk} (h : Hold w e) : Hp w w [e.b] [e] := ⟨rfl, rfl, rfl, Nat.le_refl _, fun _ _ _ => rfl, by simpa using h, by simp, by simp⟩

theorem Hp.below {w0 w : World} {M : List Blk} (h : Hp w0 w [] M) : RowKit.Below w0.heap.size w0 w := ⟨h.os, h.tape, h.output, h.size, fun k hk => h.frame k hk (by simp)⟩

theorem Hp.drew {w0 w : World} {O : List Nat} {M : List Blk} (h : Hp w0 w O M) : Hp w0 w.drew O M := ⟨h.os, h.tape, h.output, h.size, h.frame, h.mem, h.own, h.nodup⟩

theorem Hp.undrew {w0 w : World} {O : List Nat} {M : List Blk} (h : Hp w0 { w with drawn := w.drawn + 1 } O M) : Hp w0 w O M := ⟨h.os, h.tape, h.output, h.size, h.frame, h.mem, h.own, h.nodup⟩

theorem Hp.sub {w0 w : World} {O : List Nat} {M M' : List Blk} (h : Hp w0 w O M) (hs : M'.Sublist M) : Hp w0 w O M' :=
  ⟨h.os, h.tape, h.output, h.size, h.frame, fun e he => h.mem e (hs.subset he), fun e he => h.own e (hs.subset he), h.nodup.sublist (hs.map _)⟩

theorem Hp.nil {w0 w : World} {O : List Nat} {M : List Blk} (h : Hp w0 w O M) : Hp w0 w O [] := h.sub (List.nil_sublist _)

/-- The blocks' list, with what is at place 'j' replaced. -/
theorem nodup_set {M : List Blk} {j : Nat} {e e' : Blk} (h : (M.map Blk.b).Nodup) (hj : M[j]? = some e) (hb : e'.b = e.b) : ((M.set j e').map Blk.b).Nodup := by
  have : (M.set j e').map Blk.b = M.map Blk.b := by
    apply List.ext_getElem?
    intro i
    simp only [List.getElem?_map, List.getElem?_set]
    by_cases hi : j = i
    · subst hi
      obtain ⟨hlt, hje⟩ := List.getElem?_eq_some_iff.1 hj
      simp [hlt, hje, hb]
    · simp [hi]
  rw [this]; exact h

theorem nodup_other {M : List Blk} {i j : Nat} {e f : Blk} (h : (M.map Blk.b).Nodup) (hi : M[i]? = some e) (hj : M[j]? = some f) (hne : i ≠ j) : e.b ≠ f.b := by
  intro hb
  obtain ⟨hil, hie⟩ := List.getElem?_eq_some_iff.1 hi
  obtain ⟨hjl, hje⟩ := List.getElem?_eq_some_iff.1 hj
  have hp := List.pairwise_iff_getElem.1 h
  rcases Nat.lt_or_ge i j with hlt | hge
  · exact hp i j (by simpa using hil) (by simpa using hjl) hlt (by simp [hie, hje, hb])
  · exact hp j i (by simpa using hjl) (by simpa using hil) (by omega) (by simp [hie, hje, hb])

/-- One known block is replaced, every other block is as it was. -/
theorem Hp.replace {w0 w w' : World} {O : List Nat} {M : List Blk} (h : Hp w0 w O M) {j : Nat} {e : Blk} (hj : M[j]? = some e) {C' : List Value} {T' : TypeId}
    (hos : w'.os = w.os) (htape : w'.tape = w.tape) (hout : w'.output = w.output) (hsize : w.heap.size ≤ w'.heap.size)
    (hother : ∀ k, k < w.heap.size → k ≠ e.b → w'.heap[k]? = w.heap[k]?) (hold : Hold w' ⟨e.b, C', T'⟩) : Hp w0 w' O (M.set j ⟨e.b, C', T'⟩) := by
  have hje : e ∈ M := by obtain ⟨hl, he⟩ := List.getElem?_eq_some_iff.1 hj; rw [← he]; exact List.getElem_mem _
  refine ⟨hos.trans h.os, htape.trans h.tape, hout.trans h.output, Nat.le_trans h.size hsize, fun k hk hO => ?_, fun f hf => ?_, fun f hf => ?_, nodup_set h.nodup hj rfl⟩
  · rw [hother k (Nat.lt_of_lt_of_le hk h.size) ?_, h.frame k hk hO]
    rintro rfl
    rcases h.own e hje with h1 | h1
    · omega
    · exact hO h1
  · obtain ⟨i, hi⟩ := List.getElem?_of_mem hf
    rw [List.getElem?_set] at hi
    by_cases hji : j = i
    · subst hji
      have hl := (List.getElem?_eq_some_iff.1 hj).1
      simp [hl] at hi
      subst hi
      exact hold
    · simp [hji] at hi
      have hfM : f ∈ M := by obtain ⟨hl, he⟩ := List.getElem?_eq_some_iff.1 hi; rw [← he]; exact List.getElem_mem _
      exact (h.mem f hfM).of_block (hother f.b (h.mem f hfM).lt (nodup_other h.nodup hi hj (Ne.symm hji)))
  · obtain ⟨i, hi⟩ := List.getElem?_of_mem hf
    rw [List.getElem?_set] at hi
    by_cases hji : j = i
    · subst hji
      have hl := (List.getElem?_eq_some_iff.1 hj).1
      simp [hl] at hi
      subst hi
      exact h.own e hje
    · simp [hji] at hi
      exact h.own f (by obtain ⟨hl, he⟩ := List.getElem?_eq_some_iff.1 hi; rw [← he]; exact List.getElem_mem _)

/-- A call that has turned nothing that was there. -/
theorem Hp.after {w0 w w' : World} {O : List Nat} {M M' : List Blk} (h : Hp w0 w O M) (k : Hp w w' [] M') : Hp w0 w' O M := by
  refine ⟨k.os.trans h.os, k.tape.trans h.tape, k.output.trans h.output, Nat.le_trans h.size k.size, fun i hi hO => ?_, fun e he => ?_, h.own, h.nodup⟩
  · rw [k.frame i (Nat.lt_of_lt_of_le hi h.size) (by simp), h.frame i hi hO]
  · exact (h.mem e he).of_block (k.frame e.b (h.mem e he).lt (by simp))

/-- A call that has turned nothing that was there, and hands over blocks of its own. -/
theorem Hp.after_new {w0 w w' : World} {O : List Nat} {M M' : List Blk} (h : Hp w0 w O M) (k : Hp w w' [] M') : Hp w0 w' O (M' ++ M) := by
  have h' := h.after k
  have hnew : ∀ e ∈ M', w.heap.size ≤ e.b := fun e he => by rcases k.own e he with h1 | h1; exact h1; simp at h1
  refine ⟨h'.os, h'.tape, h'.output, h'.size, h'.frame, fun e he => ?_, fun e he => ?_, ?_⟩
  · rcases List.mem_append.1 he with he | he
    · exact k.mem e he
    · exact h'.mem e he
  · rcases List.mem_append.1 he with he | he
    · exact .inl (Nat.le_trans h.size (hnew e he))
    · exact h.own e he
  · rw [List.map_append, List.nodup_append]
    refine ⟨k.nodup, h.nodup, fun a ha b hb hab => ?_⟩
    obtain ⟨e, he, rfl⟩ := List.mem_map.1 ha
    obtain ⟨f, hf, rfl⟩ := List.mem_map.1 hb
    have := hnew e he
    have := (h.mem f hf).lt
    omega

/-- A call that may have turned one block that the caller knows. -/
theorem Hp.after_one {w0 w w' : World} {O : List Nat} {M : List Blk} (h : Hp w0 w O M) {j : Nat} {e : Blk} (hj : M[j]? = some e) {C' : List Value} {T' : TypeId} (k : Hp w w' [e.b] [⟨e.b, C', T'⟩]) : Hp w0 w' O (M.set j ⟨e.b, C', T'⟩) :=
  h.replace hj k.os k.tape k.output k.size (fun i hi hne => k.frame i hi (by simpa using hne)) (k.mem _ (by simp))

/-- A new block. -/
theorem Hp.alloc {w0 w : World} {O : List Nat} {M : List Blk} (h : Hp w0 w O M) (C : List Value) (T : TypeId) : Hp w0 (w.alloc (.cells C.toArray T)) O (⟨w.heap.size, C, T⟩ :: M) := by
  refine ⟨h.os, h.tape, h.output, ?_, fun k hk hkO => ?_, fun e he => ?_, fun e he => ?_, ?_⟩
  · rw [World.size_alloc]; exact Nat.le_succ_of_le h.size
  · rw [heap_alloc_old _ _ (Nat.lt_of_lt_of_le hk h.size), h.frame k hk hkO]
  · rcases List.mem_cons.1 he with rfl | he
    · exact ⟨(0, 0), heap_alloc_new _ _, fun _ _ => by omega⟩
    · exact (h.mem e he).of_block (heap_alloc_old _ _ (h.mem e he).lt)
  · rcases List.mem_cons.1 he with rfl | he
    · exact .inl h.size
    · exact h.own e he
  · rw [List.map_cons, List.nodup_cons]
    refine ⟨fun hm => ?_, h.nodup⟩
    obtain ⟨e, he, heq⟩ := List.mem_map.1 hm
    have := (h.mem e he).lt
    have : e.b = w.heap.size := heq
    omega

theorem Hp.get {w0 w : World} {O : List Nat} {M : List Blk} (h : Hp w0 w O M) {j : Nat} {e : Blk} (hj : M[j]? = some e) : Hold w e :=
  h.mem e (by obtain ⟨hl, he⟩ := List.getElem?_eq_some_iff.1 hj; rw [← he]; exact List.getElem_mem _)

/-- An old cell, of a block that the call does not own. -/
theorem Hp.old {w0 w : World} {O : List Nat} {M : List Blk} (h : Hp w0 w O M) {a : Addr} {v : Value} (hO : a.block ∉ O) (hv : w0.cell? a = some v) : w.cell? a = some v := by
  have hb := World.block_lt_of_cell? w0 a hv
  rw [World.cell?_of_block (w := w0) (h.frame a.block hb hO), hv]

end Go.Sx
