/- The walks of the law's 'list' and 'same'. -/
import Derived.Test.YtmokinjncelmbaaDoorRRRWm
namespace Go.Proofs.YtmokinjncelmbaaDoorRRR
open Go.Sx Go.Sha

theorem elem45 : Elem Tryd.prog 45 45 9 16 := ⟨Tryd.underlying45, .inl Tryd.underlying45, Tryd.t9, .string ⟨#[]⟩, by kernel_rfl, by kernel_rfl, rfl, rfl, rfl⟩

/-- The first 'k' texts, each cut. -/
abbrev cutK (ss : List ByteArray) (k : Nat) : List ByteArray := (ss.take k).map fun s => s.extract 0 (min s.size 100)
theorem cutK_next (ss : List ByteArray) (k : Nat) (s : ByteArray) (h : ss[k]? = some s) : cutK ss (k + 1) = cutK ss k ++ [s.extract 0 (min s.size 100)] := by
  obtain ⟨hk, rfl⟩ := List.getElem?_eq_some_iff.1 h
  rw [cutK, List.take_succ_eq_append_getElem hk, List.map_append]
  rfl
theorem cutK_sizes (ss : List ByteArray) (k : Nat) : ∀ s ∈ cutK ss k, s.size ≤ 100 := fun s hs => by
  obtain ⟨x, _, rfl⟩ := List.mem_map.1 hs
  simp
  omega

/-- A slice of texts that a call has made: nil while nothing was appended. -/
abbrev sa (x : Option (Nat × List Value)) : Option Addr := x.map fun y => ⟨y.1, 0, none⟩
abbrev sc (ss : List ByteArray) : Option (Nat × List Value) → Nat
  | none => 0
  | some y => (ss.map Value.string ++ y.2).length
abbrev sN (ss : List ByteArray) : Option (Nat × List Value) → List Blk
  | none => []
  | some y => [⟨y.1, ss.map Value.string ++ y.2, 9⟩]

theorem texts_of {w0 w : World} {O : List Nat} {M : List Blk} {ss : List ByteArray} {x : Option (Nat × List Value)} (hp : Hp w0 w O M) (hM : ∀ e ∈ sN ss x, e ∈ M) (hx : x = none → ss = []) (hl : ss.length ≤ maxLen) (hs : ∀ s ∈ ss, s.size ≤ 100) : Texts w (sa x) ss.length ss := by
  refine ⟨rfl, hl, fun s h => by have := hs s h; unfold maxLen; omega, fun h0 => ?_⟩
  cases x with
  | none => rw [hx rfl] at h0; simp at h0
  | some y =>
    refine ⟨y.1, 0, rfl, fun i v hv => ?_⟩
    have h1 := (hp.mem ⟨y.1, ss.map Value.string ++ y.2, 9⟩ (hM _ (by simp [sN]))).cell (0 + i)
    simp only at h1
    rw [h1, Nat.zero_add, List.getElem?_append_left (List.getElem?_eq_some_iff.1 hv).1]
    exact hv

theorem list (ss : List ByteArray) (a : Option Addr) (len cap : Nat) (w : World) (ht : Texts w a len ss) :
    Calls Tryd.prog 22 [.slice a len cap].toArray w fun e w' => ∃ x : Option (Nat × List Value), (x = none → cutK ss 12 = []) ∧ e = .returned (.slice (sa x) (cutK ss 12).length (sc (cutK ss 12) x)) ∧ Hp w w' [] (sN (cutK ss 12) x) := by
  have hsl := ht.size
  have hml := maxLen_lt
  have hsm := ht.small
  refine enter0 Tryd.func22 rfl rfl ?_
  refine .seq (.region (.rd (.assign rfl) rfl (.nil (.seq ?_))))
  refine .seq (.region (.rd (.assign rfl) rfl (.nil (.seq ?_))))
  refine .seq (.seq (.region (.rd (.assign rfl) rfl (.nil (.seq ?_)))))
  refine .block (.weak (L' := [(4, i64 0), (3, .slice none 0 0), (0, .slice a len cap)]) ⟨rfl, rfl, rfl, trivial⟩
    (.loop (fun r L M => ∃ k x, k ≤ len ∧ k ≤ 12 ∧ (x = none → k = 0) ∧ r = len - k ∧ L = [(4, i64 k), (3, .slice (sa x) (cutK ss k).length (sc (cutK ss k) x)), (0, .slice a len cap)] ∧ M = sN (cutK ss k) x) len ⟨0, none, by omega, by omega, fun _ => rfl, rfl, rfl, rfl⟩ ?_))
  rintro r L M ⟨k, x, hk, hk12, hx, rfl, rfl, rfl⟩
  refine .seq (.mid (fun L' M' => L' = [(12, .bool (decide (k < len ∧ k < 12))), (4, i64 k), (3, .slice (sa x) (cutK ss k).length (sc (cutK ss k) x)), (0, .slice a len cap)] ∧ M' = sN (cutK ss k) x) (.region ?_) ?_)
  · refine .rd (.move rfl) rfl ?_
    refine .rd (.move rfl) rfl ?_
    refine .rd (.lenS rfl Tryd.underlying45) rfl ?_
    refine .rd (.lssN rfl rfl) rfl ?_
    refine .rd (.move rfl) rfl ?_
    by_cases h : k < len
    · rw [decide_eq_true h]
      refine .guardYes rfl ?_
      refine .rd (.move rfl) rfl ?_
      refine .guardYes rfl ?_
      refine .rd (.lssN (b := 12) rfl rfl) rfl ?_
      refine .rd (.pick rfl rfl) rfl (.nil (.mid ⟨rfl, rfl⟩ ⟨?_, rfl, rfl, rfl, trivial⟩))
      simp [h, lk, push]
    · rw [decide_eq_false h]
      refine .guardNo rfl rfl rfl ?_
      refine .guardNo rfl rfl rfl ?_
      refine .rd (.pick rfl rfl) rfl (.nil (.mid ⟨rfl, rfl⟩ ⟨?_, rfl, rfl, rfl, trivial⟩))
      simp [h, lk, push]
  rintro L' M' ⟨rfl, rfl⟩
  refine .cond rfl (fun hlt => .skip (.seq ?_)) fun hge => .exit (.thE (.thE (.exitHere (.seq ?_))))
  · have hlt : k < len ∧ k < 12 := of_decide_eq_true hlt
    obtain ⟨ab, ao, s, rfl, hsk, hcell⟩ := texts_get ht k hlt.1
    have hnext := cutK_next ss k s hsk
    have hkl : (cutK ss k).length = k := by simp; omega
    refine .mid (fun L' M' => ∃ b sp, L' = [(4, i64 k), (3, .slice (some ⟨b, 0, none⟩) (cutK ss (k + 1)).length ((cutK ss (k + 1)).map Value.string ++ sp).length), (0, .slice (some ⟨ab, ao, none⟩) len cap)] ∧ M' = [⟨b, (cutK ss (k + 1)).map Value.string ++ sp, 9⟩]) ?_ ?_
    · refine .block (.region ?_)
      refine .rd (.move rfl) rfl ?_
      refine .rd (.move rfl) rfl ?_
      refine .rd (.move rfl) rfl ?_
      refine .rd (.idxS rfl rfl Tryd.underlying45 Tryd.sizeOf9 hlt.1) rfl ?_
      refine .rd (.ldOld rfl Tryd.isAgg9 (by simp) hcell) rfl ?_
      refine .callv (.func (vs := [.string s, i64 100]) rfl Tryd.func9 rfl (by decide)) (fun w' _ => short s 100 w') rfl ?_
      refine .buildSlice (C := [.string (s.extract 0 (min s.size 100))]) (e := 9) rfl (fun w => by kernel_rfl) rfl fun b8 hb8 => ?_
      cases x with
      | none =>
        have hk0 := hx rfl
        subst hk0
        refine .appendNil (news := [.string (s.extract 0 (min s.size 100))]) elem45 rfl rfl rfl (.ofBlock (j := 0) rfl rfl (by simp [Value.oneCell'])) (by simp) (by simp) (by simp) fun b2 sp2 => ?_
        refine .rd (.assign rfl) rfl (.nil (.inBlock ?_))
        refine .dropM (M' := [⟨b2, [.string (s.extract 0 (min s.size 100))] ++ sp2, 9⟩]) (.cons_cons _ (List.nil_sublist _)) ?_
        refine .mid ⟨b2, sp2, rfl, by rw [hnext]; rfl⟩ ⟨rfl, ?_, rfl, trivial⟩
        rw [hnext]
        rfl
      | some y =>
        obtain ⟨b, sp⟩ := y
        refine .append (xs := (cutK ss k).map Value.string) (sp := sp) (news := [.string (s.extract 0 (min s.size 100))]) elem45 rfl rfl rfl 1 rfl (@List.length_map _ _ (cutK ss k) Value.string).symm rfl (.ofBlock (j := 0) rfl rfl (by simp [Value.oneCell'])) (by rw [List.length_map, hkl]; simp; omega) (by rw [List.length_map, hkl]; simp; omega) fun b2 sp2 => ?_
        refine .rd (.assign rfl) rfl (.nil (.inBlock ?_))
        have e1 : (cutK ss k).map Value.string ++ [.string (s.extract 0 (min s.size 100))] = (cutK ss (k + 1)).map Value.string := by rw [hnext, List.map_append]; rfl
        rw [e1]
        refine .dropM (M' := [⟨b2, (cutK ss (k + 1)).map Value.string ++ sp2, 9⟩]) (List.sublist_cons_self _ _) ?_
        refine .mid ⟨b2, sp2, rfl, rfl⟩ ⟨rfl, ?_, rfl, trivial⟩
        show some (Value.slice _ ((cutK ss (k + 1)).map Value.string).length _) = _
        rw [@List.length_map _ _ (cutK ss (k + 1)) Value.string]
    rintro L' M' ⟨b, sp, rfl, rfl⟩
    refine .region ?_
    refine .rd (.move rfl) rfl ?_
    refine .rd (.addN (b := 1) rfl rfl (by omega)) rfl ?_
    refine .rd (.assign rfl) rfl (.nil (.round (len - (k + 1)) (by omega) ⟨k + 1, some (b, sp), by omega, by omega, by simp, rfl, rfl, rfl⟩ ⟨rfl, rfl, rfl, trivial⟩))
  have hge : ¬ (k < len ∧ k < 12) := of_decide_eq_false hge
  have hcut : cutK ss k = cutK ss 12 := by
    by_cases h : k = 12
    · rw [h]
    · rw [cutK, cutK, List.take_of_length_le (by omega), List.take_of_length_le (by omega)]
  have hx' : x = none → cutK ss 12 = [] := fun h => by rw [← hcut, hx h]; rfl
  rw [hcut]
  refine .seq (.region ?_)
  refine .rd (.move rfl) rfl ?_
  refine .rd (.assign rfl) rfl (.nil (.seq (.ret ?_)))
  exact .ret1 rfl rfl fun w' hp => ⟨x, hx', rfl, hp⟩

theorem same (ss tt : List ByteArray) (a b : Option Addr) (len cap len' cap' : Nat) (w : World) (hs : Texts w a len ss) (ht : Texts w b len' tt) :
    Calls Tryd.prog 24 [.slice a len cap, .slice b len' cap'].toArray w fun e w' => e = .returned (.bool (decide (ss = tt))) ∧ Hp w w' [] [] := by
  have h1 := hs.size
  have h2 := ht.size
  have hml := maxLen_lt
  have hsm := hs.small
  refine enter0 Tryd.func24 rfl rfl ?_
  refine .seq (.region (.rd (.assign rfl) rfl (.nil (.seq ?_))))
  refine .seq (.seq (.region ?_))
  refine .rd (.move rfl) rfl ?_
  refine .rd (.lenS rfl Tryd.underlying45) rfl ?_
  refine .rd (.move rfl) rfl ?_
  refine .rd (.lenS rfl Tryd.underlying45) rfl ?_
  refine .rd ((Rd.neqN rfl rfl).cast (v' := .bool (decide (¬ len = len'))) (by simp)) rfl (.nil (.seq ?_))
  refine .cond rfl (fun h => ?_) fun h => .skip (.seq ?_)
  · have hne : ¬ ss = tt := fun e => by have := of_decide_eq_true h; subst e; omega
    refine .seq (.region (.rd (.assign rfl) rfl (.nil (.seq (.ret ?_)))))
    repeat (first | refine At.thR ?_ | refine At.blR ?_)
    exact .ret1 rfl rfl fun w' hp => ⟨by rw [decide_eq_false hne], hp.nil⟩
  have hll : len = len' := by have := of_decide_eq_false h; omega
  subst hll
  clear h
  refine .seq (.seq (.region (.rd (.assign rfl) rfl (.nil (.seq ?_)))))
  refine .block (.weak (L' := [(5, i64 0), (1, .slice b len cap'), (0, .slice a len cap)]) ⟨rfl, rfl, rfl, trivial⟩
    (.loop (fun r L M => ∃ k, k ≤ len ∧ r = len - k ∧ ss.take k = tt.take k ∧ L = [(5, i64 k), (1, .slice b len cap'), (0, .slice a len cap)] ∧ M = []) len ⟨0, by omega, rfl, rfl, rfl, rfl⟩ ?_))
  rintro r L M ⟨k, hk, rfl, htk, rfl, rfl⟩
  refine .seq (.seq (.region ?_))
  refine .rd (.move rfl) rfl ?_
  refine .rd (.move rfl) rfl ?_
  refine .rd (.lenS rfl Tryd.underlying45) rfl ?_
  refine .rd (.lssN rfl rfl) rfl (.nil (.seq ?_))
  refine .cond rfl (fun hlt => .skip (.seq ?_)) fun hge => .exit (.thE (.thE (.exitHere (.seq ?_))))
  · have hlt : k < len := of_decide_eq_true hlt
    obtain ⟨ab, ao, s, rfl, hsk, hcs⟩ := texts_get hs k hlt
    obtain ⟨bb, bo, t, rfl, htk', hct⟩ := texts_get ht k hlt
    refine .seq (.block (.seq (.draw mixed (by kernel_rfl) ?_)))
    refine .rd (.move rfl) rfl ?_
    refine .rd (.move rfl) rfl ?_
    refine .rd (.idxS rfl rfl Tryd.underlying45 Tryd.sizeOf9 hlt) rfl ?_
    refine .rd (.ldOld rfl Tryd.isAgg9 (by simp) hcs) rfl ?_
    refine .rd (.move rfl) rfl ?_
    refine .rd (.move rfl) rfl ?_
    refine .rd (.idxS rfl rfl Tryd.underlying45 Tryd.sizeOf9 hlt) rfl ?_
    refine .rd (.ldOld rfl Tryd.isAgg9 (by simp) hct) rfl ?_
    refine .rd ((Rd.strNeq rfl rfl).cast (v' := .bool (decide (¬ s = t))) (by simp)) rfl (.done (.seq ?_))
    refine .cond rfl (fun h => ?_) fun h => .skip (.inBlock (.seq (.region ?_)))
    · have hne : ¬ ss = tt := fun e => by
        have := of_decide_eq_true h
        subst e
        rw [hsk] at htk'
        exact this (Option.some.inj htk')
      refine .seq (.region (.rd (.assign rfl) rfl (.nil (.seq (.ret ?_)))))
      repeat (first | refine At.thR ?_ | refine At.blR ?_)
      exact .ret1 rfl rfl fun w' hp => ⟨by rw [decide_eq_false hne], hp.nil⟩
    have hst : s = t := Decidable.not_not.1 (of_decide_eq_false h)
    subst hst
    refine .rd (.move rfl) rfl ?_
    refine .rd (.addN (b := 1) rfl rfl (by omega)) rfl ?_
    refine .rd (.assign rfl) rfl (.nil (.round (len - (k + 1)) (by omega) ⟨k + 1, by omega, rfl, ?_, rfl, rfl⟩ ⟨rfl, rfl, rfl, trivial⟩))
    obtain ⟨hkl, e1⟩ := List.getElem?_eq_some_iff.1 hsk
    obtain ⟨hkl', e2⟩ := List.getElem?_eq_some_iff.1 htk'
    rw [List.take_succ_eq_append_getElem hkl, List.take_succ_eq_append_getElem hkl', htk, e1, e2]
  have hkl : k = len := by have := of_decide_eq_false hge; omega
  have heq : ss = tt := by
    rw [List.take_of_length_le (by omega), List.take_of_length_le (by omega)] at htk
    exact htk
  refine .seq (.region (.rd (.assign rfl) rfl (.nil (.seq (.ret ?_)))))
  exact .ret1 rfl rfl fun w' hp => ⟨by rw [decide_eq_true heq], hp.nil⟩
end Go.Proofs.YtmokinjncelmbaaDoorRRR
