/- The joined text of a tag and a list of texts, as plain data; it tells tags and lists apart: no program. -/
import Derived.Test.YtmokinjncelmbaaDoorRRRPa
namespace Go.Sha

def be4 (n : Nat) : List (BitVec 8) := [BitVec.ofNat 8 (n / 2 ^ 24), BitVec.ofNat 8 (n / 2 ^ 16), BitVec.ofNat 8 (n / 2 ^ 8), BitVec.ofNat 8 n]
def enc (ss : List (List (BitVec 8))) : List (BitVec 8) := ss.flatMap fun s => be4 s.length ++ s
def joined (tag : BitVec 8) (ss : List (List (BitVec 8))) : List (BitVec 8) := [tag, BitVec.ofNat 8 ss.length] ++ enc ss

theorem be4_inj (m n : Nat) (hm : m < 2 ^ 32) (hn : n < 2 ^ 32) (h : be4 m = be4 n) : m = n := by
  simp only [be4, List.cons.injEq, and_true] at h
  obtain ⟨h1, h2, h3, h4⟩ := h
  have e1 := congrArg BitVec.toNat h1
  have e2 := congrArg BitVec.toNat h2
  have e3 := congrArg BitVec.toNat h3
  have e4 := congrArg BitVec.toNat h4
  simp only [BitVec.toNat_ofNat] at e1 e2 e3 e4
  omega

theorem enc_cons (s : List (BitVec 8)) (ss : List (List (BitVec 8))) : enc (s :: ss) = be4 s.length ++ s ++ enc ss := rfl

theorem enc_inj : ∀ ss tt : List (List (BitVec 8)), (∀ s ∈ ss, s.length < 2 ^ 32) → (∀ s ∈ tt, s.length < 2 ^ 32) → enc ss = enc tt → ss = tt
  | [], [], _, _, _ => rfl
  | [], t :: tt, _, _, h => by
    have := congrArg List.length h
    simp [enc, be4] at this
  | s :: ss, [], _, _, h => by
    have := congrArg List.length h
    simp [enc, be4] at this
  | s :: ss, t :: tt, hs, ht, h => by
    rw [enc_cons, enc_cons, List.append_assoc, List.append_assoc] at h
    obtain ⟨h1, h2⟩ := List.append_inj h rfl
    have hl := be4_inj _ _ (hs s (by simp)) (ht t (by simp)) h1
    obtain ⟨h3, h4⟩ := List.append_inj h2 hl
    rw [h3, enc_inj ss tt (fun x hx => hs x (by simp [hx])) (fun x hx => ht x (by simp [hx])) h4]

theorem joined_inj (a b : BitVec 8) (ss tt : List (List (BitVec 8))) (hs : ∀ s ∈ ss, s.length < 2 ^ 32) (ht : ∀ s ∈ tt, s.length < 2 ^ 32) : joined a ss = joined b tt ↔ a = b ∧ ss = tt := by
  refine ⟨fun h => ?_, fun ⟨h1, h2⟩ => by rw [h1, h2]⟩
  obtain ⟨h1, h2⟩ := List.append_inj h rfl
  simp only [List.cons.injEq] at h1
  exact ⟨h1.1, enc_inj ss tt hs ht h2⟩

theorem enc_bound : ∀ ss : List (List (BitVec 8)), (∀ s ∈ ss, s.length ≤ 100) → (enc ss).length ≤ 104 * ss.length
  | [], _ => by simp [enc]
  | s :: ss, h => by
    have := enc_bound ss fun x hx => h x (by simp [hx])
    have := h s (by simp)
    rw [enc_cons]
    simp [be4]
    omega
theorem joined_bound (a : BitVec 8) (ss : List (List (BitVec 8))) (h : ∀ s ∈ ss, s.length ≤ 100) : (joined a ss).length ≤ 2 + 104 * ss.length := by
  have := enc_bound ss h
  simp only [joined, List.length_append, List.length_cons, List.length_nil]
  omega
theorem enc_none : ∀ n : Nat, (enc (List.replicate n [])).length = 4 * n
  | 0 => rfl
  | n + 1 => by
    rw [List.replicate_succ, enc_cons, List.length_append, enc_none n]
    simp [be4]
    omega
theorem joined_none (a : BitVec 8) (n : Nat) : (joined a (List.replicate n [])).length = 2 + 4 * n := by
  simp only [joined, List.length_append, enc_none]
  simp
theorem enc_take (ss : List (List (BitVec 8))) (k : Nat) (s : List (BitVec 8)) (h : ss[k]? = some s) : enc (ss.take (k + 1)) = enc (ss.take k) ++ be4 s.length ++ s := by
  obtain ⟨hk, rfl⟩ := List.getElem?_eq_some_iff.1 h
  rw [List.take_succ_eq_append_getElem hk, enc, List.flatMap_append]
  simp [enc]
end Go.Sha
