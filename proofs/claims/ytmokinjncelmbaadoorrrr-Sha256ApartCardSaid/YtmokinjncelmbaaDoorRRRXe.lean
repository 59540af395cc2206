/- The walk of Sha256Apart: at every input it hands back true. -/
import Derived.Test.YtmokinjncelmbaaDoorRRRWn
import Derived.Test.YtmokinjncelmbaaDoorRRRXc
namespace Go.Proofs.YtmokinjncelmbaaDoorRRR
open Go.Sx Go.Sha

theorem bytes_inj (ss tt : List ByteArray) (h : bytesOf' ss = bytesOf' tt) : ss = tt := by
  induction ss generalizing tt with
  | nil =>
    cases tt with
    | nil => rfl
    | cons t tt => simp at h
  | cons s ss ih =>
    cases tt with
    | nil => simp at h
    | cons t tt =>
      simp only [bytesOf', List.map_cons, List.cons.injEq] at h
      rw [bsOf_inj h.1, ih tt h.2]

theorem apart_law (c0 c1 : BitVec 8) (ss tt : List ByteArray) (hs : ∀ s ∈ ss, s.size ≤ 100) (ht : ∀ s ∈ tt, s.size ≤ 100) : ofBs (joined c0 (bytesOf' ss)) = ofBs (joined c1 (bytesOf' tt)) ↔ c0 = c1 ∧ ss = tt := by
  have h1 : ∀ x ∈ bytesOf' ss, x.length < 2 ^ 32 := fun x hx => by have := sizes_bytes hs x hx; omega
  have h2 : ∀ x ∈ bytesOf' tt, x.length < 2 ^ 32 := fun x hx => by have := sizes_bytes ht x hx; omega
  rw [show (ofBs (joined c0 (bytesOf' ss)) = ofBs (joined c1 (bytesOf' tt))) ↔ joined c0 (bytesOf' ss) = joined c1 (bytesOf' tt) from ⟨fun h => by have := congrArg bsOf h; simpa using this, fun h => by rw [h]⟩, joined_inj _ _ _ _ h1 h2]
  exact ⟨fun ⟨a, b⟩ => ⟨a, bytes_inj _ _ b⟩, fun ⟨a, b⟩ => ⟨a, by rw [b]⟩⟩

theorem apart (tags : List (BitVec 8)) (a : Option Addr) (len cap : Nat) (ss0 : List ByteArray) (b : Option Addr) (len' cap' : Nat) (tt0 : List ByteArray) (w : World) (hT : Tables w) (htags : tags.length = 2) (hs0 : Texts w a len ss0) (ht0 : Texts w b len' tt0) :
    Calls Tryd.prog 7 [.agg (tags.map u8).toArray, .slice a len cap, .slice b len' cap'].toArray w fun e w' => e = .returned (.bool true) ∧ Hp w w' [] [] := by
  obtain ⟨c0, c1, rfl⟩ : ∃ c0 c1, tags = [c0, c1] := by
    match tags, htags with
    | [x, y], _ => exact ⟨x, y, rfl⟩
  refine enter0 Tryd.func7 rfl rfl ?_
  refine .seq (.region ?_)
  refine .box rfl rfl (C := [u8 c0, u8 c1]) rfl fun b3 h3 => ?_
  refine .rd (.assign rfl) rfl (.nil (.seq ?_))
  have hsz := cutK_sizes ss0 12
  have htz := cutK_sizes tt0 12
  have hsl : (cutK ss0 12).length ≤ 12 := by simp; omega
  have htl : (cutK tt0 12).length ≤ 12 := by simp; omega
  have hmx : 12 ≤ maxLen := by unfold maxLen; omega
  refine .seq (.region ?_)
  refine .rd (.move rfl) rfl ?_
  refine .callNewP (v := fun x => .slice (sa x) (cutK ss0 12).length (sc (cutK ss0 12) x)) (N := fun x => sN (cutK ss0 12) x) (p := fun x => x = none → cutK ss0 12 = []) (.func (vs := [.slice a len cap]) rfl Tryd.func22 rfl (by decide)) (fun w' hp => list ss0 a len cap w' (hs0.after hp)) rfl fun x hx => ?_
  refine .rd (.move rfl) rfl ?_
  refine .callNewP (v := fun x => .slice (sa x) (cutK tt0 12).length (sc (cutK tt0 12) x)) (N := fun x => sN (cutK tt0 12) x) (p := fun x => x = none → cutK tt0 12 = []) (.func (vs := [.slice b len' cap']) rfl Tryd.func22 rfl (by decide)) (fun w' hp => list tt0 b len' cap' w' (ht0.after hp)) rfl fun y hy => ?_
  generalize cutK ss0 12 = ss at *
  generalize cutK tt0 12 = tt at *
  have law := apart_law c0 c1 ss tt hsz htz
  refine .rd (.assign rfl) rfl ?_
  refine .rd (.assign rfl) rfl (.nil (.seq ?_))
  have tS : ∀ {w' : World}, Hp w w' [] (sN tt y ++ (sN ss x ++ [⟨b3, [u8 c0, u8 c1], 32⟩])) → Texts w' (sa x) ss.length ss := fun hp => texts_of hp (fun e he => by simp [he]) hx (by omega) hsz
  have tT : ∀ {w' : World}, Hp w w' [] (sN tt y ++ (sN ss x ++ [⟨b3, [u8 c0, u8 c1], 32⟩])) → Texts w' (sa y) tt.length tt := fun hp => texts_of hp (fun e he => by simp [he]) hy (by omega) htz
  have g0 : ∀ w', Hp w w' [] (sN tt y ++ (sN ss x ++ [⟨b3, [u8 c0, u8 c1], 32⟩])) → w'.cell? ⟨b3, 0 + 0 * 1, none⟩ = some (u8 c0) := fun w' hp => (hp.mem ⟨b3, [u8 c0, u8 c1], 32⟩ (by simp)).cell 0
  have g1 : ∀ w', Hp w w' [] (sN tt y ++ (sN ss x ++ [⟨b3, [u8 c0, u8 c1], 32⟩])) → w'.cell? ⟨b3, 0 + 1 * 1, none⟩ = some (u8 c1) := fun w' hp => (hp.mem ⟨b3, [u8 c0, u8 c1], 32⟩ (by simp)).cell 1
  refine .seq (.region ?_)
  refine .rd (.idxA (k := 0) rfl rfl Tryd.underlying32 Tryd.sizeOf5 (by omega)) rfl ?_
  refine .rd (.ldBy (v := u8 c0) rfl Tryd.isAgg5 g0) rfl ?_
  refine .rd (.move rfl) rfl ?_
  refine .callv (.func (vs := [u8 c0, .slice (sa x) ss.length (sc ss x)]) rfl Tryd.func23 rfl (by decide)) (fun w' hp => join c0 ss (sa x) ss.length (sc ss x) w' (tS hp) hsz) rfl ?_
  refine .rd (.move rfl) rfl ?_
  rw [joinOut, if_pos (by omega)]
  refine .rd (.extract rfl rfl) rfl ?_
  refine .rd (.extract rfl rfl) rfl ?_
  refine .rd (.assign rfl) rfl ?_
  refine .rd (.assign rfl) rfl (.nil (.seq ?_))
  refine .seq (.region ?_)
  refine .rd (.idxA (k := 1) rfl rfl Tryd.underlying32 Tryd.sizeOf5 (by omega)) rfl ?_
  refine .rd (.ldBy (v := u8 c1) rfl Tryd.isAgg5 g1) rfl ?_
  refine .rd (.move rfl) rfl ?_
  refine .callv (.func (vs := [u8 c1, .slice (sa y) tt.length (sc tt y)]) rfl Tryd.func23 rfl (by decide)) (fun w' hp => join c1 tt (sa y) tt.length (sc tt y) w' (tT hp) htz) rfl ?_
  refine .rd (.move rfl) rfl ?_
  rw [joinOut, if_pos (by omega)]
  refine .rd (.extract rfl rfl) rfl ?_
  refine .rd (.extract rfl rfl) rfl ?_
  refine .rd (.assign rfl) rfl ?_
  refine .rd (.assign rfl) rfl (.nil (.seq ?_))
  generalize ofBs (joined c0 (bytesOf' ss)) = S at *
  generalize ofBs (joined c1 (bytesOf' tt)) = T at *
  refine .seq (.region ?_)
  refine .callv (.func (vs := []) rfl Tryd.func10 rfl (by decide)) (fun w' hp => known w' (hT.nil hp)) rfl ?_
  refine .rd (.move rfl) rfl ?_
  refine .guardYes rfl ?_
  refine .rd (.move rfl) rfl ?_
  refine .guardYes rfl ?_
  refine .rd ((Rd.eql rfl rfl).cast (v' := .bool true) rfl) rfl ?_
  refine .rd (.pick rfl rfl) rfl ?_
  refine .rd (.move rfl) rfl ?_
  refine .guardYes rfl ?_
  refine .rd (.move rfl) rfl ?_
  refine .guardYes rfl ?_
  refine .rd ((Rd.eql rfl rfl).cast (v' := .bool true) rfl) rfl ?_
  refine .rd (.pick rfl rfl) rfl ?_
  refine .rd (.move rfl) rfl ?_
  refine .guardYes rfl ?_
  refine .rd (.move rfl) rfl ?_
  refine .guardYes rfl ?_
  refine .rd (.move rfl) rfl ?_
  refine .guardYes rfl ?_
  refine .rd (.strEql (a := S) (b := T) rfl rfl) rfl ?_
  refine .guardYes rfl ?_
  refine .rd (.idxA (k := 0) rfl rfl Tryd.underlying32 Tryd.sizeOf5 (by omega)) rfl ?_
  refine .guardYes rfl ?_
  refine .rd (.ldBy (v := u8 c0) rfl Tryd.isAgg5 g0) rfl ?_
  refine .guardYes rfl ?_
  refine .rd (.idxA (k := 1) rfl rfl Tryd.underlying32 Tryd.sizeOf5 (by omega)) rfl ?_
  refine .guardYes rfl ?_
  refine .rd (.ldBy (v := u8 c1) rfl Tryd.isAgg5 g1) rfl ?_
  refine .guardYes rfl ?_
  refine .rd (.eql8 rfl rfl) rfl ?_
  by_cases hcc : c0 = c1
  · rw [show (c0 == c1) = true by rw [hcc]; simp]
    refine .guardYes rfl ?_
    refine .rd (.move rfl) rfl ?_
    refine .guardYes rfl ?_
    refine .rd (.move rfl) rfl ?_
    refine .guardYes rfl ?_
    refine .rd (.move rfl) rfl ?_
    refine .guardYes rfl ?_
    refine .callv (.func (vs := [.slice (sa x) ss.length (sc ss x), .slice (sa y) tt.length (sc tt y)]) rfl Tryd.func24 rfl (by decide)) (fun w' hp => same ss tt (sa x) (sa y) ss.length (sc ss x) tt.length (sc tt y) w' (tS hp) (tT hp)) rfl ?_
    refine .guardYes rfl ?_
    refine .rd (.pick rfl rfl) rfl ?_
    refine .guardYes rfl ?_
    refine .rd ((Rd.eqlBool rfl rfl Tryd.underlying4).cast (v' := .bool true) (by simp [law, hcc])) rfl ?_
    refine .rd (.pick rfl rfl) rfl ?_
    refine .rd (.assign rfl) rfl (.nil (.seq (.ret ?_)))
    exact .ret1 rfl rfl fun w' hp => ⟨rfl, hp.nil⟩
  · rw [show (c0 == c1) = false by simpa using hcc]
    refine .guardYes rfl ?_
    refine .rd (.move rfl) rfl ?_
    refine .guardNo rfl rfl rfl ?_
    refine .guardNo rfl rfl rfl ?_
    refine .guardNo rfl rfl rfl ?_
    refine .guardYes rfl ?_
    refine .rd (.pick rfl rfl) rfl ?_
    refine .guardYes rfl ?_
    refine .rd ((Rd.eqlBool rfl rfl Tryd.underlying4).cast (v' := .bool true) (by simp [law, hcc])) rfl ?_
    refine .rd (.pick rfl rfl) rfl ?_
    refine .rd (.assign rfl) rfl (.nil (.seq (.ret ?_)))
    exact .ret1 rfl rfl fun w' hp => ⟨rfl, hp.nil⟩
end Go.Proofs.YtmokinjncelmbaaDoorRRR
