/- The order of digests: the library's, the reference's, that of the texts: one and the same; the walks of bytes.Compare, Compare and the reference's Compare. -/
import Derived.Test.YtmokinjncelmbaaDoorRRRWi
import Derived.Lib.Bytealg
import Derived.Lib.BytesEntry
import Derived.Laws.Externs
namespace Go.Sx
variable {P : Program} {n : Nat} {w0 : World} {O : List Nat} {L : Env} {M : List Blk} {ty : TypeId}
/-- A function without a body, that the model answers. -/
theorem Rd.extern {f : FuncId} {fn : Func} {e : Array Value → Sem Value} {xs : List Operand} {vs : List Value} {ts : Array TypeId} {v : Value} (hv : evs L xs = some vs) (hf : P.funcs[f]? = some fn) (hnm : (fn.name == "runtime.NumGoroutine") = false) (hb : fn.body.isNone = true) (hn : Extern.findNext fn = none) (he : Extern.find fn = some e)
    (hr : ∀ w, Hp w0 w O M → (e vs.toArray).run P w = .ok v w) : Rd P n w0 O M L (.call { callee := .value (.func f), args := xs.toArray, argTypes := ts }) ty v := fun _ _ _ _ a w hk hp => by
  have := hk.evals hv
  have h1 := run_callFunc_extern hf hnm hb hn he vs.toArray w
  rw [hr w hp] at h1
  simp only [Result.andThen_ok] at h1
  simp [execOp, resolve, Act.eval, Deferred.ofValue, invoke, this, h1]
/-- A whole array in a block of its own. -/
theorem Rd.ldFull {t : TypeId} {x : Operand} {desc : TypeDesc} {b : Nat} {C : List Value} {T : TypeId} (hx : ev L x = some (.pointer (some ⟨b, 0, none⟩))) (hu : P.underlying t = some desc) (hd : desc.isRow = true) (hs : (P.info? t).map (·.size) = some C.length) (j : Nat) (hj : M[j]? = some ⟨b, C, T⟩) :
    Rd P n w0 O M L (.load t x) ty (.agg C.toArray) :=
  (Rd.ldAgg hx hu hd hs j hj (by omega)).cast (by rw [List.drop_zero, List.take_length])
end Go.Sx
namespace Go.Sha
/-- The order, byte by byte. -/
def cmpB : List (BitVec 8) → List (BitVec 8) → Int
  | [], [] => 0
  | [], _ :: _ => -1
  | _ :: _, [] => 1
  | a :: x, b :: y => if a < b then -1 else if b < a then 1 else cmpB x y

theorem cmpB_cons (a b : BitVec 8) (x y : List (BitVec 8)) : cmpB (a :: x) (b :: y) = if a < b then -1 else if b < a then 1 else cmpB x y := rfl

theorem cmpB_neg : ∀ x y : List (BitVec 8), cmpB y x = - cmpB x y
  | [], [] => rfl
  | [], _ :: _ => rfl
  | _ :: _, [] => rfl
  | a :: x, b :: y => by
    rw [cmpB_cons, cmpB_cons, cmpB_neg x y]
    simp only [BitVec.lt_def]
    repeat split
    all_goals first | rfl | omega

theorem cmpB_zero : ∀ x y : List (BitVec 8), cmpB x y = 0 ↔ x = y
  | [], [] => by simp [cmpB]
  | [], _ :: _ => by simp [cmpB]
  | _ :: _, [] => by simp [cmpB]
  | a :: x, b :: y => by
    rw [cmpB_cons, List.cons.injEq, ← cmpB_zero x y]
    have hab : a = b ↔ ¬ a < b ∧ ¬ b < a := by
      simp only [BitVec.lt_def]
      exact ⟨fun h => by subst h; omega, fun h => BitVec.eq_of_toNat_eq (by omega)⟩
    rw [hab]
    split
    · simp_all
    · split <;> simp_all

theorem cmpB_three : ∀ x y : List (BitVec 8), cmpB x y = -1 ∨ cmpB x y = 0 ∨ cmpB x y = 1
  | [], [] => by simp [cmpB]
  | [], _ :: _ => by simp [cmpB]
  | _ :: _, [] => by simp [cmpB]
  | a :: x, b :: y => by
    rw [cmpB_cons]
    split
    · exact .inl rfl
    · split
      · exact .inr (.inr rfl)
      · exact cmpB_three x y

theorem cmpB_bounds (x y : List (BitVec 8)) : -1 ≤ cmpB x y ∧ cmpB x y ≤ 1 := by rcases cmpB_three x y with h | h | h <;> omega

abbrev up (x : List (BitVec 8)) : List UInt8 := x.map UInt8.ofBitVec
theorem up_lt (a b : BitVec 8) : UInt8.ofBitVec a < UInt8.ofBitVec b ↔ a < b := Iff.rfl
theorem compareBytes_up : ∀ x y : List (BitVec 8), Lib.compareBytes (up x) (up y) = cmpB x y
  | [], [] => rfl
  | [], _ :: _ => rfl
  | _ :: _, [] => rfl
  | a :: x, b :: y => by
    have := compareBytes_up x y
    show (if UInt8.ofBitVec a < UInt8.ofBitVec b then (-1 : Int) else if UInt8.ofBitVec b < UInt8.ofBitVec a then 1 else Lib.compareBytes (up x) (up y)) = _
    rw [this, cmpB_cons]
    rfl
theorem bytesLess_up : ∀ x y : List (BitVec 8), Op.bytesLess (up x) (up y) = decide (cmpB x y < 0)
  | [], [] => rfl
  | [], _ :: _ => rfl
  | _ :: _, [] => rfl
  | a :: x, b :: y => by
    have ih := bytesLess_up x y
    show (decide (UInt8.ofBitVec a < UInt8.ofBitVec b) || (UInt8.ofBitVec a == UInt8.ofBitVec b && Op.bytesLess (up x) (up y))) = _
    rw [ih, cmpB_cons]
    by_cases h1 : a < b
    · have : UInt8.ofBitVec a < UInt8.ofBitVec b := h1
      simp [h1, this]
    · have h1' : ¬ UInt8.ofBitVec a < UInt8.ofBitVec b := h1
      by_cases h2 : b < a
      · have hne : ¬ a = b := fun e => by subst e; exact h1 h2
        simp [h1, h1', h2, hne]
      · have he : a = b := BitVec.eq_of_toNat_eq (by simp only [BitVec.lt_def] at h1 h2; omega)
        subst he
        simp [h1, h1']
end Go.Sha
namespace Go.Proofs.YtmokinjncelmbaaDoorRRR
open Go.Sx Go.Sha

theorem hx_lt : ∀ i j : Fin 16, hx i.val < hx j.val ↔ i < j := by decide +kernel
theorem hx_lt' (i j : Nat) (hi : i < 16) (hj : j < 16) : hx i < hx j ↔ i < j := hx_lt ⟨i, hi⟩ ⟨j, hj⟩
theorem hex2_cmp (a b : BitVec 8) (x y : List (BitVec 8)) : cmpB (hex2 a ++ x) (hex2 b ++ y) = if a < b then -1 else if b < a then 1 else cmpB x y := by
  have low : ∀ c : BitVec 8, (c &&& 15#8).toNat = c.toNat % 16 := fun c => by
    rw [BitVec.toNat_and]
    exact Nat.and_two_pow_sub_one_eq_mod c.toNat 4
  have high : ∀ c : BitVec 8, (c >>> 4).toNat = c.toNat / 16 := fun c => by rw [BitVec.toNat_ushiftRight, Nat.shiftRight_eq_div_pow]
  have ha := a.isLt
  have hb := b.isLt
  show cmpB (hx (a >>> 4).toNat :: hx (a &&& 15#8).toNat :: x) (hx (b >>> 4).toNat :: hx (b &&& 15#8).toNat :: y) = _
  rw [cmpB_cons, cmpB_cons, low, low, high, high]
  simp only [hx_lt' (a.toNat / 16) (b.toNat / 16) (by omega) (by omega), hx_lt' (b.toNat / 16) (a.toNat / 16) (by omega) (by omega), hx_lt' (a.toNat % 16) (b.toNat % 16) (by omega) (by omega), hx_lt' (b.toNat % 16) (a.toNat % 16) (by omega) (by omega)]
  simp only [BitVec.lt_def]
  repeat split
  all_goals first | rfl | omega
theorem cmp_text : ∀ x y : List (BitVec 8), cmpB (text x) (text y) = cmpB x y
  | [], [] => rfl
  | [], _ :: _ => rfl
  | _ :: _, [] => rfl
  | a :: x, b :: y => by
    show cmpB (hex2 a ++ text x) (hex2 b ++ text y) = _
    rw [hex2_cmp, cmp_text x y, cmpB_cons]

theorem toList_ofBs (x : List (BitVec 8)) : (ofBs x).toList = up x := by rw [ByteArray.toList_eq]; simp [ofBs]
theorem less_texts (x y : List (BitVec 8)) : Op.bytesLess (ofBs (text x)).toList (ofBs (text y)).toList = decide (cmpB x y < 0) := by
  rw [toList_ofBs, toList_ofBs, bytesLess_up, cmp_text]
theorem more_texts (x y : List (BitVec 8)) : (!(Op.bytesLess (ofBs (text x)).toList (ofBs (text y)).toList || decide (ofBs (text x) = ofBs (text y)))) = decide (0 < cmpB x y) := by
  have h1 : ofBs (text x) = ofBs (text y) ↔ cmpB x y = 0 := by
    rw [← cmp_text, cmpB_zero]
    exact ⟨fun h => by have := congrArg bsOf h; simpa using this, fun h => by rw [h]⟩
  rw [less_texts, Bool.eq_iff_iff]
  simp [h1]
  omega

/-! ### The walks -/
theorem run_loadBytes_own {P : Program} {w : World} {b o : Nat} {A : List (BitVec 8)} (h : w.rangeAt b o (A.map u8)) : (Extern.Bytes.loadBytes ⟨b, o, none⟩ A.length .empty).run P w = .ok (ofBs A) w := by
  have := Lib.run_loadBytesX (P := P) w (A.map fun x => (x.toNat : Int)) ⟨b, o, none⟩ .empty (fun j x hj => by
    rw [add_lit]
    rw [List.getElem?_map, Option.map_eq_some_iff] at hj
    obtain ⟨y, hy, rfl⟩ := hj
    exact h j _ (by rw [List.getElem?_map, hy]; rfl))
  rw [List.length_map] at this
  rw [this]
  congr 1
  have he : (A.map fun x => (x.toNat : Int)).map (fun n => n.toNat.toUInt8) = up A := by
    rw [List.map_map]
    refine List.map_congr_left fun x _ => ?_
    show UInt8.ofNat ((x.toNat : Int).toNat) = UInt8.ofBitVec x
    rw [Int.toNat_natCast]
    exact UInt8.toBitVec_inj.1 (by simp)
  simp only [ofBs, Lib.bytesOf]
  rw [he]
  simp
theorem run_compare {P : Program} {w : World} {b o c b' o' c' : Nat} {A B : List (BitVec 8)} (hA : w.rangeAt b o (A.map u8)) (hB : w.rangeAt b' o' (B.map u8)) :
    (Extern.BytealgCompare.compare #[.slice (some ⟨b, o, none⟩) A.length c, .slice (some ⟨b', o', none⟩) B.length c']).run P w = .ok (.int .i64 (cmpB A B)) w := by
  change Sem.run P (do pure (goInt (Extern.BytealgCompare.cmp (← Extern.Bytes.loadBytes ⟨b, o, none⟩ A.length .empty) (← Extern.Bytes.loadBytes ⟨b', o', none⟩ B.length .empty)))) w = _
  simp only [Sem.run_bind, run_loadBytes_own hA, run_loadBytes_own hB, Sem.run_pure, Result.andThen]
  rw [Lib.cmp_eq]
  have : ∀ X : List (BitVec 8), (ofBs X).data.toList = up X := fun X => by simp [ofBs]
  rw [this, this, compareBytes_up]
  rfl
theorem bytesCompare (A B : List (BitVec 8)) (w : World) (b o c b' o' c' : Nat) (hA : w.rangeAt b o (A.map u8)) (hB : w.rangeAt b' o' (B.map u8)) :
    Calls Tryd.prog 28 [.slice (some ⟨b, o, none⟩) A.length c, .slice (some ⟨b', o', none⟩) B.length c'].toArray w fun e w' => e = .returned (.int .i64 (cmpB A B)) ∧ Hp w w' [] [] := by
  refine enter0 Tryd.func28 rfl rfl ?_
  refine .seq (.region (.rd (.assign rfl) rfl (.nil (.seq ?_))))
  refine .seq (.region ?_)
  refine .rd (.move rfl) rfl ?_
  refine .rd (.move rfl) rfl ?_
  refine .rd (.extern (vs := [.slice (some ⟨b, o, none⟩) A.length c, .slice (some ⟨b', o', none⟩) B.length c']) (e := Extern.BytealgCompare.compare) rfl Tryd.func34 (by kernel_rfl) (by kernel_rfl) (by kernel_rfl) (by kernel_rfl) (fun w' hp => run_compare (fun i v hv => hp.old (by simp) (hA i v hv)) (fun i v hv => hp.old (by simp) (hB i v hv)))) rfl ?_
  refine .rd (.assign rfl) rfl (.nil (.seq (.ret ?_)))
  exact .ret1 rfl rfl fun w' hp => ⟨rfl, hp.nil⟩

theorem compare (A B : List (BitVec 8)) (w : World) (hA : A.length = 32) (hB : B.length = 32) :
    Calls Tryd.prog 15 [.agg (A.map u8).toArray, .agg (B.map u8).toArray].toArray w fun e w' => e = .returned (.int .i64 (cmpB A B)) ∧ Hp w w' [] [] := by
  refine enter0 Tryd.func15 rfl rfl ?_
  refine .seq (.region ?_)
  refine .box rfl rfl (C := A.map u8) rfl fun b2 h2 => ?_
  refine .box rfl rfl (C := B.map u8) rfl fun b3 h3 => ?_
  refine .rd (.assign rfl) rfl (.nil (.seq ?_))
  refine .seq (.draw mixed (by kernel_rfl) ?_)
  refine .rd (.arrAll rfl Tryd.underlying25 Tryd.sizeOf5) rfl ?_
  refine .rd (.arrAll rfl Tryd.underlying25 Tryd.sizeOf5) rfl ?_
  refine .callv (.func (vs := [.slice (some ⟨b2, 0, none⟩) 32 32, .slice (some ⟨b3, 0, none⟩) 32 32]) rfl Tryd.func28 rfl (by decide)) (v := .int .i64 (cmpB A B)) (fun w' hp => ?_) rfl ?_
  · have := bytesCompare A B w' b2 0 32 b3 0 32 (hp.range (j := 1) rfl fun i v hv => by rw [Nat.zero_add]; exact hv) (hp.range (j := 0) rfl fun i v hv => by rw [Nat.zero_add]; exact hv)
    rwa [hA, hB] at this
  refine .rd (.assign rfl) rfl (.done (.seq (.ret ?_)))
  exact .ret1 rfl rfl fun w' hp => ⟨rfl, hp.nil⟩
end Go.Proofs.YtmokinjncelmbaaDoorRRR
