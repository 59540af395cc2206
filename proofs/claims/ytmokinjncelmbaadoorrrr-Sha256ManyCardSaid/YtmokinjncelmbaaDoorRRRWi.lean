/- The walks of New, Reset, Len, Sum, String, and of the law's 'short' and 'known'. -/
import Derived.Test.YtmokinjncelmbaaDoorRRRWh
namespace Go.Sx
variable {P : Program} {n : Nat} {w0 : World} {O : List Nat}
variable {ops : Array Oper} {Q : Exit → Act → World → Prop} {rest : List Oper} {L : Env} {M : List Blk}
variable {d : Option Tmp} {o : Op} {ty : TypeId} {pos : String} {aft : Array Edge}
/-- A call that writes one block that the caller knows, with contents that the contract speaks of. -/
theorem WL.callSome {f : FuncId} {args : Array Value} {v : Value} {b : Nat} {C : List Value} {T : TypeId} {p : List Value → Prop} (j : Nat) (hj : M[j]? = some ⟨b, C, T⟩) (hc : Cl P n L o ty f args) (hcall : ∀ w, Hp w0 w O M → Calls P f args w fun e w' => ∃ C', e = .returned v ∧ p C' ∧ Hp w w' [b] [⟨b, C', T⟩]) (hd : fits n d = true)
    (h : ∀ C', p C' → WL P n w0 O ops Q rest (push d v L) (M.set j ⟨b, C', T⟩)) : WL P n w0 O ops Q (⟨d, o, ty, pos, aft, none⟩ :: rest) L M :=
  WL.call (R := fun e w w' => ∃ C', e = .returned v ∧ p C' ∧ Hp w w' [b] [⟨b, C', T⟩]) hc hcall fun _ _ _ hp ⟨C', h1, h2, h3⟩ => ⟨v, h1, fun _ hk => h C' h2 _ _ (hk.push hd) (hp.after_one hj h3)⟩
end Go.Sx
namespace Go.Proofs.YtmokinjncelmbaaDoorRRR
open Go.Sx Go.Sha

/-- The tables, where the program laid them. -/
structure Tables (w : World) : Prop where
  h0 : w.rangeAt 0 0 (H0.list.map u32)
  hK : w.rangeAt 1 0 (K.map u32)
theorem Tables.lt0 {w : World} (h : Tables w) : 0 < w.heap.size := World.block_lt_of_cell? w ⟨0, 0, none⟩ (h.h0 0 _ rfl)
theorem Tables.lt1 {w : World} (h : Tables w) : 1 < w.heap.size := World.block_lt_of_cell? w ⟨1, 0, none⟩ (h.hK 0 _ rfl)
theorem Tables.to {w0 w : World} {O : List Nat} {M : List Blk} (h : Tables w0) (hp : Hp w0 w O M) (hO0 : 0 ∉ O) (hO1 : 1 ∉ O) : Tables w :=
  ⟨fun i v hv => hp.old hO0 (h.h0 i v hv), fun i v hv => hp.old hO1 (h.hK i v hv)⟩
theorem Tables.nil {w0 w : World} {M : List Blk} (h : Tables w0) (hp : Hp w0 w [] M) : Tables w := h.to hp (by simp) (by simp)

def St0 : St := ⟨0, 0, 0, 0, 0, 0, 0, 0⟩
def emptyC : List Value := mk 0 St0 (List.replicate 64 0)
theorem emptyC_ok : HashC [] emptyC := ⟨St0, List.replicate 64 0, List.length_replicate, rfl, .inl rfl⟩

theorem zeroV58 : ∀ w, (zeroValue 58).run Tryd.prog w = .ok (.agg emptyC.toArray) w := fun w => by kernel_rfl
theorem build58 : ∀ w, (Instr.build 58 #[]).run Tryd.prog w = .ok (.agg emptyC.toArray) w := fun w => by kernel_rfl
theorem one_empty : ∀ v ∈ emptyC, v.oneCell' = true := by decide
theorem emptyC_length : emptyC.length = 73 := rfl

theorem short (s : ByteArray) (most : Nat) (w : World) : Calls Tryd.prog 9 [.string s, i64 most].toArray w fun e w' => e = .returned (.string (s.extract 0 (min s.size most))) ∧ Hp w w' [] [] := by
  refine enter0 Tryd.func9 rfl rfl ?_
  refine .seq (.region (.rd (.assign rfl) rfl (.nil (.seq ?_))))
  refine .seq (.region ?_)
  refine .rd (.move rfl) rfl ?_
  refine .rd (.move rfl) rfl ?_
  refine .rd (.len rfl Tryd.underlying9) rfl ?_
  refine .rd (.move rfl) rfl ?_
  refine .rd (.minI rfl rfl) rfl ?_
  refine .rd (.strSlice rfl rfl Tryd.underlying9 (Nat.min_le_left _ _)) rfl ?_
  refine .rd (.assign rfl) rfl (.nil (.seq (.ret ?_)))
  exact .ret1 rfl rfl fun w' hp => ⟨rfl, hp.nil⟩

theorem sum (s : ByteArray) (w : World) (hT : Tables w) (hl : s.size ≤ 1099511627776) : Calls Tryd.prog 11 [.string s].toArray w fun e w' => e = .returned (.agg ((sha (bsOf s)).map u8).toArray) ∧ Hp w w' [] [] := by
  refine enter0 Tryd.func11 rfl rfl ?_
  refine .seq (.region (.alloc Tryd.zeroValue25 rfl (C := List.replicate 32 (.int .u8 0)) rfl fun b2 h2 => .nil (.seq ?_)))
  refine .seq (.region (.alloc zeroV58 rfl (C := emptyC) rfl fun b3 h3 => .nil (.seq ?_)))
  have n0 := hT.lt0
  have n1 := hT.lt1
  refine .seq (.region ?_)
  refine .rd (.move rfl) rfl ?_
  refine .callSome 0 rfl (.func (vs := [.pointer (some ⟨b3, 0, none⟩), .string s]) rfl Tryd.func18 rfl (by decide)) (fun w' hp => write [] s w' b3 emptyC (hp.get (j := 0) rfl) emptyC_ok (hT.nil hp).h0 (hT.nil hp).hK (by omega) (by omega) (by simp; omega)) rfl fun C' hC => .nil (.seq ?_)
  refine .seq (.region ?_)
  refine .callv (.func (vs := [.pointer (some ⟨b3, 0, none⟩)]) rfl Tryd.func20 rfl (by decide)) (fun w' hp => hsum (bsOf s) w' b3 C' hC (hp.range (j := 0) rfl fun i v hv => by rw [Nat.zero_add]; exact hv) (hT.nil hp).h0 (hT.nil hp).hK (by simp; omega)) rfl ?_
  refine .stAgg (vs := (sha (bsOf s)).map u8) rfl rfl Tryd.sizeOf25 one_u8 rfl 1 rfl (Nat.le_refl 32) (.nil (.seq (.ret ?_)))
  rw [splice_zeros32 (sha (bsOf s)) (out_length _)]
  exact .retCell rfl rfl (j := 1) rfl Tryd.underlying25 rfl info25 fun w' hp => ⟨rfl, hp.nil⟩

theorem new (w : World) : Calls Tryd.prog 17 [].toArray w fun e w' => ∃ b, e = .returned (.pointer (some ⟨b, 0, none⟩)) ∧ Hp w w' [] [⟨b, emptyC, 58⟩] := by
  refine enter0 Tryd.func17 rfl rfl ?_
  refine .seq (.region (.rd (.assign rfl) rfl (.nil (.seq ?_))))
  refine .seq (.region ?_)
  refine .rd (.build (vs := []) (v := .agg emptyC.toArray) rfl build58) rfl ?_
  refine .box rfl rfl (C := emptyC) rfl fun b hb => ?_
  refine .rd (.assign rfl) rfl (.nil (.seq (.ret ?_)))
  exact .ret1 rfl rfl fun w' hp => ⟨b, rfl, hp⟩

theorem reset (w : World) (b : Nat) (C : List Value) (hm : Hold w ⟨b, C, 58⟩) (hl : C.length = 73) : Calls Tryd.prog 19 [.pointer (some ⟨b, 0, none⟩)].toArray w fun e w' => e = .returned (.int .i64 0) ∧ Hp w w' [b] [⟨b, emptyC, 58⟩] := by
  refine enter1 hm Tryd.func19 rfl rfl ?_
  refine .seq (.region (.rd (.assign rfl) rfl (.nil (.seq ?_))))
  refine .seq (.seq (.region ?_))
  refine .rd (.move rfl) rfl ?_
  refine .rd (.ptrNil rfl rfl Tryd.underlying37) rfl (.nil (.seq ?_))
  refine .no rfl rfl (.skip (.seq ?_))
  refine .seq (.region ?_)
  refine .rd (.move rfl) rfl ?_
  refine .rd (.build (vs := []) (v := .agg emptyC.toArray) rfl build58) rfl ?_
  refine .rd (.nil rfl) rfl ?_
  refine .stAgg (vs := emptyC) rfl rfl Tryd.sizeOf58 one_empty rfl 0 rfl (by rw [hl, emptyC_length]; exact Nat.le_refl 73) (.nil (.seq ?_))
  rw [splice_all _ _ (by rw [hl, emptyC_length])]
  refine .seq (.region (.rd (.assign rfl) rfl (.nil (.seq (.ret ?_)))))
  exact .ret1 rfl rfl fun w' hp => ⟨rfl, hp⟩

theorem hlen (w : World) (b n : Nat) (hb : w.cell? ⟨b, 0, none⟩ = some (i64 n)) : Calls Tryd.prog 21 [.pointer (some ⟨b, 0, none⟩)].toArray w fun e w' => e = .returned (i64 n) ∧ Hp w w' [] [] := by
  refine enter0 Tryd.func21 rfl rfl ?_
  refine .seq (.region (.rd (.assign rfl) rfl (.nil (.seq ?_))))
  refine .seq (.seq (.region ?_))
  refine .rd (.move rfl) rfl ?_
  refine .rd (.ptrNil rfl rfl Tryd.underlying37) rfl (.nil (.seq ?_))
  refine .no rfl rfl (.skip (.seq ?_))
  refine .seq (.region ?_)
  refine .rd (.move rfl) rfl ?_
  refine .rd (.nil rfl) rfl ?_
  refine .rd (.fieldA rfl Tryd.underlying58 rfl Tryd.sizeOf3) rfl ?_
  refine .rd (.ldOld rfl Tryd.isAgg3 (by simp) hb) rfl ?_
  refine .rd (.assign rfl) rfl (.nil (.seq (.ret ?_)))
  exact .ret1 rfl rfl fun w' hp => ⟨rfl, hp.nil⟩

/-- The hexadecimal digits. -/
def hexs : ByteArray := ⟨#[48, 49, 50, 51, 52, 53, 54, 55, 56, 57, 97, 98, 99, 100, 101, 102]⟩
def hx (k : Nat) : BitVec 8 := (bsOf hexs).getD k 0
theorem hx_get (k : Nat) (hk : k < 16) : (bsOf hexs)[k]? = some (hx k) := by
  have : k < (bsOf hexs).length := hk
  simp [hx, List.getElem?_eq_getElem this]
def hex2 (x : BitVec 8) : List (BitVec 8) := [hx (x >>> 4).toNat, hx (x &&& 15#8).toNat]
/-- The text of a digest. -/
def text (l : List (BitVec 8)) : List (BitVec 8) := l.flatMap hex2
theorem text_length (l : List (BitVec 8)) : (text l).length = 2 * l.length := by
  induction l with
  | nil => rfl
  | cons a l ih =>
    have : text (a :: l) = hex2 a ++ text l := rfl
    rw [this, List.length_append, ih]
    simp [hex2]; omega
theorem text_take (l : List (BitVec 8)) (k : Nat) (hk : k < l.length) : text (l.take (k + 1)) = text (l.take k) ++ hex2 (l.getD k 0) := by
  rw [List.take_succ_eq_append_getElem hk, text, List.flatMap_append]
  simp [text, List.getD, List.getElem?_eq_getElem hk]

theorem string (l : List (BitVec 8)) (w : World) (hl : l.length = 32) : Calls Tryd.prog 14 [.agg (l.map u8).toArray].toArray w fun e w' => e = .returned (.string (ofBs (text l))) ∧ Hp w w' [] [] := by
  refine enter0 Tryd.func14 rfl rfl ?_
  refine .seq (.region ?_)
  refine .box rfl rfl (C := l.map u8) rfl fun b1 h1 => ?_
  refine .rd (.assign rfl) rfl (.nil (.seq ?_))
  refine .seq (.region ?_)
  refine .make (c := 64) (z := .int .u8 0) (i := Tryd.t5) Tryd.underlying29 (by kernel_rfl) (by kernel_rfl) rfl rfl rfl rfl rfl (by decide) (by decide) fun b3 h3 => ?_
  refine .rd (.assign rfl) rfl (.nil (.seq ?_))
  refine .seq (.seq (.region ?_))
  refine .rd (.ldAgg (m := 32) rfl Tryd.underlying25 rfl info25 1 rfl (by simp [hl])) rfl ?_
  refine .rd (.move rfl) rfl (.nil (.seq ?_))
  rw [List.drop_zero, List.take_of_length_le (by simp [hl])]
  refine .block (.weak (L' := [(8, i64 0), (7, .agg (l.map u8).toArray), (3, bsl b3 [] (List.replicate 64 (.int .u8 0)))]) ⟨rfl, rfl, rfl, trivial⟩
    (.loop (fun r L M => ∃ k b sp, k ≤ 32 ∧ r = 32 - k ∧ L = [(8, i64 k), (7, .agg (l.map u8).toArray), (3, bsl b (text (l.take k)) sp)] ∧ M = [bbl b (text (l.take k)) sp 5, ⟨b1, l.map u8, 25⟩]) 32 ⟨0, b3, List.replicate 64 (.int .u8 0), by omega, rfl, rfl, rfl⟩ ?_))
  rintro r L M ⟨k, b, sp, hk, rfl, rfl, rfl⟩
  refine .seq (.region ?_)
  refine .rd (.lssN (b := 32) rfl rfl) rfl (.nil (.seq ?_))
  refine .seq (.cond rfl (fun hlt => .skip (.seq ?_)) fun hge => .exit (.thE (.thE (.exitHere (.seq ?_)))))
  · have hlt : k < 32 := of_decide_eq_true hlt
    have htl : (text (l.take k)).length ≤ 64 := by rw [text_length, List.length_take]; omega
    refine .seq (.block (.seq (.region ?_)))
    refine .rd (.idxV (v := u8 (l.getD k 0)) rfl rfl Tryd.underlying25 Tryd.isAgg5 Tryd.sizeOf5 hlt (by simp [List.getElem?_eq_getElem (show k < l.length by omega)])) rfl ?_
    refine .rd (.assign rfl) rfl (.nil (.seq ?_))
    generalize hx0 : l.getD k 0 = x
    have hx1 : (x >>> 4).toNat < 16 := by
      have := x.isLt
      rw [BitVec.toNat_ushiftRight, Nat.shiftRight_eq_div_pow]
      omega
    have hx2 : (x &&& 15#8).toNat < 16 := by
      rw [BitVec.toNat_and]
      exact Nat.lt_of_le_of_lt Nat.and_le_right (by decide)
    have calm : ∀ {a b : Nat} {K1 K2 K3 : Act → World → Prop} {R : Ending → World → Prop}, Sx.Calm (Exit.inBlock a (Exit.then K1 (Exit.then K2 (Exit.inBlock b (Exit.then K3 (bodyPost Tryd.prog Tryd.f14 R)))))) := calm_block (calm_then (calm_then (calm_block (calm_then calm_body))))
    refine .heldBy [] mixed ?_
    refine .take 0 rfl (by kernel_rfl) (by kernel_rfl) (by kernel_rfl) calm (List.nil_sublist _) (.move rfl) rfl ?_
    refine .take 1 rfl (by kernel_rfl) (by kernel_rfl) (by kernel_rfl) calm (List.nil_sublist _) (.move rfl) rfl ?_
    refine .take 2 rfl (by kernel_rfl) (by kernel_rfl) (by kernel_rfl) calm (List.nil_sublist _) (.shr8 (s := 4) rfl rfl (by omega)) rfl ?_
    refine .take 3 rfl (by kernel_rfl) (by kernel_rfl) (by kernel_rfl) calm (List.nil_sublist _) (.strIdx (s := hexs) rfl rfl Tryd.underlying9 (hx_get _ hx1)) rfl ?_
    refine .take 4 rfl (by kernel_rfl) (by kernel_rfl) (by kernel_rfl) calm (List.nil_sublist _) (.move rfl) rfl ?_
    refine .take 5 rfl (by kernel_rfl) (by kernel_rfl) (by kernel_rfl) calm (List.nil_sublist _) (.and8 (b := 15#8) rfl rfl) rfl ?_
    refine .take 6 rfl (by kernel_rfl) (by kernel_rfl) (by kernel_rfl) calm (List.nil_sublist _) (.strIdx (s := hexs) rfl rfl Tryd.underlying9 (hx_get _ hx2)) rfl ?_
    refine .all (rs := [7]) (by kernel_rfl) (by simp) (all1 (.op rfl (.buildSlice (C := (hex2 x).map u8) (e := 5) rfl (fun w => by kernel_rfl) rfl fun b8 hb8 => .nil (WO.end (List.nil_sublist _) ?_))))
    refine .all (rs := [8]) (by kernel_rfl) (by simp) (all1 (.op rfl (.appendB (l' := hex2 x) elem29 rfl rfl rfl 1 rfl (.ofBlock (j := 0) rfl rfl (fun v hv => by obtain ⟨y, _, rfl⟩ := List.mem_map.1 hv; rfl)) (by have : (hex2 x).length = 2 := rfl; omega) fun b9 sp9 => .nil (WO.end (List.nil_sublist _) ?_))))
    rw [← hx0, ← text_take l k (by omega)]
    refine .all (rs := [9]) (by kernel_rfl) (by simp) (all1 (.op rfl (.rd (.assign rfl) rfl (.nil (WO.end (List.nil_sublist _) ?_)))))
    refine .done (by kernel_rfl) (.inBlock (.seq (.region ?_)))
    refine .rd (.addN (b := 1) rfl rfl (by omega)) rfl ?_
    refine .rd (.move rfl) rfl (.nil ?_)
    refine .dropM (M' := [bbl b9 (text (l.take (k + 1))) sp9 5, ⟨b1, l.map u8, 25⟩]) (List.sublist_cons_self _ _) ?_
    exact .round (32 - (k + 1)) (by omega) ⟨k + 1, b9, sp9, by omega, rfl, rfl, rfl⟩ ⟨rfl, rfl, rfl, trivial⟩
  have hk32 : k = 32 := by have := of_decide_eq_false hge; omega
  subst hk32
  rw [List.take_of_length_le (Nat.le_of_eq hl)]
  refine .seq (.region ?_)
  refine .rd (.move rfl) rfl ?_
  refine .rd (.toStr (l := text l) rfl Tryd.underlying29 Tryd.underlying5 Tryd.underlying9 rfl (fun w' hp => hp.range (j := 0) rfl fun i v hv => by rw [Nat.zero_add, List.getElem?_append_left (List.getElem?_eq_some_iff.1 hv).1]; exact hv)) rfl ?_
  refine .rd (.assign rfl) rfl (.nil (.seq (.ret ?_)))
  exact .ret1 rfl rfl fun w' hp => ⟨rfl, hp.nil⟩

def abc : ByteArray := ⟨#[97, 98, 99]⟩
theorem known (w : World) (hT : Tables w) : Calls Tryd.prog 10 [].toArray w fun e w' => e = .returned (.bool true) ∧ Hp w w' [] [] := by
  have hs : sha (bsOf abc) = [0xba, 0x78, 0x16, 0xbf, 0x8f, 0x01, 0xcf, 0xea, 0x41, 0x41, 0x40, 0xde, 0x5d, 0xae, 0x22, 0x23, 0xb0, 0x03, 0x61, 0xa3, 0x96, 0x17, 0x7a, 0x9c, 0xb4, 0x10, 0xff, 0x61, 0xf2, 0x00, 0x15, 0xad] := sha_abc
  refine enter0 Tryd.func10 rfl rfl ?_
  refine .seq (.region (.rd (.assign rfl) rfl (.nil (.seq ?_))))
  refine .seq (.region ?_)
  refine .callv (.func (vs := [.string abc]) rfl Tryd.func11 rfl (by decide)) (fun w' hp => sum abc w' (hT.nil hp) (by decide)) rfl ?_
  rw [hs]
  generalize hd : ([0xba, 0x78, 0x16, 0xbf, 0x8f, 0x01, 0xcf, 0xea, 0x41, 0x41, 0x40, 0xde, 0x5d, 0xae, 0x22, 0x23, 0xb0, 0x03, 0x61, 0xa3, 0x96, 0x17, 0x7a, 0x9c, 0xb4, 0x10, 0xff, 0x61, 0xf2, 0x00, 0x15, 0xad] : List (BitVec 8)) = D
  have hl : D.length = 32 := by rw [← hd]; rfl
  have hf : (D.map u8)[0]? = some (u8 186#8) := by rw [← hd]; rfl
  have hz : (D.map u8)[31]? = some (u8 173#8) := by rw [← hd]; rfl
  clear hd hs
  refine .alloc Tryd.zeroValue25 rfl (C := List.replicate 32 (.int .u8 0)) rfl fun b1 h1 => ?_
  refine .stAgg (vs := D.map u8) rfl rfl (by rw [List.length_map, hl]; exact Tryd.sizeOf25) one_u8 rfl 0 rfl (by simp [hl]) (.nil (.seq ?_))
  rw [splice_zeros32 _ hl]
  refine .seq (.region ?_)
  refine .rd (.idxA (k := 0) rfl rfl Tryd.underlying25 Tryd.sizeOf5 (by omega)) rfl ?_
  refine .rd (.ld (v := u8 186#8) rfl Tryd.isAgg5 0 rfl hf) rfl ?_
  refine .rd (.eql8 (b := 186#8) rfl rfl) rfl ?_
  refine .rd (.move rfl) rfl ?_
  refine .guardYes rfl ?_
  refine .rd (.idxA (k := 31) rfl rfl Tryd.underlying25 Tryd.sizeOf5 (by omega)) rfl ?_
  refine .guardYes rfl ?_
  refine .rd (.ld (v := u8 173#8) rfl Tryd.isAgg5 0 rfl hz) rfl ?_
  refine .guardYes rfl ?_
  refine .rd (.eql8 (b := 173#8) rfl rfl) rfl ?_
  refine .rd (.pick rfl rfl) rfl ?_
  refine .rd (.move rfl) rfl ?_
  refine .guardYes rfl ?_
  refine .rd (.ldAgg (m := 32) rfl Tryd.underlying25 rfl info25 0 rfl (by simp [hl])) rfl ?_
  rw [List.drop_zero, List.take_of_length_le (by simp [hl])]
  refine .guardYes rfl ?_
  refine .callv (.func (vs := [.agg (D.map u8).toArray]) rfl Tryd.func14 rfl (by decide)) (fun w' hp => string D w' hl) rfl ?_
  refine .guardYes rfl ?_
  refine .rd (.len rfl Tryd.underlying9) rfl ?_
  refine .guardYes rfl ?_
  refine .rd (.eqlN (b := 64) rfl rfl) rfl ?_
  rw [show decide ((ofBs (text D)).size = 64) = true by rw [ofBs_size, text_length, hl]; rfl]
  refine .rd (.pick rfl rfl) rfl ?_
  refine .rd (.assign rfl) rfl (.nil (.seq (.ret ?_)))
  exact .ret1 rfl rfl fun w' hp => ⟨rfl, hp.nil⟩
end Go.Proofs.YtmokinjncelmbaaDoorRRR
