/- append, make, copy, clear, a slice literal and '[]byte(s)' over known frames and blocks: no condition. -/
import Derived.Test.YtmokinjncelmbaaDoorRRRKd
import Derived.Laws.Append
namespace Go.Sx
variable {P : Program} {n : Nat} {w0 : World} {O : List Nat} {M : List Blk} {L : Env} {ty : TypeId}
variable {ops : Array Oper} {Q : Exit → Act → World → Prop} {rest : List Oper} {d : Option Tmp} {pos : String} {aft : Array Edge}

/-- What is appended: how much, and its cells. -/
structure Src (P : Program) (w0 : World) (O : List Nat) (M : List Blk) (x : Value) (news : List Value) : Prop where
  len : ∀ w, (Builtin.lenOf x).run P w = .ok news.length w
  cells : ∀ w, Hp w0 w O M → (Builtin.firstCells 1 news.length x).run P w = .ok news.toArray w
  one : ∀ v ∈ news, v.oneCell' = true

theorem Src.ofString (s : ByteArray) : Src P w0 O M (.string s) ((bsOf s).map u8) := by
  refine ⟨fun w => by simp [Builtin.lenOf], fun w _ => ?_, fun v hv => ?_⟩
  · have h1 : (s.extract 0 ((bsOf s).map u8).length) = s := bsOf_inj (by
      rw [bsOf_extract, List.drop_zero, Nat.sub_zero, List.length_map, List.take_length])
    simp only [Builtin.firstCells, h1, cells_string, Sem.run_pure]
  · obtain ⟨x, _, rfl⟩ := List.mem_map.1 hv
    rfl

theorem Src.ofBlock {j b c m : Nat} {C : List Value} {T : TypeId} (hj : M[j]? = some ⟨b, C, T⟩) (hm : C.length = m) (h1 : ∀ v ∈ C, v.oneCell' = true) : Src P w0 O M (.slice (some ⟨b, 0, none⟩) m c) C := by
  refine ⟨fun w => by simp [Builtin.lenOf, hm], fun w hp => ?_, h1⟩
  have := run_loadCells_list (P := P) w ⟨b, 0, none⟩ C (fun i v hv => by
    rw [add_lit]
    have := (hp.get hj).cell (0 + i)
    simp only at this
    rw [this, Nat.zero_add, hv])
  simp [Builtin.firstCells, this]

/-- append, to a slice of the call's own. -/
theorem run_append_own {w : World} (hp : Hp w0 w O M) {t tx e : TypeId} {i : TypeInfo} {z : Value} {dx : TypeDesc} {bytes : Nat} (ht : P.underlying t = some (.slice e)) (hx : P.underlying tx = some dx) (hdx : dx = .slice e ∨ dx = .string)
    (hi : P.info? e = some i) (hz : i.zero = some z) (hsize : i.size = 1) (hzs : z.cells.size = 1) (hby : i.bytes = bytes)
    {j b : Nat} {xs sp news : List Value} (hj : M[j]? = some ⟨b, xs ++ sp, e⟩) {x : Value} (hs : Src P w0 O M x news) (hbig : (xs.length + news.length) * bytes ≤ 140737488355328) (hbig2 : xs.length + news.length < 9223372036854775808) (ty : TypeId) :
    ∃ b' sp' w', (Builtin.append_ #[t, tx] ty #[.slice (some ⟨b, 0, none⟩) xs.length (xs ++ sp).length, x]).run P w = .ok (.slice (some ⟨b', 0, none⟩) (xs ++ news).length (xs ++ news ++ sp').length) w' ∧ Hp w0 w' O (M.set j ⟨b', xs ++ news ++ sp', e⟩) := by
  have hsz : ∀ w, (sizeOf e).run P w = .ok 1 w := fun w => by simp [sizeOf, typeInfo, hi, hsize]
  have hlen := hs.len
  by_cases hroom : xs.length + news.length ≤ (xs ++ sp).length
  · obtain ⟨w', hr, hp'⟩ := run_storeCells_own (P := P) news xs.length 0 (xs ++ sp) M w hp hj (by omega) hs.one
    have hcells := hs.cells w hp
    refine ⟨b, sp.drop news.length, w', ?_, ?_⟩
    · have hroom' : news.length ≤ sp.length := by simpa using hroom
      rcases hdx with rfl | rfl <;> simp [Builtin.append_, run_underlying ht, run_underlying hx, hsz, hlen, hcells, hroom', add_lit, hr] <;> omega
    · simp only [Nat.add_zero] at hp'
      rw [splice_eq _ _ _ (by simpa using hroom)] at hp'
      have h5 : (xs ++ sp).take xs.length ++ news ++ (xs ++ sp).drop (xs.length + news.length) = xs ++ news ++ sp.drop news.length := by
        rw [List.take_left, List.drop_append, List.drop_eq_nil_of_le (by omega)]
        simp
      rw [h5] at hp'
      exact hp'
  · have hq : ¬ (news.length ≤ sp.length) := by simpa using hroom
    have hcap : 281474976710656 ≥ Builtin.nextslicecap (xs.length + news.length) (xs.length + sp.length) * bytes := growslice_fits (by omega) hbig
    have hcap' : ¬ (281474976710656 < Builtin.nextslicecap (xs.length + news.length) (xs.length + sp.length) * i.bytes) := by rw [hby]; omega
    have h63 : ¬ (9223372036854775807 < ((xs.length : Int) + (news.length : Int))) := by omega
    have hold : (Builtin.firstCells 1 xs.length (.slice (some ⟨b, 0, none⟩) xs.length (xs.length + sp.length))).run P w.drew = .ok xs.toArray w.drew := by
      have := run_loadCells_list (P := P) w.drew ⟨b, 0, none⟩ xs (fun k v hv => by
        rw [add_lit]
        have h1 := (hp.drew.get hj).cell (0 + k)
        simp only at h1
        rw [h1, Nat.zero_add, List.getElem?_append_left (List.getElem?_eq_some_iff.1 hv).1, hv])
      simp [Builtin.firstCells, this]
    have hnew := hs.cells w.drew hp.drew
    have hge := grownCap_ge w (xs.length + news.length) (xs.length + sp.length) e
    obtain ⟨spare, hspare⟩ : ∃ spare : List Value, Builtin.zeroCells z.cells (grownCap w (xs.length + news.length) (xs.length + sp.length) e - (xs.length + news.length)) = spare.toArray := ⟨_, (Array.toArray_toList).symm⟩
    have hsl : spare.length = (grownCap w (xs.length + news.length) (xs.length + sp.length) e - (xs.length + news.length)) * z.cells.size := by
      have := congrArg Array.size hspare
      rw [size_zeroCells] at this
      simpa using this.symm
    have hcapl : xs.length + (news.length + spare.length) = grownCap w (xs.length + news.length) (xs.length + sp.length) e := by
      rw [hsl, hzs, Nat.mul_one]; omega
    refine ⟨w.heap.size, spare, w.drew.alloc (.cells (xs ++ news ++ spare).toArray e), ?_, hp.drew.realloc hj _ _⟩
    rcases hdx with rfl | rfl <;> simp [Builtin.append_, run_underlying ht, run_underlying hx, hsz, hlen, hq, typeInfo, zeroValue, hi, hz, h63, hcap', Question.forced, newRow, hcapl]
    all_goals
      rw [hold]
      simp only [Result.andThen_ok, hnew]
      rw [show (Question.appendCap (xs.length + news.length) (xs.length + sp.length) e).cut (w.tape w.drawn (Question.appendCap (xs.length + news.length) (xs.length + sp.length) e)) = grownCap w (xs.length + news.length) (xs.length + sp.length) e from rfl, hspare]
      simp

theorem run_append_none {w : World} (hp : Hp w0 w O M) {t tx e : TypeId} {i : TypeInfo} {z : Value} {dx : TypeDesc} {bytes : Nat} (ht : P.underlying t = some (.slice e)) (hx : P.underlying tx = some dx) (hdx : dx = .slice e ∨ dx = .string)
    (hi : P.info? e = some i) (hz : i.zero = some z) (hsize : i.size = 1) (hzs : z.cells.size = 1) (hby : i.bytes = bytes)
    {news : List Value} {x : Value} (hs : Src P w0 O M x news) (h0 : 0 < news.length) (hbig : news.length * bytes ≤ 140737488355328) (hbig2 : news.length < 9223372036854775808) (ty : TypeId) :
    ∃ b' sp' w', (Builtin.append_ #[t, tx] ty #[.slice none 0 0, x]).run P w = .ok (.slice (some ⟨b', 0, none⟩) news.length (news ++ sp').length) w' ∧ Hp w0 w' O (⟨b', news ++ sp', e⟩ :: M) := by
  have hsz : ∀ w, (sizeOf e).run P w = .ok 1 w := fun w => by simp [sizeOf, typeInfo, hi, hsize]
  have hlen := hs.len
  have hq : news ≠ [] := by intro h; simp [h] at h0
  have hcap : 281474976710656 ≥ Builtin.nextslicecap news.length 0 * bytes := growslice_fits h0 hbig
  have hcap' : ¬ (281474976710656 < Builtin.nextslicecap news.length 0 * i.bytes) := by rw [hby]; omega
  have h63 : ¬ (9223372036854775807 < (news.length : Int)) := by omega
  have hnew := hs.cells w.drew hp.drew
  have hge := grownCap_ge w news.length 0 e
  obtain ⟨spare, hspare⟩ : ∃ spare : List Value, Builtin.zeroCells z.cells (grownCap w news.length 0 e - news.length) = spare.toArray := ⟨_, (Array.toArray_toList).symm⟩
  have hsl : spare.length = (grownCap w news.length 0 e - news.length) * z.cells.size := by
    have := congrArg Array.size hspare
    rw [size_zeroCells] at this
    simpa using this.symm
  have hcapl : news.length + spare.length = grownCap w news.length 0 e := by
    rw [hsl, hzs, Nat.mul_one]; omega
  refine ⟨w.heap.size, spare, w.drew.alloc (.cells (news ++ spare).toArray e), ?_, hp.drew.alloc _ _⟩
  rcases hdx with rfl | rfl <;> simp [Builtin.append_, run_underlying ht, run_underlying hx, hsz, hlen, hq, typeInfo, zeroValue, hi, hz, h63, hcap', Question.forced, newRow, hcapl, run_firstCells_none]
  all_goals
    rw [hnew]
    simp only [Result.andThen_ok]
    rw [show (Question.appendCap news.length 0 e).cut (w.tape w.drawn (Question.appendCap news.length 0 e)) = grownCap w news.length 0 e from rfl, hspare]
    simp

/-- What the laws of append ask of the element's type, once for all. -/
structure Elem (P : Program) (t tx e : TypeId) (bytes : Nat) : Prop where
  slice : P.underlying t = some (.slice e)
  src : P.underlying tx = some (.slice e) ∨ P.underlying tx = some .string
  info : ∃ i z, P.info? e = some i ∧ i.zero = some z ∧ i.size = 1 ∧ z.cells.size = 1 ∧ i.bytes = bytes

theorem WL.append {t tx e : TypeId} {bytes : Nat} (he : Elem P t tx e bytes) {x y : Operand} {b len cap : Nat} {xs sp news : List Value} {v : Value} (hx : ev L x = some (.slice (some ⟨b, 0, none⟩) len cap)) (hy : ev L y = some v) (hd : fits n d = true) (j : Nat) (hj : M[j]? = some ⟨b, xs ++ sp, e⟩) (hl : len = xs.length) (hc : cap = (xs ++ sp).length)
    (hs : Src P w0 O M v news) (hbig : (xs.length + news.length) * bytes ≤ 140737488355328) (hbig2 : xs.length + news.length < 9223372036854775808)
    (h : ∀ b' sp', WL P n w0 O ops Q rest (push d (.slice (some ⟨b', 0, none⟩) (xs ++ news).length (xs ++ news ++ sp').length) L) (M.set j ⟨b', xs ++ news ++ sp', e⟩)) :
    WL P n w0 O ops Q (⟨d, .call { callee := .builtin .append, args := #[x, y], argTypes := #[t, tx] }, ty, pos, aft, none⟩ :: rest) L M :=
  WL.op fun a w hk hp => by
    subst hl hc
    obtain ⟨i, z, hi, hz, h1, h2, h3⟩ := he.info
    obtain ⟨dx, hdx, hor⟩ : ∃ dx, P.underlying tx = some dx ∧ (dx = .slice e ∨ dx = .string) := by rcases he.src with h | h; exact ⟨_, h, .inl rfl⟩; exact ⟨_, h, .inr rfl⟩
    obtain ⟨b', sp', w', hr, hp'⟩ := run_append_own (P := P) hp he.slice hdx hor hi hz h1 h2 h3 hj hs hbig hbig2 ty
    obtain ⟨k, hb⟩ := Bn.mk (P := P) (n := n) (L := L) (ty := ty) (b := .append) (xs := [x, y]) (ts := #[t, tx]) (vs := [.slice (some ⟨b, 0, none⟩) xs.length (xs ++ sp).length, v]) (by simp [evs, hx, hy]) d pos aft none a w hk
    exact ⟨_, w', by rw [hb]; simp only [builtin, Sem.run_bind, hr, Result.andThen_ok]; rfl, h b' sp' _ _ (hk.push hd) hp'⟩

theorem WL.appendNil {t tx e : TypeId} {bytes : Nat} (he : Elem P t tx e bytes) {x y : Operand} {news : List Value} {v : Value} (hx : ev L x = some (.slice none 0 0)) (hy : ev L y = some v) (hd : fits n d = true)
    (hs : Src P w0 O M v news) (h0 : 0 < news.length) (hbig : news.length * bytes ≤ 140737488355328) (hbig2 : news.length < 9223372036854775808)
    (h : ∀ b' sp', WL P n w0 O ops Q rest (push d (.slice (some ⟨b', 0, none⟩) news.length (news ++ sp').length) L) (⟨b', news ++ sp', e⟩ :: M)) :
    WL P n w0 O ops Q (⟨d, .call { callee := .builtin .append, args := #[x, y], argTypes := #[t, tx] }, ty, pos, aft, none⟩ :: rest) L M :=
  WL.op fun a w hk hp => by
    obtain ⟨i, z, hi, hz, h1, h2, h3⟩ := he.info
    obtain ⟨dx, hdx, hor⟩ : ∃ dx, P.underlying tx = some dx ∧ (dx = .slice e ∨ dx = .string) := by rcases he.src with h | h; exact ⟨_, h, .inl rfl⟩; exact ⟨_, h, .inr rfl⟩
    obtain ⟨b', sp', w', hr, hp'⟩ := run_append_none (P := P) hp he.slice hdx hor hi hz h1 h2 h3 hs h0 hbig hbig2 ty
    obtain ⟨k, hb⟩ := Bn.mk (P := P) (n := n) (L := L) (ty := ty) (b := .append) (xs := [x, y]) (ts := #[t, tx]) (vs := [.slice none 0 0, v]) (by simp [evs, hx, hy]) d pos aft none a w hk
    exact ⟨_, w', by rw [hb]; simp only [builtin, Sem.run_bind, hr, Result.andThen_ok]; rfl, h b' sp' _ _ (hk.push hd) hp'⟩

/-- A slice of bytes of the call's own, from the head of its block, with spare cells behind. -/
abbrev bsl (b : Nat) (l : List (BitVec 8)) (sp : List Value) : Value := .slice (some ⟨b, 0, none⟩) l.length (l.map u8 ++ sp).length
abbrev bbl (b : Nat) (l : List (BitVec 8)) (sp : List Value) (e : TypeId) : Blk := ⟨b, l.map u8 ++ sp, e⟩

theorem WL.appendB {t tx e : TypeId} (he : Elem P t tx e 1) {x y : Operand} {b : Nat} {l l' : List (BitVec 8)} {sp : List Value} {v : Value} (hx : ev L x = some (bsl b l sp)) (hy : ev L y = some v) (hd : fits n d = true) (j : Nat) (hj : M[j]? = some (bbl b l sp e))
    (hs : Src P w0 O M v (l'.map u8)) (hbig : l.length + l'.length ≤ 140737488355328)
    (h : ∀ b' sp', WL P n w0 O ops Q rest (push d (bsl b' (l ++ l') sp') L) (M.set j (bbl b' (l ++ l') sp' e))) :
    WL P n w0 O ops Q (⟨d, .call { callee := .builtin .append, args := #[x, y], argTypes := #[t, tx] }, ty, pos, aft, none⟩ :: rest) L M :=
  WL.append he hx hy hd j hj (by simp) rfl hs (by simp; omega) (by simp; omega) fun b' sp' => by
    have := h b' sp'
    simpa only [bsl, bbl, List.map_append, List.length_append, List.length_map] using this

/-- A slice literal. -/
theorem WL.buildSlice {t e : TypeId} {len : Nat} {xs : List (Nat × Operand)} {vs : List (Nat × Value)} {C : List Value} (hx : evp L xs = some vs) (hr : ∀ w, (Instr.buildSlice t len vs.toArray).run P w = .ok (.slice (some ⟨w.heap.size, 0, none⟩) len len) (w.alloc (.cells C.toArray e))) (hd : fits n d = true)
    (h : ∀ b, w0.heap.size ≤ b → WL P n w0 O ops Q rest (push d (.slice (some ⟨b, 0, none⟩) len len) L) (⟨b, C, e⟩ :: M)) : WL P n w0 O ops Q (⟨d, .buildSlice t len xs.toArray, ty, pos, aft, none⟩ :: rest) L M :=
  WL.op fun a w hk hp => ⟨_, w.alloc (.cells C.toArray e), by
    have := hk.evalp hx
    simp only [execOp, List.map_toArray]
    rw [show (xs.map fun x => match x with | (i, x) => (i, a.eval x)) = vs from this]
    simp only [Sem.run_bind, hr w, Result.andThen_ok]
    rfl, h _ hp.size _ _ (hk.push hd) (hp.alloc _ _)⟩

/-- A new block, with the mark that a string's bytes leave behind it. -/
theorem Hp.allocMark {w : World} (hp : Hp w0 w O M) (C : List Value) (T : TypeId) : Hp w0 ((w.alloc (.cells C.toArray T)).freeze ⟨w.heap.size, C.length, none⟩ 1) O (⟨w.heap.size, C, T⟩ :: M) := by
  have hA := hp.alloc C T
  refine hA.replace (j := 0) rfl (C' := C) (T' := T) rfl rfl rfl (by simp [World.freeze]) (fun k _ hne => ?_) ⟨(C.length, C.length + 1), ?_, fun i hi => by simp only at hi ⊢; omega⟩
  · simp only [World.freeze, Nat.one_ne_zero, if_false]
    rw [Array.getElem?_modify, if_neg (fun e => hne e.symm)]
  · simp only [World.freeze, Nat.one_ne_zero, if_false]
    rw [Array.getElem?_modify, if_pos rfl, heap_alloc_new w]
    simp

/-- '[]byte(s)'. -/
theorem WL.toBytes {S D E : TypeId} {x : Operand} {s : ByteArray} (hx : ev L x = some (.string s)) (hs : P.underlying S = some .string) (hu : P.underlying D = some (.slice E)) (he : P.underlying E = some (.int .u8)) (hd : fits n d = true)
    (h : ∀ b sp, w0.heap.size ≤ b → WL P n w0 O ops Q rest (push d (.slice (some ⟨b, 0, none⟩) s.size ((bsOf s).map u8 ++ sp).length) L) (⟨b, (bsOf s).map u8 ++ sp, E⟩ :: M)) : WL P n w0 O ops Q (⟨d, .convert S D x, ty, pos, aft, none⟩ :: rest) L M :=
  WL.op fun a w hk hp => by
    obtain ⟨cap, hcap⟩ : ∃ cap, (Question.appendCap s.size 0 E).cut (w.tape w.drawn (Question.appendCap s.size 0 E)) = s.size + cap := ⟨_, rfl⟩
    obtain ⟨C, hC⟩ : ∃ C, C = (bsOf s).map u8 ++ List.replicate cap (Value.int .u8 0) := ⟨_, rfl⟩
    have hCl : C.length = s.size + cap := by rw [hC]; simp
    have hCa : ((s.data.map fun b => Value.int .u8 (b.toNat : Int)) ++ Array.replicate cap (Value.int .u8 0)) = C.toArray := by rw [cells_string, hC]; simp
    have hh := hp.drew.allocMark C E
    have hsh : (w.drew.alloc (.cells C.toArray E)).shape? w.heap.size = some (E, s.size + cap) := by
      have := heap_alloc_new w.drew (.cells C.toArray E)
      rw [show w.drew.heap.size = w.heap.size from rfl] at this
      unfold World.shape?
      rw [this]
      simp [hCl]
    have h' := h w.heap.size (List.replicate cap (Value.int .u8 0)) hp.size
    rw [← hC] at h'
    refine ⟨.slice (some ⟨w.heap.size, 0, none⟩) s.size C.length, _, ?_, h' _ _ (hk.push hd) hh⟩
    have h2 : (Conv.stringToBytes E s).run P w = .ok (.slice (some ⟨w.heap.size, 0, none⟩) s.size C.length) ((w.drew.alloc (.cells C.toArray E)).freeze ⟨w.heap.size, C.length, none⟩ 1) := by
      simp only [Conv.stringToBytes, Sem.run_bind, run_choose, Question.forced, Bool.false_eq_true, if_false, Result.andThen_ok, hcap, newRow, run_newObj, Sem.run_pure, Nat.add_sub_cancel_left, hCa, markStringish, run_shape]
      rw [show ({ heap := w.heap.push (Obj.cells C.toArray E), tape := w.tape, drawn := w.drawn + 1, os := w.os, output := w.output } : World) = w.drew.alloc (.cells C.toArray E) from rfl, hsh]
      simp only [hCl]
      rfl
    simp only [execOp, hk.eval hx, convert, Sem.run_bind, run_underlying hs, run_underlying hu, run_underlying he, Result.andThen_ok, h2]
    rfl

theorem WL.toB {S D E : TypeId} {x : Operand} {s : ByteArray} (hx : ev L x = some (.string s)) (hs : P.underlying S = some .string) (hu : P.underlying D = some (.slice E)) (he : P.underlying E = some (.int .u8)) (hd : fits n d = true)
    (h : ∀ b sp, w0.heap.size ≤ b → WL P n w0 O ops Q rest (push d (bsl b (bsOf s) sp) L) (bbl b (bsOf s) sp E :: M)) : WL P n w0 O ops Q (⟨d, .convert S D x, ty, pos, aft, none⟩ :: rest) L M :=
  WL.toBytes hx hs hu he hd fun b sp hb => by
    have := h b sp hb
    simpa only [bsl, bsOf_length] using this

/-- 'copy(a[l:], s)': a string into an array behind an address. -/
theorem WL.copyStr {t tx e : TypeId} {x y : Operand} {b o l c : Nat} {s : ByteArray} {C : List Value} {T : TypeId} (ht : P.underlying t = some (.slice e)) (hs : ∀ w, (sizeOf e).run P w = .ok 1 w) (hx : ev L x = some (.slice (some ⟨b, o, none⟩) l c)) (hy : ev L y = some (.string s)) (hd : fits n d = true) (j : Nat) (hj : M[j]? = some ⟨b, C, T⟩) (hl : o + min s.size l ≤ C.length)
    (h : WL P n w0 O ops Q rest (push d (i64 (min s.size l)) L) (M.set j ⟨b, splice C o (((bsOf s).take (min s.size l)).map u8), T⟩)) :
    WL P n w0 O ops Q (⟨d, .call { callee := .builtin .copy, args := #[x, y], argTypes := #[t, tx] }, ty, pos, aft, none⟩ :: rest) L M :=
  WL.op fun a w hk hp => by
    obtain ⟨k, hb⟩ := Bn.mk (P := P) (n := n) (L := L) (ty := ty) (b := .copy) (xs := [x, y]) (ts := #[t, tx]) (vs := [.slice (some ⟨b, o, none⟩) l c, .string s]) (by simp [evs, hx, hy]) d pos aft none a w hk
    have hlen : (((bsOf s).take (min s.size l)).map u8).length = min s.size l := by simp
    obtain ⟨w', hr, hp'⟩ := run_storeCells_own (P := P) (((bsOf s).take (min s.size l)).map u8) o 0 C M w hp hj (by rw [hlen]; omega) (fun v hv => by obtain ⟨x, _, rfl⟩ := List.mem_map.1 hv; rfl)
    have hf : (Builtin.firstCells 1 (min s.size l) (.string s)).run P w = .ok (((bsOf s).take (min s.size l)).map u8).toArray w := by
      simp only [Builtin.firstCells, cells_string, bsOf_extract, List.drop_zero, Nat.sub_zero, Sem.run_pure]
    have hcopy : (Builtin.copy_ #[t, tx] ty #[.slice (some ⟨b, o, none⟩) l c, .string s]).run P w = .ok (i64 (min s.size l)) w' := by
      have hm : Nat.min s.size l = min s.size l := rfl
      simp only [Builtin.copy_, List.getElem?_toArray, List.getElem?_cons_zero, List.getElem?_cons_succ, Sem.run_bind, run_underlying ht, Result.andThen_ok, Builtin.lenOf, Sem.run_pure, hs, hm, hf, hr]
      rfl
    exact ⟨_, w', by rw [hb]; simp only [builtin, Sem.run_bind, hcopy, Result.andThen_ok]; rfl, h _ _ (hk.push hd) (by simpa using hp')⟩

theorem zeroCells_one (z : Value) (m : Nat) : Builtin.zeroCells #[z] m = (List.replicate m z).toArray := by
  unfold Builtin.zeroCells
  apply Array.ext
  · simp
  · intro i h1 h2
    simp [Nat.mod_one]

/-- 'clear(s)', s a part of a block. -/
theorem WL.clear {t e : TypeId} {x : Operand} {b o l c : Nat} {a0 : Option Addr} {z : Value} {C : List Value} {T : TypeId} (ht : P.underlying t = some (.slice e)) (hz : ∀ w, (zeroValue e).run P w = .ok z w) (hz1 : z.cells = #[z]) (hz2 : z.oneCell' = true) (hx : ev L x = some (.slice a0 l c)) (ha : l = 0 ∨ a0 = some ⟨b, o, none⟩) (hd : fits n d = true) (j : Nat) (hj : M[j]? = some ⟨b, C, T⟩) (hl : o + l ≤ C.length)
    (h : WL P n w0 O ops Q rest (push d (.tuple #[]) L) (M.set j ⟨b, splice C o (List.replicate l z), T⟩)) :
    WL P n w0 O ops Q (⟨d, .call { callee := .builtin .clear, args := #[x], argTypes := #[t] }, ty, pos, aft, none⟩ :: rest) L M :=
  WL.op fun a w hk hp => by
    obtain ⟨k, hb⟩ := Bn.mk (P := P) (n := n) (L := L) (ty := ty) (b := .clear) (xs := [x]) (ts := #[t]) (vs := [.slice a0 l c]) (by simp [evs, hx]) d pos aft none a w hk
    have key : ∃ w', (Builtin.clear_ #[t] ty #[.slice a0 l c]).run P w = .ok (.tuple #[]) w' ∧ Hp w0 w' O (M.set j ⟨b, splice C o (List.replicate l z), T⟩) := by
      by_cases hl0 : l = 0
      · subst hl0
        refine ⟨w, ?_, ?_⟩
        · cases a0 <;> simp [Builtin.clear_, run_underlying ht]
        · have : M.set j ⟨b, splice C o (List.replicate 0 z), T⟩ = M := by
            obtain ⟨hl, he⟩ := List.getElem?_eq_some_iff.1 hj
            rw [List.replicate_zero, splice, ← he, List.set_getElem_self]
          rw [this]; exact hp
      · have ha' : a0 = some ⟨b, o, none⟩ := ha.resolve_left hl0
        subst ha'
        obtain ⟨w', hr, hp'⟩ := run_storeCells_own (P := P) (List.replicate l z) o 0 C M w hp hj (by simp; omega) (fun v hv => by rw [(List.mem_replicate.1 hv).2]; exact hz2)
        refine ⟨w', ?_, by simpa using hp'⟩
        obtain ⟨m, rfl⟩ : ∃ m, l = m + 1 := ⟨l - 1, by omega⟩
        simp only [Builtin.clear_, List.getElem?_toArray, List.getElem?_cons_zero, Sem.run_bind, run_underlying ht, Result.andThen_ok, hz, hz1, zeroCells_one, hr, Sem.run_pure]
    obtain ⟨w', hc, hp'⟩ := key
    exact ⟨_, w', by rw [hb]; simp only [builtin, Sem.run_bind, hc, Result.andThen_ok]; rfl, h _ _ (hk.push hd) hp'⟩

/-- 'make([]T, 0, c)'. -/
theorem WL.make {t e : TypeId} {x y : Operand} {c : Nat} {i : TypeInfo} {z : Value} (ht : P.underlying t = some (.slice e)) (hi : P.info? e = some i) (hz : i.zero = some z) (hsize : i.size = 1) (hz1 : z.cells = #[z]) (hx : ev L x = some (i64 0)) (hy : ev L y = some (i64 c)) (hd : fits n d = true) (hb : i.bytes * c ≤ 281474976710656) (hc : c < 9223372036854775808)
    (h : ∀ b, w0.heap.size ≤ b → WL P n w0 O ops Q rest (push d (.slice (some ⟨b, 0, none⟩) 0 c) L) (⟨b, List.replicate c z, e⟩ :: M)) :
    WL P n w0 O ops Q (⟨d, .makeSlice t x y, ty, pos, aft, none⟩ :: rest) L M :=
  WL.op fun a w hk hp => by
    refine ⟨.slice (some ⟨w.heap.size, 0, none⟩) 0 c, w.alloc (.cells (List.replicate c z).toArray e), ?_, h _ hp.size _ _ (hk.push hd) (hp.alloc _ _)⟩
    have hw : IntKind.i64.wrap (c : Int) = (c : Int) := wrap_i64 (by omega) (by omega)
    have hw0 : IntKind.i64.wrap 0 = 0 := by decide
    have h1 : ¬ (281474976710656 < (i.bytes : Int) * (c : Int)) := by rw [← Int.natCast_mul]; omega
    have h2 : ¬ ((c : Int) < 0) := by omega
    by_cases h0 : c = 0
    · subst h0
      simp [execOp, hk.eval hx, hk.eval hy, Instr.makeSlice, run_underlying ht, asInt, asIntOf, typeInfo, hi, hw0, sizeOf, newRow]
      have : (Array.map (fun _ : Nat => (default : Value)) (Array.range 0)) = #[] := by simp
      rw [this]
    · simp [execOp, hk.eval hx, hk.eval hy, Instr.makeSlice, run_underlying ht, asInt, asIntOf, typeInfo, hi, hw, hw0, h1, h2, sizeOf, hsize, newRow, h0, zeroValue, hz, hz1]
      have : (Array.map (fun k : Nat => [z][k % 1]?.getD default) (Array.range c)) = Array.replicate c z := by
        apply Array.ext
        · simp
        · intro k _ _
          simp [Nat.mod_one]
      rw [this]
end Go.Sx
