/- At every input, Sha256Apart returns true, and its arguments read as they did: the row and its tied card; no condition. -/
import Derived.Test.YtmokinjncelmbaaDoorRRRRa
import Derived.Test.YtmokinjncelmbaaDoorRRRXe
import Derived.Test.YtmokinjncelmbaaDoorRRRCards
import Derived.Test.YtmokinjncelmbaaDoorRRRTie
import Derived.SevenTiedAt
namespace Go.Proofs.YtmokinjncelmbaaDoorRRR
open Go.Sx Go.Sha
open Go.ChangeShapes Go.WideShapes Go.ChangeAt Go.RowKit
open Go.ChangeMaps (open_string shut_string)

set_option maxRecDepth 100000 in
theorem sha256Apart_lifted (os : Os) (started : os.Started) (H : Type) (enc : TypeId × Value → H) :
    ReturnsInHanded {} Tryd.checked os 7 .any (fun w args => (Rows.sha256ApartSpec.pre enc Tryd.prog Tryd.f7 [] false w args ∧ laidMet Tryd.prog laidBoth w) ∧ sizedMet enc Tryd.prog Tryd.f7 (OpenSpec.ofChange Rows.sha256ApartSpec) false w args) (Rows.sha256ApartSpec.post enc Tryd.prog Tryd.f7 false true false false) := by
  refine returnsInHanded_of_change_and (C := Tryd.checked) (X := fun w _ => laidMet Tryd.prog laidBoth w) (fun _ _ _ hh h => h.of_heap hh) own started (by kernel_rfl) Tryd.func7
    (ChangeSpec.witness_at (enc := enc) (C := Tryd.checked) (os := os) (X := fun w _ => laidMet Tryd.prog laidBoth w) false (laidWorld os #[]) #[.agg (Array.replicate 2 (.int .u8 0)), .slice none 0 0, .slice none 0 0] 8 rfl (by kernel_rfl) (by kernel_rfl) (by kernel_rfl) (by kernel_rfl) (by kernel_rfl) (laid_met os _)) ?_
  intro W base args ds gs before hval0 hW _ _ hL _
  have hval : ∀ (j : Nat) t v, Tryd.f7.params[j]? = some t → args[j]? = some v → Value.okWide Tryd.prog W .any base t v := hval0
  have hW' := hW
  obtain ⟨p, q, hA0, hV, rfl, hfz, hnd⟩ := hW
  have hA : DataW.TrodAll enc Tryd.prog W 0 (fun _ => true) true Tryd.f7.params.toList args.toList ds p := hA0
  rw [Tryd.params7] at hA hval
  obtain ⟨v0, vs0, d0, ds0, p0, q0, hargs, rfl, rfl, h0, r0⟩ := trodAll_cons hA
  obtain ⟨v1, vs1, d1, ds1, p1, q1, rfl, rfl, rfl, h1, r1⟩ := trodAll_cons r0
  obtain ⟨v2, vs2, d2, ds2, p2, q2, rfl, rfl, rfl, h2, r2⟩ := trodAll_cons r1
  obtain ⟨rfl, rfl, rfl⟩ := trodAll_nil r2
  obtain rfl : args = #[v0, v1, v2] := by cases args; simp_all
  obtain ⟨rfl, rfl⟩ := trodVars_none hV
  have k0 := h0
  have lt0 : ∀ x ∈ p0, x.block < W.heap.size := by obtain ⟨m, hm⟩ := k0; exact DataW.trod_lt m _ _ _ hm
  obtain ⟨a0, l0, rfl⟩ := open_bytes Tryd.underlying32 Tryd.underlying5 cells5 (by kernel_rfl) (hval 0 32 v0 rfl rfl) h0
  have k1 := h1
  have lt1 : ∀ x ∈ p1, x.block < W.heap.size := by obtain ⟨m, hm⟩ := k1; exact DataW.trod_lt m _ _ _ hm
  obtain ⟨a1, len1, cap1, rfl⟩ := okWide_slice Tryd.underlying45 (hval 1 45 v1 rfl rfl)
  obtain ⟨z1, w1⟩ := open_texts (t := 45) (e := 9) Tryd.underlying45 Tryd.underlying9 (by kernel_rfl) h1
  have k2 := h2
  have lt2 : ∀ x ∈ p2, x.block < W.heap.size := by obtain ⟨m, hm⟩ := k2; exact DataW.trod_lt m _ _ _ hm
  obtain ⟨a2, len2, cap2, rfl⟩ := okWide_slice Tryd.underlying45 (hval 2 45 v2 rfl rfl)
  obtain ⟨z2, w2⟩ := open_texts (t := 45) (e := 9) Tryd.underlying45 Tryd.underlying9 (by kernel_rfl) h2
  clear hA0 hval0
  refine (apart a0 a1 len1 cap1 z1 a2 len2 cap2 z2 W (tables_of_laid hL) l0 w1 w2).mono fun e W' ⟨he, hp⟩ => ?_
  subst he
  have bel := hp.below
  exact ⟨_, rfl, _, _, _, [], _, [], hW', trodAll_mk1 (shut_bool Tryd.underlying4 _), (trodAll_cons_mk (Below.trod laidOut (by kernel_rfl) (of_decide_eq_true (by kernel_rfl)) k0 bel lt0) (trodAll_cons_mk (Below.trod laidOut (by kernel_rfl) (of_decide_eq_true (by kernel_rfl)) k1 bel lt1) (trodAll_cons_mk (Below.trod laidOut (by kernel_rfl) (of_decide_eq_true (by kernel_rfl)) k2 bel lt2) trodAll_mk0))), rfl, bel.frame _, fun h => by cases h⟩

theorem sha256Apart_row : Rows.Sha256ApartSaid :=
  OpenClaim.holds_of_wide 7 Tryd.f7 rfl rfl rfl rfl rfl rfl rfl ⟨rfl, rfl, rfl, rfl, rfl⟩ rfl rfl rfl rfl rfl (by kernel_rfl) Tryd.func7 (by kernel_rfl)
    (of_decide_eq_true (by kernel_rfl)) (by unfold Func.isWrapper; first | (rw [if_pos (by decide +kernel)]; kernel_rfl) | (rw [if_neg (by decide +kernel)]; exact ⟨rfl, rfl⟩))
    (fun os started H enc _ => sha256Apart_lifted os started H enc)

theorem sha256Apart_card : Rows.Sha256ApartCardSaid :=
  Claim7.holds_tied_plain_at .later [] [.data, .data] true (true, "ddc9869106a904cbe03a80715cf171ff3f82d62771781bffb3c5ccc21d99d135") false
    sha256Apart_row (fun _ h => by cases h) (by kernel_rfl) (fun _ h => by cases h) sha256Apart_row_tie rfl ⟨rfl, rfl⟩ (by kernel_rfl) rfl
    (fun f fn hf hfn => by
      obtain rfl : f = 7 := Option.some.inj ((show Tryd.prog.funcNamed "replevin/replevinlaw02.Sha256Apart" = some 7 by kernel_rfl).symm.trans hf) |>.symm
      obtain rfl : fn = Tryd.f7 := (Option.some.inj (Tryd.func7.symm.trans hfn)).symm
      exact ⟨by kernel_rfl, fun j t ht => by
        rw [Tryd.params7] at ht
        have h3 : t = 32 ∨ t = 45 := by
          match j, ht with
          | 0, ht => simp at ht; simp [← ht]
          | 1, ht => simp at ht; simp [← ht]
          | 2, ht => simp at ht; simp [← ht]
          | j + 3, ht => simp at ht
        rcases h3 with rfl | rfl
        · exact (show Tryd.prog.wantsStandIn 32 = false by kernel_rfl)
        · exact (show Tryd.prog.wantsStandIn 45 = false by kernel_rfl)⟩)
    (by kernel_rfl)
#print axioms sha256Apart_card
end Go.Proofs.YtmokinjncelmbaaDoorRRR
