/- TimeidxBack: for every list of entries and every cut the call answers true: bytes are read as their index. Conditions: none. -/
import Derived.Test.YtlnjemdnmndnfaaRows
import Derived.Test.YtlnjemdnmndnfaaOpens3
import Derived.Test.YtlnjemdnmndnfaaTDx
namespace Go.Proofs.Ytlnjemdnmndnfaa.timeidxBack
set_option linter.unusedVariables false
set_option linter.unusedSimpArgs false
open Go.ChangeShapes Go.WideShapes Go.ChangeAt Go.RowKit K
open Go.ChangeMaps (open_string shut_string)
theorem own : ownKnob Try.prog.godebug = none := by kernel_rfl
theorem laidOut : laidOutB Try.prog = true := by kernel_rfl
set_option maxRecDepth 100000 in
theorem lifted (os : Os) (started : os.Started) (H : Type) (enc : TypeId × Value → H) :
    ReturnsInHanded {} Try.checked os 7 .any (Rows.timeidxBackSpec.pre6 enc Try.prog Try.f7 Rows.timeidxBackRow.domain false) (Rows.timeidxBackSpec.post enc Try.prog Try.f7 false true false false) := by
  refine returnsInHanded_of_change_sized (C := Try.checked) own started (by kernel_rfl) Try.func7
    (ChangeSpec.witness6 (enc := enc) (C := Try.checked) false ⟨#[], #[.slice none 0 0, .int .u16 0], []⟩ 8 (by kernel_rfl) (by kernel_rfl) (by kernel_rfl) (by kernel_rfl)) ?_
  intro W base args ds gs before hval0 hW _ hsz0 _
  have hsz : (DataW.weightsEach Try.prog (Try.f7.params.toList ++ Rows.timeidxBackSpec.plain.varTypes Try.prog) (ds ++ gs)).all (· ≤ reachBytes) = true := hsz0
  have hval : ∀ (j : Nat) t v, Try.f7.params[j]? = some t → args[j]? = some v → Value.okWide Try.prog W .any base t v := hval0
  have hW' := hW
  obtain ⟨p, q, hA0, hV, rfl, _, _⟩ := hW
  have hA : DataW.TrodAll enc Try.prog W 0 (fun _ => true) true Try.f7.params.toList args.toList ds p := hA0
  rw [Try.params7] at hA hval hsz
  obtain ⟨v0, v1, d0, d1, p0, p1, rfl, rfl, rfl, h0, h1⟩ := trodAll_two hA
  obtain ⟨rfl, rfl⟩ := trodVars_none hV
  clear hA0 hval0 hsz0
  simp only [List.append_nil, List.append_assoc] at hW' hsz
  have hk0 := h0
  have hk1 := h1
  have hlt : ∀ x ∈ p0 ++ p1, x.block < W.heap.size := fun x hx => by simpa using hW'.lt x (by simpa [List.append_assoc] using hx)
  obtain ⟨a0, len0, cap0, rfl⟩ := okWide_slice Try.underlying22 (hval 0 22 v0 rfl rfl)
  obtain ⟨fuel0, hf0⟩ := h0
  obtain ⟨A0, c0, L0, hcs0, hr0, hc0, hd0⟩ := read_ents hf0
  obtain ⟨rfl, rfl, rfl⟩ : a0 = A0 ∧ len0 = L0.length ∧ cap0 = c0 := by simpa [Value.cells] using hcs0
  have hs0 : L0.length * 16 ≤ 140737488351232 := by
    rcases hd0 with ⟨_, rfl⟩ | ⟨els, sp, hd, hl, _⟩
    · simp
    · have := sized_slice hsz (j := 0) (t := 22) (e := 29) rfl (by rw [show d0 = .slice els sp from hd]; rfl) Try.underlying22
      rw [bytes29] at this
      simp only [reachBytes] at this
      omega
  obtain ⟨x1, rfl, rfl, rfl, wx1⟩ := open_int Try.underlying62 (hval 1 62 v1 rfl rfl) h1
  have hb1 := wf_u16 wx1
  refine ((back_any W _ _ L0 (all_inR hd0) x1 hb1 hr0 hs0).mono fun e W1 h => Tells.of_turn h.1 h.2).mono fun e W1 ⟨he, bel⟩ => ?_
  subst he
  refine ⟨_, rfl, _, _, _, [], p0 ++ ([]), [], hW', trodAll_mk1 (shut_bool Try.underlying4 _), ?_, rfl, bel.frame _, fun h => by cases h⟩
  exact trodAll_mk2 (Below.trod laidOut (by kernel_rfl) (of_decide_eq_true (by kernel_rfl)) hk0 bel (fun x hx => hlt x (by simp [hx]))) (Below.trod laidOut (by kernel_rfl) (of_decide_eq_true (by kernel_rfl)) hk1 bel (fun x hx => by simp at hx))
theorem over : Rows.timeidxBackRow.holds Try.pinned (OpenSpec.ofChange Rows.timeidxBackSpec) :=
  OpenClaim.holds_of_wide 7 Try.f7 rfl rfl rfl rfl rfl rfl rfl ⟨rfl, rfl, rfl, rfl, rfl⟩ rfl rfl rfl rfl rfl (by kernel_rfl) Try.func7 (by kernel_rfl)
    (of_decide_eq_true (by kernel_rfl)) (by unfold Func.isWrapper; first | (rw [if_pos (by decide +kernel)]; kernel_rfl) | (rw [if_neg (by decide +kernel)]; exact ⟨rfl, rfl⟩))
    (fun os started H enc _ => lifted os started H enc)
end Go.Proofs.Ytlnjemdnmndnfaa.timeidxBack
namespace Go.Proofs.Ytlnjemdnmndnfaa
theorem timeidxBack_holds : Rows.TimeidxBackSaid := timeidxBack.over
end Go.Proofs.Ytlnjemdnmndnfaa
