/- TimeidxPlays: for every list of calls the call answers true: every answer is the document's, clones go their own way. Conditions: none. -/
import Derived.Test.YtlnjemdnmndnfaaRows
import Derived.Test.YtlnjemdnmndnfaaOpens3
import Derived.Test.YtlnjemdnmndnfaaTEx
namespace Go.Proofs.Ytlnjemdnmndnfaa.timeidxPlays
set_option linter.unusedVariables false
set_option linter.unusedSimpArgs false
open Go.ChangeShapes Go.WideShapes Go.ChangeAt Go.RowKit K
open Go.ChangeMaps (open_string shut_string)
theorem own : ownKnob Try.prog.godebug = none := by kernel_rfl
theorem laidOut : laidOutB Try.prog = true := by kernel_rfl
set_option maxRecDepth 100000 in
theorem lifted (os : Os) (started : os.Started) (H : Type) (enc : TypeId × Value → H) :
    ReturnsInHanded {} Try.checked os 8 .any (Rows.timeidxPlaysSpec.pre6 enc Try.prog Try.f8 Rows.timeidxPlaysRow.domain false) (Rows.timeidxPlaysSpec.post enc Try.prog Try.f8 false true false false) := by
  refine returnsInHanded_of_change_sized (C := Try.checked) own started (by kernel_rfl) Try.func8
    (ChangeSpec.witness6 (enc := enc) (C := Try.checked) false ⟨#[], #[.slice none 0 0], []⟩ 8 (by kernel_rfl) (by kernel_rfl) (by kernel_rfl) (by kernel_rfl)) ?_
  intro W base args ds gs before hval0 hW _ hsz0 _
  have hsz : (DataW.weightsEach Try.prog (Try.f8.params.toList ++ Rows.timeidxPlaysSpec.plain.varTypes Try.prog) (ds ++ gs)).all (· ≤ reachBytes) = true := hsz0
  have hval : ∀ (j : Nat) t v, Try.f8.params[j]? = some t → args[j]? = some v → Value.okWide Try.prog W .any base t v := hval0
  have hW' := hW
  obtain ⟨p, q, hA0, hV, rfl, _, _⟩ := hW
  have hA : DataW.TrodAll enc Try.prog W 0 (fun _ => true) true Try.f8.params.toList args.toList ds p := hA0
  rw [Try.params8] at hA hval hsz
  obtain ⟨v0, d0, rfl, rfl, h0⟩ := trodAll_one hA
  obtain ⟨rfl, rfl⟩ := trodVars_none hV
  clear hA0 hval0 hsz0
  simp only [List.append_nil, List.append_assoc] at hW' hsz
  have hk0 := h0
  have hlt : ∀ x ∈ p, x.block < W.heap.size := fun x hx => by simpa using hW'.lt x (by simpa [List.append_assoc] using hx)
  obtain ⟨a0, len0, cap0, rfl⟩ := okWide_slice Try.underlying41 (hval 0 41 v0 rfl rfl)
  obtain ⟨fuel0, hf0⟩ := h0
  obtain ⟨A0, c0, L0, hcs0, hr0, hc0, hd0⟩ := read_ops hf0
  obtain ⟨rfl, rfl, rfl⟩ : a0 = A0 ∧ len0 = L0.length ∧ cap0 = c0 := by simpa [Value.cells] using hcs0
  have hs0 : L0.length * 32 ≤ 140737488351232 := by
    rcases hd0 with ⟨_, rfl⟩ | ⟨els, sp, hd, hl, _⟩
    · simp
    · have := sized_slice hsz (j := 0) (t := 41) (e := 47) rfl (by rw [show d0 = .slice els sp from hd]; rfl) Try.underlying41
      rw [bytes47] at this
      simp only [reachBytes] at this
      omega
  have hop0 := all_of hd0
  refine ((plays_any W _ _ L0 hr0 hs0 hop0).mono fun e W1 h => Tells.of_turn h.1 h.2).mono fun e W1 ⟨he, bel⟩ => ?_
  subst he
  refine ⟨_, rfl, _, _, _, [], p, [], hW', trodAll_mk1 (shut_bool Try.underlying4 _), ?_, rfl, bel.frame _, fun h => by cases h⟩
  exact trodAll_mk1 (Below.trod laidOut (by kernel_rfl) (of_decide_eq_true (by kernel_rfl)) hk0 bel (fun x hx => hlt x (by simp [hx])))
theorem over : Rows.timeidxPlaysRow.holds Try.pinned (OpenSpec.ofChange Rows.timeidxPlaysSpec) :=
  OpenClaim.holds_of_wide 8 Try.f8 rfl rfl rfl rfl rfl rfl rfl ⟨rfl, rfl, rfl, rfl, rfl⟩ rfl rfl rfl rfl rfl (by kernel_rfl) Try.func8 (by kernel_rfl)
    (of_decide_eq_true (by kernel_rfl)) (by unfold Func.isWrapper; first | (rw [if_pos (by decide +kernel)]; kernel_rfl) | (rw [if_neg (by decide +kernel)]; exact ⟨rfl, rfl⟩))
    (fun os started H enc _ => lifted os started H enc)
end Go.Proofs.Ytlnjemdnmndnfaa.timeidxPlays
namespace Go.Proofs.Ytlnjemdnmndnfaa
theorem timeidxPlays_holds : Rows.TimeidxPlaysSaid := timeidxPlays.over
end Go.Proofs.Ytlnjemdnmndnfaa
