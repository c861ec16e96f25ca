/- OffidxBytes: for every list of entries and of texts the call answers true: Put, Read and Load are the document's. Conditions: none. -/
import Derived.Test.YtgjpaglkcpomnaaRows
import Derived.Test.YtgjpaglkcpomnaaOpens2
namespace Go.Proofs.Ytgjpaglkcpomnaa.offidxBytes
set_option linter.unusedVariables false
set_option linter.unusedSimpArgs false
open Go.ChangeShapes Go.WideShapes Go.ChangeAt Go.RowKit K
open Go.ChangeMaps (open_string shut_string)
theorem own : ownKnob Try.prog.godebug = none := by kernel_rfl
theorem laidOut : laidOutB Try.prog = true := by kernel_rfl
set_option maxRecDepth 100000 in
theorem lifted (os : Os) (started : os.Started) (H : Type) (enc : TypeId × Value → H) :
    ReturnsInHanded {} Try.checked os 8 .any (Rows.offidxBytesSpec.pre6 enc Try.prog Try.f8 Rows.offidxBytesRow.domain false) (Rows.offidxBytesSpec.post enc Try.prog Try.f8 false true false false) := by
  refine returnsInHanded_of_change_sized (C := Try.checked) own started (by kernel_rfl) Try.func8
    (ChangeSpec.witness6 (enc := enc) (C := Try.checked) false ⟨#[], #[.slice none 0 0, .slice none 0 0], []⟩ 8 (by kernel_rfl) (by kernel_rfl) (by kernel_rfl) (by kernel_rfl)) ?_
  intro W base args ds gs before hval0 hW _ hsz0 _
  have hsz : (DataW.weightsEach Try.prog (Try.f8.params.toList ++ Rows.offidxBytesSpec.plain.varTypes Try.prog) (ds ++ gs)).all (· ≤ reachBytes) = true := hsz0
  have hval : ∀ (j : Nat) t v, Try.f8.params[j]? = some t → args[j]? = some v → Value.okWide Try.prog W .any base t v := hval0
  have hW' := hW
  obtain ⟨p, q, hA0, hV, rfl, _, _⟩ := hW
  have hA : DataW.TrodAll enc Try.prog W 0 (fun _ => true) true Try.f8.params.toList args.toList ds p := hA0
  rw [Try.params8] at hA hval hsz
  obtain ⟨v0, v1, d0, d1, p0, p1, rfl, rfl, rfl, h0, h1⟩ := trodAll_two hA
  obtain ⟨rfl, rfl⟩ := trodVars_none hV
  clear hA0 hval0 hsz0
  simp only [List.append_nil, List.append_assoc] at hW' hsz
  have hk0 := h0
  have hk1 := h1
  have hlt : ∀ x ∈ p0 ++ p1, x.block < W.heap.size := fun x hx => by simpa using hW'.lt x (by simpa [List.append_assoc] using hx)
  obtain ⟨a0, len0, cap0, rfl⟩ := okWide_slice Try.underlying23 (hval 0 23 v0 rfl rfl)
  obtain ⟨fuel0, hf0⟩ := h0
  obtain ⟨A0, c0, L0, hcs0, hr0, hc0, hd0⟩ := read_ents hf0
  obtain ⟨rfl, rfl, rfl⟩ : a0 = A0 ∧ len0 = L0.length ∧ cap0 = c0 := by simpa [Value.cells] using hcs0
  have hs0 : L0.length * 16 ≤ 140737488351232 := by
    rcases hd0 with ⟨_, rfl⟩ | ⟨els, sp, hd, hl, _⟩
    · simp
    · have := sized_slice hsz (j := 0) (t := 23) (e := 30) rfl (by rw [show d0 = .slice els sp from hd]; rfl) Try.underlying23
      rw [bytes30] at this
      simp only [reachBytes] at this
      omega
  obtain ⟨a1, len1, cap1, rfl⟩ := okWide_slice Try.underlying56 (hval 1 56 v1 rfl rfl)
  obtain ⟨fuel1, hf1⟩ := h1
  obtain ⟨A1, c1, L1, hcs1, hr1, hc1, hd1⟩ := read_texts hf1
  obtain ⟨rfl, rfl, rfl⟩ : a1 = A1 ∧ len1 = L1.length ∧ cap1 = c1 := by simpa [Value.cells] using hcs1
  have hs1 : L1.length * 16 ≤ 140737488351232 := by
    rcases hd1 with ⟨_, rfl⟩ | ⟨els, sp, hd, hl, _⟩
    · simp
    · have := sized_slice hsz (j := 1) (t := 56) (e := 9) rfl (by rw [show d1 = .slice els sp from hd]; rfl) Try.underlying56
      rw [bytes9] at this
      simp only [reachBytes] at this
      omega
  have he1 : ∀ s ∈ L1, s.size ≤ 140737488351232 := by
    rcases hd1 with ⟨_, rfl⟩ | ⟨els, sp, hd, hl, hq⟩
    · intro s hs; simp at hs
    · intro s hs
      obtain ⟨i, hi, rfl⟩ := List.mem_iff_getElem.1 hs
      have hq' := hq i L1[i] (els[i]'(by omega)) (List.getElem?_eq_getElem hi) (List.getElem?_eq_getElem _)
      have := sized_elem hsz (j := 1) (t := 56) (e := 9) rfl (by rw [show d1 = .slice els sp from hd]; rfl) Try.underlying56 (List.getElem?_eq_getElem (show i < els.length by omega)) (n := L1[i].size) (by rw [hq']; simp [DataW.weights])
      simpa [reachBytes] using this
  refine ((bytes_any W _ _ _ _ L0 L1 hr0 hs0 hr1 hs1 he1).mono fun e W1 h => Tells.of_turn h.1 h.2).mono fun e W1 ⟨he, bel⟩ => ?_
  subst he
  refine ⟨_, rfl, _, _, _, [], p0 ++ (p1), [], hW', trodAll_mk1 (shut_bool Try.underlying4 _), ?_, rfl, bel.frame _, fun h => by cases h⟩
  exact trodAll_mk2 (Below.trod laidOut (by kernel_rfl) (of_decide_eq_true (by kernel_rfl)) hk0 bel (fun x hx => hlt x (by simp [hx]))) (Below.trod laidOut (by kernel_rfl) (of_decide_eq_true (by kernel_rfl)) hk1 bel (fun x hx => hlt x (by simp [hx])))
theorem over : Rows.offidxBytesRow.holds Try.pinned (OpenSpec.ofChange Rows.offidxBytesSpec) :=
  OpenClaim.holds_of_wide 8 Try.f8 rfl rfl rfl rfl rfl rfl rfl ⟨rfl, rfl, rfl, rfl, rfl⟩ rfl rfl rfl rfl rfl (by kernel_rfl) Try.func8 (by kernel_rfl)
    (of_decide_eq_true (by kernel_rfl)) (by unfold Func.isWrapper; first | (rw [if_pos (by decide +kernel)]; kernel_rfl) | (rw [if_neg (by decide +kernel)]; exact ⟨rfl, rfl⟩))
    (fun os started H enc _ => lifted os started H enc)
end Go.Proofs.Ytgjpaglkcpomnaa.offidxBytes
namespace Go.Proofs.Ytgjpaglkcpomnaa
theorem offidxBytes_holds : Rows.OffidxBytesSaid := offidxBytes.over
end Go.Proofs.Ytgjpaglkcpomnaa
