/- TimeidxBounds, the second form: for every first time, steps and time (of bulk at most 1048576 together) the call answers true: what is found is earlier, and the entry behind it is not; few are looked at. Conditions: the bound of the second form. -/
import Derived.Test.YtlnjemdnmndnfaaRows
import Derived.Test.YtlnjemdnmndnfaaOpens
import Derived.Test.YtlnjemdnmndnfaaOpens2
namespace Go.Proofs.Ytlnjemdnmndnfaa.timeidxBounds
set_option linter.unusedVariables false
set_option linter.unusedSimpArgs false
open Go.ChangeShapes Go.WideShapes Go.ChangeAt Go.RowKit K
open Go.ChangeMaps (open_string shut_string)
theorem own : ownKnob Try.prog.godebug = none := by kernel_rfl
theorem laidOut : laidOutB Try.prog = true := by kernel_rfl
set_option maxRecDepth 100000 in
theorem contract (H : Type) (enc : TypeId × Value → H) (W : World) (base : Nat) (args : Array Value) (ds gs : List (DataW H)) (before : List MemPlace)
    (hval0 : ∀ (j : Nat) t v, Try.f4.params[j]? = some t → args[j]? = some v → Value.okWide Try.prog W .any base t v)
    (hW : DataW.Whole enc Try.prog Try.f4.params.toList Rows.timeidxBoundsSpec.vars false W args.toList ds gs before) (hk : Rows.uptoSmall H (ds ++ gs) = true)
    (hsz0 : (DataW.weightsEach Try.prog (Try.f4.params.toList ++ Rows.timeidxBoundsSpec.plain.varTypes Try.prog) (ds ++ gs)).all (· ≤ reachBytes) = true) :
    Calls Try.prog 4 args W fun e W1 => ∃ v, e = .returned v ∧ Rows.timeidxBoundsSpec.post enc Try.prog Try.f4 false true false false W args v W1 := by
  have hsz : (DataW.weightsEach Try.prog (Try.f4.params.toList ++ Rows.timeidxBoundsSpec.plain.varTypes Try.prog) (ds ++ gs)).all (· ≤ reachBytes) = true := hsz0
  have hval : ∀ (j : Nat) t v, Try.f4.params[j]? = some t → args[j]? = some v → Value.okWide Try.prog W .any base t v := hval0
  have hW' := hW
  obtain ⟨p, q, hA0, hV, rfl, _, _⟩ := hW
  have hA : DataW.TrodAll enc Try.prog W 0 (fun _ => true) true Try.f4.params.toList args.toList ds p := hA0
  rw [Try.params4] at hA hval hsz
  obtain ⟨v0, v1, v2, d0, d1, d2, p0, p1, p2, rfl, rfl, rfl, h0, h1, h2⟩ := trodAll_three hA
  obtain ⟨rfl, rfl⟩ := trodVars_none hV
  clear hA0 hval0 hsz0
  simp only [List.append_nil, List.append_assoc] at hW' hsz
  have hk0 := h0
  have hk1 := h1
  have hk2 := h2
  have hlt : ∀ x ∈ p0 ++ p1 ++ p2, x.block < W.heap.size := fun x hx => by simpa using hW'.lt x (by simpa [List.append_assoc] using hx)
  obtain ⟨x0, rfl, rfl, rfl, wx0⟩ := open_int Try.underlying2 (hval 0 2 v0 rfl rfl) h0
  have hb0 := bounds_i64 wx0
  obtain ⟨a1, len1, cap1, rfl⟩ := okWide_slice Try.underlying36 (hval 1 36 v1 rfl rfl)
  obtain ⟨fuel1, hf1⟩ := h1
  obtain ⟨A1, c1, L1, hcs1, hr1, hc1, hd1⟩ := read_u8s hf1
  obtain ⟨rfl, rfl, rfl⟩ : a1 = A1 ∧ len1 = L1.length ∧ cap1 = c1 := by simpa [Value.cells] using hcs1
  have hb := of_decide_eq_true hk
  simp only [List.append_nil, Rows.uptoBulkAll] at hb
  have hl1 := read_short hd1 (by show Rows.uptoBulk d1 ≤ _; omega)
  obtain ⟨x2, rfl, rfl, rfl, wx2⟩ := open_int Try.underlying2 (hval 2 2 v2 rfl rfl) h2
  have hb2 := bounds_i64 wx2
  refine ((bounds_any W _ _ L1 x0 x2 hr1 hl1 (by omega) (by omega)).mono fun e W1 h => Tells.of_turn h.1 h.2).mono fun e W1 ⟨he, bel⟩ => ?_
  subst he
  refine ⟨_, rfl, _, _, _, [], [] ++ (p1 ++ ([])), [], hW', trodAll_mk1 (shut_bool Try.underlying4 _), ?_, rfl, bel.frame _, fun h => by cases h⟩
  exact trodAll_mk3 (Below.trod laidOut (by kernel_rfl) (of_decide_eq_true (by kernel_rfl)) hk0 bel (fun x hx => by simp at hx)) (Below.trod laidOut (by kernel_rfl) (of_decide_eq_true (by kernel_rfl)) hk1 bel (fun x hx => hlt x (by simp [hx]))) (Below.trod laidOut (by kernel_rfl) (of_decide_eq_true (by kernel_rfl)) hk2 bel (fun x hx => by simp at hx))
set_option maxRecDepth 100000 in
theorem lifted (os : Os) (started : os.Started) (H : Type) (enc : TypeId × Value → H) (F : Stop.Interp) :
    ReturnsInHanded {} Try.checked os 4 .any ((Rows.OpenSpec.upto Rows.timeidxBoundsSpec).pre6 enc Try.prog Try.f4 Rows.timeidxBoundsUptoRow.domain false) (((Rows.OpenSpec.upto Rows.timeidxBoundsSpec).at F).post enc Try.prog Try.f4 false true false false) := by
  refine returnsInHanded_of_cond_sized (C := Try.checked) (s := Rows.OpenSpec.upto Rows.timeidxBoundsSpec) (k := Rows.uptoSmall) rfl own started (by kernel_rfl) Try.func4
    (OpenSpec.witness (enc := enc) (C := Try.checked) (s := Rows.OpenSpec.upto Rows.timeidxBoundsSpec) (k := Rows.uptoSmall) rfl false ⟨#[], #[.int .i64 0, .slice none 0 0, .int .i64 0], []⟩ 8 (by kernel_rfl) (by kernel_rfl) (by kernel_rfl)
      (x := ([.lit (.int .i64 0), .nil, .lit (.int .i64 0)], [], [])) (by kernel_rfl) rfl (by kernel_rfl)) ?_
  intro W base args ds gs before hval hW _ hk hsz _
  exact contract H enc W base args ds gs before hval hW hk hsz
theorem over : Rows.timeidxBoundsUptoRow.holds Try.pinned (Rows.OpenSpec.upto Rows.timeidxBoundsSpec) :=
  OpenClaim.holds_of_cond 4 Try.f4 rfl rfl rfl rfl rfl rfl rfl ⟨rfl, rfl, rfl, rfl, rfl⟩ rfl rfl rfl rfl rfl (by kernel_rfl) Try.func4 (by kernel_rfl)
    (of_decide_eq_true (by kernel_rfl)) (by unfold Func.isWrapper; first | (rw [if_pos (by decide +kernel)]; kernel_rfl) | (rw [if_neg (by decide +kernel)]; exact ⟨rfl, rfl⟩))
    (fun os started H enc _ F => lifted os started H enc F)
end Go.Proofs.Ytlnjemdnmndnfaa.timeidxBounds
namespace Go.Proofs.Ytlnjemdnmndnfaa
theorem timeidxBoundsUpto_holds : Rows.TimeidxBoundsUptoSaid := timeidxBounds.over
end Go.Proofs.Ytlnjemdnmndnfaa
