/- OffidxFinds: for every list of entries and every list of keys the call answers true, and both lists read as before. Conditions: none. -/
import Derived.Test.YtgjpaglkcpomnaaRows
import Derived.Test.YtgjpaglkcpomnaaOpen
import Derived.Test.YtgjpaglkcpomnaaW6x
namespace Go.Proofs.Ytgjpaglkcpomnaa.offidxFinds
open Go.ChangeShapes Go.WideShapes Go.ChangeAt Go.RowKit K
open Go.ChangeMaps (open_string shut_string)
theorem own : ownKnob Try.prog.godebug = none := by kernel_rfl
theorem laidOut : laidOutB Try.prog = true := by kernel_rfl
theorem bytes30 : Try.prog.bytesOf 30 = 16 := by kernel_rfl
theorem bytes2 : Try.prog.bytesOf 2 = 8 := by kernel_rfl
theorem cells30 : Try.prog.cellsOf 30 = 2 := by kernel_rfl
theorem cells2 : Try.prog.cellsOf 2 = 1 := by kernel_rfl
section
variable {H : Type} {enc : TypeId × Value → H} {w : World} {base : Nat} {spare : Nat → Bool} {held : Bool}
set_option maxRecDepth 100000 in
theorem elem30 (n : Nat) (cs : List Value) (x : DataW H × List MemPlace) (h : DataW.trod enc Try.prog w base spare held n 30 cs = some x) : ∃ a : En, cs = [.int .i64 a.1, .int .i64 a.2] ∧ True := by
  obtain ⟨xs, m, _, _, hlen, hxl, hf⟩ := DataW.trod_struct Try.underlying30 h
  rw [cells30] at hlen
  have h0 : DataW.trod enc Try.prog w base spare held m 2 ((cs.drop 0).take 1) = xs[0]? := by rw [← cells2]; exact hf 0 _ rfl
  have h1 : DataW.trod enc Try.prog w base spare held m 2 ((cs.drop 1).take 1) = xs[1]? := by rw [← cells2]; exact hf 1 _ rfl
  match cs, hlen, xs, hxl with
  | [c0, c1], _, [y0, y1], _ =>
    obtain ⟨a, ha, _⟩ := DataW.trod_int Try.underlying2 h0
    obtain ⟨b, hb, _⟩ := DataW.trod_int Try.underlying2 h1
    simp at ha hb
    subst ha hb
    exact ⟨(a, b), rfl, trivial⟩
theorem read_ents {fuel : Nat} {cs : List Value} {x : DataW H × List MemPlace} (h : DataW.trod enc Try.prog w base spare held fuel 23 cs = some x) :
    ∃ A c, ∃ L : List En, cs = [.slice A L.length c] ∧ Reads w 2 A L.length (ents L) ∧ L.length ≤ c ∧ ((x.1 = .nil ∧ L = []) ∨ ∃ els sp, x.1 = .slice els sp ∧ els.length = L.length ∧ ∀ (i : Nat) (a : En) (d : DataW H), L[i]? = some a → els[i]? = some d → True) :=
  read_list (Q := fun _ _ => True) (fun e : En => [.int .i64 e.1, .int .i64 e.2]) Try.underlying23 cells30 (by omega) (fun _ => rfl) elem30 h
theorem elem2 (n : Nat) (cs : List Value) (x : DataW H × List MemPlace) (h : DataW.trod enc Try.prog w base spare held n 2 cs = some x) : ∃ a : Int, cs = [.int .i64 a] ∧ True := by
  obtain ⟨a, ha, _⟩ := DataW.trod_int Try.underlying2 h
  exact ⟨a, ha, trivial⟩
theorem read_ints {fuel : Nat} {cs : List Value} {x : DataW H × List MemPlace} (h : DataW.trod enc Try.prog w base spare held fuel 24 cs = some x) :
    ∃ A c, ∃ L : List Int, cs = [.slice A L.length c] ∧ Reads w 1 A L.length (intsV L) ∧ L.length ≤ c ∧ ((x.1 = .nil ∧ L = []) ∨ ∃ els sp, x.1 = .slice els sp ∧ els.length = L.length ∧ ∀ (i : Nat) (a : Int) (d : DataW H), L[i]? = some a → els[i]? = some d → True) := by
  obtain ⟨A, c, L, h1, h2, h3, h4⟩ := read_list (Q := fun _ _ => True) (fun e : Int => [.int .i64 e]) Try.underlying24 cells2 (by omega) (fun _ => rfl) elem2 h
  exact ⟨A, c, L, h1, (by rw [flat_one] at h2; exact h2), h3, h4⟩
end
set_option maxRecDepth 100000 in
theorem lifted (os : Os) (started : os.Started) (H : Type) (enc : TypeId × Value → H) :
    ReturnsInHanded {} Try.checked os 4 .any (Rows.offidxFindsSpec.pre6 enc Try.prog Try.f4 Rows.offidxFindsRow.domain false) (Rows.offidxFindsSpec.post enc Try.prog Try.f4 false true false false) := by
  refine returnsInHanded_of_change_sized (C := Try.checked) own started (by kernel_rfl) Try.func4
    (ChangeSpec.witness6 (enc := enc) (C := Try.checked) false ⟨#[], #[.slice none 0 0, .slice none 0 0], []⟩ 8 (by kernel_rfl) (by kernel_rfl) (by kernel_rfl) (by kernel_rfl)) ?_
  intro W base args ds gs before hval0 hW _ hsz0 _
  have hsz : (DataW.weightsEach Try.prog (Try.f4.params.toList ++ Rows.offidxFindsSpec.plain.varTypes Try.prog) (ds ++ gs)).all (· ≤ reachBytes) = true := hsz0
  have hval : ∀ (j : Nat) t v, Try.f4.params[j]? = some t → args[j]? = some v → Value.okWide Try.prog W .any base t v := hval0
  have hW' := hW
  obtain ⟨p, q, hA0, hV, rfl, _, _⟩ := hW
  have hA : DataW.TrodAll enc Try.prog W 0 (fun _ => true) true Try.f4.params.toList args.toList ds p := hA0
  rw [Try.params4] at hA hval hsz
  obtain ⟨v0, v1, d0, d1, p0, p1, rfl, rfl, rfl, h0, h1⟩ := trodAll_two hA
  obtain ⟨rfl, rfl⟩ := trodVars_none hV
  clear hA0 hval0 hsz0
  simp only [List.append_nil, List.append_assoc] at hW' hsz
  have hk0 := h0
  have hk1 := h1
  have hlt : ∀ x ∈ p0 ++ p1, x.block < W.heap.size := fun x hx => by simpa using hW'.lt x (by simpa [List.append_assoc] using hx)
  obtain ⟨a0, len0, cap0, rfl⟩ := okWide_slice Try.underlying23 (hval 0 23 v0 rfl rfl)
  obtain ⟨fuel0, hf0⟩ := h0
  obtain ⟨A0, c0, L0, hcs0, hr0, hc0, hd0⟩ := read_ents hf0
  obtain ⟨rfl, rfl, rfl⟩ : a0 = A0 ∧ len0 = L0.length ∧ cap0 = c0 := by simpa [Value.cells] using hcs0
  have hs0 : L0.length * 16 ≤ 140737488351232 := by
    rcases hd0 with ⟨_, rfl⟩ | ⟨els, sp, hd, hl, _⟩
    · simp
    · have := sized_slice hsz (j := 0) (t := 23) (e := 30) rfl (by rw [show d0 = .slice els sp from hd]; rfl) Try.underlying23
      rw [bytes30] at this
      simp only [reachBytes] at this
      omega
  obtain ⟨a1, len1, cap1, rfl⟩ := okWide_slice Try.underlying24 (hval 1 24 v1 rfl rfl)
  obtain ⟨fuel1, hf1⟩ := h1
  obtain ⟨A1, c1, L1, hcs1, hr1, hc1, hd1⟩ := read_ints hf1
  obtain ⟨rfl, rfl, rfl⟩ : a1 = A1 ∧ len1 = L1.length ∧ cap1 = c1 := by simpa [Value.cells] using hcs1
  have hs1 : L1.length * 8 ≤ 140737488351232 := by
    rcases hd1 with ⟨_, rfl⟩ | ⟨els, sp, hd, hl, _⟩
    · simp
    · have := sized_slice hsz (j := 1) (t := 24) (e := 2) rfl (by rw [show d1 = .slice els sp from hd]; rfl) Try.underlying24
      rw [bytes2] at this
      simp only [reachBytes] at this
      omega
  refine ((finds_any W _ _ _ _ L0 L1 hr0 hs0 hr1 hs1).mono fun e W1 h => Tells.of_turn h.1 h.2).mono fun e W1 ⟨he, bel⟩ => ?_
  subst he
  refine ⟨_, rfl, _, _, _, [], p0 ++ (p1), [], hW', trodAll_mk1 (shut_bool Try.underlying4 _), ?_, rfl, bel.frame _, fun h => by cases h⟩
  exact trodAll_mk2 (Below.trod laidOut (by kernel_rfl) (of_decide_eq_true (by kernel_rfl)) hk0 bel (fun x hx => hlt x (by simp [hx]))) (Below.trod laidOut (by kernel_rfl) (of_decide_eq_true (by kernel_rfl)) hk1 bel (fun x hx => hlt x (by simp [hx])))
theorem over : Rows.offidxFindsRow.holds Try.pinned (OpenSpec.ofChange Rows.offidxFindsSpec) :=
  OpenClaim.holds_of_wide 4 Try.f4 rfl rfl rfl rfl rfl rfl rfl ⟨rfl, rfl, rfl, rfl, rfl⟩ rfl rfl rfl rfl rfl (by kernel_rfl) Try.func4 (by kernel_rfl)
    (of_decide_eq_true (by kernel_rfl)) (by unfold Func.isWrapper; first | (rw [if_pos (by decide +kernel)]; kernel_rfl) | (rw [if_neg (by decide +kernel)]; exact ⟨rfl, rfl⟩))
    (fun os started H enc _ => lifted os started H enc)
end Go.Proofs.Ytgjpaglkcpomnaa.offidxFinds
namespace Go.Proofs.Ytgjpaglkcpomnaa
theorem offidxFinds_holds : Rows.OffidxFindsSaid := offidxFinds.over
end Go.Proofs.Ytgjpaglkcpomnaa
