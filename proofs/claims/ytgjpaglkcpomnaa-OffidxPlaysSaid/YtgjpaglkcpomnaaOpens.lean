/- The arguments of this seat's laws, opened: lists of entries, of numbers. -/
import Derived.Test.YtgjpaglkcpomnaaRows
import Derived.Test.YtgjpaglkcpomnaaOpen
import Derived.Test.YtgjpaglkcpomnaaPlain2
import Derived.Test.YtgjpaglkcpomnaaW6x
namespace Go.Proofs.Ytgjpaglkcpomnaa
set_option linter.unusedVariables false
set_option linter.unusedSimpArgs false
open Go.ChangeShapes Go.WideShapes Go.ChangeAt Go.RowKit K
theorem bytes30 : Try.prog.bytesOf 30 = 16 := by kernel_rfl
theorem bytes2 : Try.prog.bytesOf 2 = 8 := by kernel_rfl
theorem cells30 : Try.prog.cellsOf 30 = 2 := by kernel_rfl
theorem cells2 : Try.prog.cellsOf 2 = 1 := by kernel_rfl
theorem wf_i64 {n : Int} (h : (Lit.int .i64 n).wf = true) : -9223372036854775808 ≤ n ∧ n ≤ 9223372036854775807 := by
  have h1 : IntKind.i64.min = -9223372036854775808 := rfl
  have h2 : IntKind.i64.max = 9223372036854775807 := rfl
  simp only [Lit.wf, Bool.and_eq_true, decide_eq_true_eq] at h
  omega
section
variable {H : Type} {enc : TypeId × Value → H} {w : World} {base : Nat} {spare : Nat → Bool} {held : Bool}
set_option maxRecDepth 100000 in
theorem elem30 (n : Nat) (cs : List Value) (x : DataW H × List MemPlace) (h : DataW.trod enc Try.prog w base spare held n 30 cs = some x) : ∃ a : En, cs = [.int .i64 a.1, .int .i64 a.2] ∧ inR a := by
  obtain ⟨xs, m, _, _, hlen, hxl, hf⟩ := DataW.trod_struct Try.underlying30 h
  rw [cells30] at hlen
  have h0 : DataW.trod enc Try.prog w base spare held m 2 ((cs.drop 0).take 1) = xs[0]? := by rw [← cells2]; exact hf 0 _ rfl
  have h1 : DataW.trod enc Try.prog w base spare held m 2 ((cs.drop 1).take 1) = xs[1]? := by rw [← cells2]; exact hf 1 _ rfl
  match cs, hlen, xs, hxl with
  | [c0, c1], _, [y0, y1], _ =>
    obtain ⟨a, ha, _, wa⟩ := DataW.trod_int Try.underlying2 h0
    obtain ⟨b, hb, _, wb⟩ := DataW.trod_int Try.underlying2 h1
    simp at ha hb
    subst ha hb
    exact ⟨(a, b), rfl, wf_i64 wa, wf_i64 wb⟩
theorem read_ents {fuel : Nat} {cs : List Value} {x : DataW H × List MemPlace} (h : DataW.trod enc Try.prog w base spare held fuel 23 cs = some x) :
    ∃ A c, ∃ L : List En, cs = [.slice A L.length c] ∧ Reads w 2 A L.length (ents L) ∧ L.length ≤ c ∧ ((x.1 = .nil ∧ L = []) ∨ ∃ els sp, x.1 = .slice els sp ∧ els.length = L.length ∧ ∀ (i : Nat) (a : En) (d : DataW H), L[i]? = some a → els[i]? = some d → inR a) :=
  read_list (Q := fun a _ => inR a) (fun e : En => [.int .i64 e.1, .int .i64 e.2]) Try.underlying23 cells30 (by omega) (fun _ => rfl) elem30 h
theorem all_inR {L : List En} {d : DataW H} (h : (d = .nil ∧ L = []) ∨ ∃ els sp, d = .slice els sp ∧ els.length = L.length ∧ ∀ (i : Nat) (a : En) (d : DataW H), L[i]? = some a → els[i]? = some d → inR a) : ∀ e ∈ L, inR e := by
  rcases h with ⟨_, rfl⟩ | ⟨els, sp, _, hl, hq⟩
  · intro e he; simp at he
  · intro e he
    obtain ⟨i, hi, rfl⟩ := List.mem_iff_getElem.1 he
    exact hq i L[i] (els[i]'(by omega)) (List.getElem?_eq_getElem hi) (List.getElem?_eq_getElem _)
theorem elem2 (n : Nat) (cs : List Value) (x : DataW H × List MemPlace) (h : DataW.trod enc Try.prog w base spare held n 2 cs = some x) : ∃ a : Int, cs = [.int .i64 a] ∧ True := by
  obtain ⟨a, ha, _⟩ := DataW.trod_int Try.underlying2 h
  exact ⟨a, ha, trivial⟩
theorem read_ints {fuel : Nat} {cs : List Value} {x : DataW H × List MemPlace} (h : DataW.trod enc Try.prog w base spare held fuel 24 cs = some x) :
    ∃ A c, ∃ L : List Int, cs = [.slice A L.length c] ∧ Reads w 1 A L.length (intsV L) ∧ L.length ≤ c ∧ ((x.1 = .nil ∧ L = []) ∨ ∃ els sp, x.1 = .slice els sp ∧ els.length = L.length ∧ ∀ (i : Nat) (a : Int) (d : DataW H), L[i]? = some a → els[i]? = some d → True) := by
  obtain ⟨A, c, L, h1, h2, h3, h4⟩ := read_list (Q := fun _ _ => True) (fun e : Int => [.int .i64 e]) Try.underlying24 cells2 (by omega) (fun _ => rfl) elem2 h
  exact ⟨A, c, L, h1, (by rw [flat_one] at h2; exact h2), h3, h4⟩
end
end Go.Proofs.Ytgjpaglkcpomnaa
