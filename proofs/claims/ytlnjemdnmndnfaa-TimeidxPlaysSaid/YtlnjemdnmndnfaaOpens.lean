/- The arguments of this seat's laws, opened: lists of entries. -/
import Derived.Test.YtlnjemdnmndnfaaRows
import Derived.Test.YtlnjemdnmndnfaaOpen
import Derived.Test.YtlnjemdnmndnfaaT1x
namespace Go.Proofs.Ytlnjemdnmndnfaa
set_option linter.unusedVariables false
set_option linter.unusedSimpArgs false
open Go.ChangeShapes Go.WideShapes Go.ChangeAt Go.RowKit K
theorem bytes29 : Try.prog.bytesOf 29 = 16 := by kernel_rfl
theorem cells29 : Try.prog.cellsOf 29 = 2 := by kernel_rfl
theorem cells2 : Try.prog.cellsOf 2 = 1 := by kernel_rfl
theorem wf_i64 {n : Int} (h : (Lit.int .i64 n).wf = true) : -9223372036854775808 ≤ n ∧ n ≤ 9223372036854775807 := by
  have h1 : IntKind.i64.min = -9223372036854775808 := rfl
  have h2 : IntKind.i64.max = 9223372036854775807 := rfl
  simp only [Lit.wf, Bool.and_eq_true, decide_eq_true_eq] at h
  omega
def inR (e : En) : Prop := (-9223372036854775808 ≤ e.1 ∧ e.1 ≤ 9223372036854775807) ∧ (-9223372036854775808 ≤ e.2 ∧ e.2 ≤ 9223372036854775807)
section
variable {H : Type} {enc : TypeId × Value → H} {w : World} {base : Nat} {spare : Nat → Bool} {held : Bool}
set_option maxRecDepth 100000 in
theorem elem29 (n : Nat) (cs : List Value) (x : DataW H × List MemPlace) (h : DataW.trod enc Try.prog w base spare held n 29 cs = some x) : ∃ a : En, cs = [.int .i64 a.1, .int .i64 a.2] ∧ inR a := by
  obtain ⟨xs, m, _, _, hlen, hxl, hf⟩ := DataW.trod_struct Try.underlying29 h
  rw [cells29] at hlen
  have h0 : DataW.trod enc Try.prog w base spare held m 2 ((cs.drop 0).take 1) = xs[0]? := by rw [← cells2]; exact hf 0 _ rfl
  have h1 : DataW.trod enc Try.prog w base spare held m 2 ((cs.drop 1).take 1) = xs[1]? := by rw [← cells2]; exact hf 1 _ rfl
  match cs, hlen, xs, hxl with
  | [c0, c1], _, [y0, y1], _ =>
    obtain ⟨a, ha, _, wa⟩ := DataW.trod_int Try.underlying2 h0
    obtain ⟨b, hb, _, wb⟩ := DataW.trod_int Try.underlying2 h1
    simp at ha hb
    subst ha hb
    exact ⟨(a, b), rfl, wf_i64 wa, wf_i64 wb⟩
theorem read_ents {fuel : Nat} {cs : List Value} {x : DataW H × List MemPlace} (h : DataW.trod enc Try.prog w base spare held fuel 22 cs = some x) :
    ∃ A c, ∃ L : List En, cs = [.slice A L.length c] ∧ Reads w 2 A L.length (ents L) ∧ L.length ≤ c ∧ ((x.1 = .nil ∧ L = []) ∨ ∃ els sp, x.1 = .slice els sp ∧ els.length = L.length ∧ ∀ (i : Nat) (a : En) (d : DataW H), L[i]? = some a → els[i]? = some d → inR a) :=
  read_list (Q := fun a _ => inR a) (fun e : En => [.int .i64 e.1, .int .i64 e.2]) Try.underlying22 cells29 (by omega) (fun _ => rfl) elem29 h
theorem all_inR {L : List En} {d : DataW H} (h : (d = .nil ∧ L = []) ∨ ∃ els sp, d = .slice els sp ∧ els.length = L.length ∧ ∀ (i : Nat) (a : En) (d : DataW H), L[i]? = some a → els[i]? = some d → inR a) : ∀ e ∈ L, inR e := by
  rcases h with ⟨_, rfl⟩ | ⟨els, sp, _, hl, hq⟩
  · intro e he; simp at he
  · intro e he
    obtain ⟨i, hi, rfl⟩ := List.mem_iff_getElem.1 he
    exact hq i L[i] (els[i]'(by omega)) (List.getElem?_eq_getElem hi) (List.getElem?_eq_getElem _)
end
end Go.Proofs.Ytlnjemdnmndnfaa
