/- The arguments of this seat's laws, opened: lists of calls, of texts. -/
import Derived.Test.YtgjpaglkcpomnaaOpens
import Derived.Test.YtgjpaglkcpomnaaVBx
namespace Go.Proofs.Ytgjpaglkcpomnaa
set_option linter.unusedVariables false
set_option linter.unusedSimpArgs false
open Go.ChangeShapes Go.WideShapes Go.ChangeAt Go.RowKit K
theorem bytes40 : Try.prog.bytesOf 40 = 32 := by kernel_rfl
theorem bytes9 : Try.prog.bytesOf 9 = 16 := by kernel_rfl
theorem cells40 : Try.prog.cellsOf 40 = 4 := by kernel_rfl
theorem cells9 : Try.prog.cellsOf 9 = 1 := by kernel_rfl
theorem cells3 : Try.prog.cellsOf 3 = 1 := by kernel_rfl
theorem weightsAll_mem {H : Type} {P : Program} {e : TypeId} {d : DataW H} {n : Nat} (hn : n ∈ d.weights P e) : ∀ {els : List (DataW H)} {i : Nat}, els[i]? = some d → n ∈ DataW.weightsAll P e els
  | d0 :: els, 0, h => by
    simp only [List.getElem?_cons_zero, Option.some.injEq] at h
    subst h
    simp only [DataW.weightsAll, List.mem_append]
    exact Or.inl hn
  | d0 :: els, i + 1, h => by
    simp only [List.getElem?_cons_succ] at h
    simp only [DataW.weightsAll, List.mem_append]
    exact Or.inr (weightsAll_mem hn h)
  | [], _, h => by simp at h
/-- what an element of a handed slice weighs is within reach. -/
theorem sized_elem {H : Type} {P : Program} {ts : List TypeId} {ds : List (DataW H)} (h : (DataW.weightsEach P ts ds).all (· ≤ reachBytes) = true) {j : Nat} {t e : TypeId} {els sp : List (DataW H)} (ht : ts[j]? = some t) (hd : ds[j]? = some (.slice els sp)) (hu : P.underlying t = some (.slice e))
    {i : Nat} {d : DataW H} (hi : els[i]? = some d) {n : Nat} (hn : n ∈ d.weights P e) : n ≤ reachBytes := by
  have := List.all_eq_true.1 h _ (DataW.weights_mem_each ht hd n (by
    simp only [DataW.weights, hu]
    exact List.mem_cons_of_mem _ (List.mem_append_left _ (weightsAll_mem hn hi))))
  simpa using this
section
variable {H : Type} {enc : TypeId × Value → H} {w : World} {base : Nat} {spare : Nat → Bool} {held : Bool}
theorem elem9 (n : Nat) (cs : List Value) (x : DataW H × List MemPlace) (h : DataW.trod enc Try.prog w base spare held n 9 cs = some x) : ∃ a : ByteArray, cs = [.string a] ∧ x.1 = .lit (.string a.data.toList) := by
  obtain ⟨s, hs, hx, _⟩ := DataW.trod_string Try.underlying9 h
  exact ⟨s, hs, by rw [hx]⟩
theorem read_texts {fuel : Nat} {cs : List Value} {x : DataW H × List MemPlace} (h : DataW.trod enc Try.prog w base spare held fuel 56 cs = some x) :
    ∃ A c, ∃ L : List ByteArray, cs = [.slice A L.length c] ∧ Reads w 1 A L.length (textsV L) ∧ L.length ≤ c ∧ ((x.1 = .nil ∧ L = []) ∨ ∃ els sp, x.1 = .slice els sp ∧ els.length = L.length ∧ ∀ (i : Nat) (a : ByteArray) (d : DataW H), L[i]? = some a → els[i]? = some d → d = .lit (.string a.data.toList)) := by
  obtain ⟨A, c, L, h1, h2, h3, h4⟩ := read_list (Q := fun (a : ByteArray) (d : DataW H) => d = .lit (.string a.data.toList)) (fun e : ByteArray => [.string e]) Try.underlying56 cells9 (by omega) (fun _ => rfl) elem9 h
  exact ⟨A, c, L, h1, (by rw [flat_one] at h2; exact h2), h3, h4⟩
set_option maxRecDepth 100000 in
theorem elem40 (n : Nat) (cs : List Value) (x : DataW H × List MemPlace) (h : DataW.trod enc Try.prog w base spare held n 40 cs = some x) : ∃ a : Op4, cs = [.int .i64 a.1.1, .int .i64 a.1.2, .int .i64 a.2.1, .int .i64 a.2.2] ∧ True := by
  obtain ⟨xs, m, _, _, hlen, hxl, hf⟩ := DataW.trod_struct Try.underlying40 h
  rw [cells40] at hlen
  have h0 : DataW.trod enc Try.prog w base spare held m 3 ((cs.drop 0).take 1) = xs[0]? := by rw [← cells3]; exact hf 0 _ rfl
  have h1 : DataW.trod enc Try.prog w base spare held m 30 ((cs.drop 1).take 2) = xs[1]? := by rw [← cells30]; exact hf 1 _ rfl
  have h2 : DataW.trod enc Try.prog w base spare held m 3 ((cs.drop 3).take 1) = xs[2]? := by rw [← cells3]; exact hf 2 _ rfl
  match cs, hlen, xs, hxl with
  | [c0, c1, c2, c3], _, [y0, y1, y2], _ =>
    obtain ⟨a, ha, _⟩ := DataW.trod_int Try.underlying3 h0
    obtain ⟨b, hb, _⟩ := elem30 _ _ _ h1
    obtain ⟨d, hd, _⟩ := DataW.trod_int Try.underlying3 h2
    simp at ha hb hd
    obtain ⟨hb1, hb2⟩ := hb
    subst ha hb1 hb2 hd
    exact ⟨((a, b.1), (b.2, d)), rfl, trivial⟩
theorem read_ops {fuel : Nat} {cs : List Value} {x : DataW H × List MemPlace} (h : DataW.trod enc Try.prog w base spare held fuel 34 cs = some x) :
    ∃ A c, ∃ L : List Op4, cs = [.slice A L.length c] ∧ Reads w 4 A L.length (opsV L) ∧ L.length ≤ c ∧ ((x.1 = .nil ∧ L = []) ∨ ∃ els sp, x.1 = .slice els sp ∧ els.length = L.length ∧ ∀ (i : Nat) (a : Op4) (d : DataW H), L[i]? = some a → els[i]? = some d → True) :=
  read_list (Q := fun _ _ => True) (fun e : Op4 => [.int .i64 e.1.1, .int .i64 e.1.2, .int .i64 e.2.1, .int .i64 e.2.2]) Try.underlying34 cells40 (by omega) (fun _ => rfl) elem40 h
end
end Go.Proofs.Ytgjpaglkcpomnaa
