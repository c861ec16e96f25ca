/- The arguments of this seat's laws, opened: an entry, a list of calls. -/
import Derived.Test.YtlnjemdnmndnfaaOpens2
namespace Go.Proofs.Ytlnjemdnmndnfaa
set_option linter.unusedVariables false
set_option linter.unusedSimpArgs false
open Go.ChangeShapes Go.WideShapes Go.ChangeAt Go.RowKit K
theorem cells3 : Try.prog.cellsOf 3 = 1 := by kernel_rfl
theorem cells47 : Try.prog.cellsOf 47 = 4 := by kernel_rfl
theorem bytes47 : Try.prog.bytesOf 47 = 32 := by kernel_rfl
section
variable {H : Type} {enc : TypeId × Value → H} {w : World} {base : Nat} {spare : Nat → Bool} {held : Bool}
theorem open_ent {fuel : Nat} {v : Value} {x : DataW H × List MemPlace} (hv : ∃ cs, v = .agg cs ∧ cs.size = Try.prog.cellsOf 29) (h : DataW.trod enc Try.prog w base spare held fuel 29 v.cells.toList = some x) : ∃ a : En, v = .agg #[.int .i64 a.1, .int .i64 a.2] ∧ inR a := by
  obtain ⟨cs, rfl, _⟩ := hv
  obtain ⟨a, ha, hq⟩ := elem29 _ _ _ h
  refine ⟨a, ?_, hq⟩
  have : cs.toList = [.int .i64 a.1, .int .i64 a.2] := by simpa [Value.cells] using ha
  congr 1
  apply Array.toList_inj.1
  simpa using this
/-- one call: its kind, its entry, its number. -/
abbrev Op4 : Type := (Int × En) × Int
def opV (o : Op4) : List Value := [.int .u8 o.1.1, .int .i64 o.1.2.1, .int .i64 o.1.2.2, .int .i64 o.2]
def opsV (l : List Op4) : List Value := l.flatMap opV
def opR (o : Op4) : Prop := (0 ≤ o.1.1 ∧ o.1.1 ≤ 255) ∧ inR o.1.2 ∧ (-9223372036854775808 ≤ o.2 ∧ o.2 ≤ 9223372036854775807)
set_option maxRecDepth 100000 in
theorem elem47 (n : Nat) (cs : List Value) (x : DataW H × List MemPlace) (h : DataW.trod enc Try.prog w base spare held n 47 cs = some x) : ∃ a : Op4, cs = opV a ∧ opR a := by
  obtain ⟨xs, m, _, _, hlen, hxl, hf⟩ := DataW.trod_struct Try.underlying47 h
  rw [cells47] at hlen
  have h0 : DataW.trod enc Try.prog w base spare held m 5 ((cs.drop 0).take 1) = xs[0]? := by rw [← cells5]; exact hf 0 _ rfl
  have h1 : DataW.trod enc Try.prog w base spare held m 29 ((cs.drop 1).take 2) = xs[1]? := by rw [← cells29]; exact hf 1 _ rfl
  have h2 : DataW.trod enc Try.prog w base spare held m 3 ((cs.drop 3).take 1) = xs[2]? := by rw [← cells3]; exact hf 2 _ rfl
  match cs, hlen, xs, hxl with
  | [c0, c1, c2, c3], _, [y0, y1, y2], _ =>
    obtain ⟨a, ha, _, wa⟩ := DataW.trod_int Try.underlying5 h0
    obtain ⟨b, hb, wb⟩ := elem29 _ _ _ h1
    obtain ⟨d, hd, _, wd⟩ := DataW.trod_int Try.underlying3 h2
    simp at ha hb hd
    obtain ⟨hb1, hb2⟩ := hb
    subst ha hb1 hb2 hd
    exact ⟨((a, b), d), rfl, wf_u8 wa, wb, wf_i64 wd⟩
theorem read_ops {fuel : Nat} {cs : List Value} {x : DataW H × List MemPlace} (h : DataW.trod enc Try.prog w base spare held fuel 41 cs = some x) :
    ∃ A c, ∃ L : List Op4, cs = [.slice A L.length c] ∧ Reads w 4 A L.length (opsV L) ∧ L.length ≤ c ∧ ((x.1 = .nil ∧ L = []) ∨ ∃ els sp, x.1 = .slice els sp ∧ els.length = L.length ∧ ∀ (i : Nat) (a : Op4) (d : DataW H), L[i]? = some a → els[i]? = some d → opR a) :=
  read_list (Q := fun a _ => opR a) opV Try.underlying41 cells47 (by omega) (fun _ => rfl) elem47 h
end
theorem all_of {α : Type} {H : Type} {R : α → Prop} {L : List α} {d : DataW H} (h : (d = .nil ∧ L = []) ∨ ∃ els sp, d = .slice els sp ∧ els.length = L.length ∧ ∀ (i : Nat) (a : α) (d : DataW H), L[i]? = some a → els[i]? = some d → R a) : ∀ e ∈ L, R e := by
  rcases h with ⟨_, rfl⟩ | ⟨els, sp, _, hl, hq⟩
  · intro e he; simp at he
  · intro e he
    obtain ⟨i, hi, rfl⟩ := List.mem_iff_getElem.1 he
    exact hq i L[i] (els[i]'(by omega)) (List.getElem?_eq_getElem hi) (List.getElem?_eq_getElem _)
theorem opsV_length (l : List Op4) : (opsV l).length = l.length * 4 := flat_length opV (fun _ => rfl) l
theorem reads_op {w : World} {A : Option Addr} {l : List Op4} (h : Reads w 4 A l.length (opsV l)) {k : Nat} (hk : k < l.length) :
    ∃ g off, A = some ⟨g, off, none⟩ ∧ g < w.heap.size ∧ w.cell? ⟨g, off + k * 4, none⟩ = some (.int .u8 l[k].1.1) ∧ w.cell? ⟨g, off + k * 4 + 1, none⟩ = some (.int .i64 l[k].1.2.1) ∧ w.cell? ⟨g, off + k * 4 + 2, none⟩ = some (.int .i64 l[k].1.2.2) ∧ w.cell? ⟨g, off + k * 4 + 3, none⟩ = some (.int .i64 l[k].2) := by
  obtain ⟨g, off, hA, hg, hc⟩ := h.2 (by omega)
  have hf : ∀ j, j < 4 → (opsV l)[k * 4 + j]? = (opV l[k])[j]? := fun j hj => by
    have := flat_at opV (size := 4) (fun _ => rfl) l k j hj
    rw [List.getElem?_eq_getElem hk] at this
    simpa [opsV] using this
  exact ⟨g, off, hA, hg, hc (k * 4) _ (hf 0 (by omega)), by have := hc (k * 4 + 1) _ (hf 1 (by omega)); rwa [← Nat.add_assoc] at this, by have := hc (k * 4 + 2) _ (hf 2 (by omega)); rwa [← Nat.add_assoc] at this, by have := hc (k * 4 + 3) _ (hf 3 (by omega)); rwa [← Nat.add_assoc] at this⟩
end Go.Proofs.Ytlnjemdnmndnfaa
