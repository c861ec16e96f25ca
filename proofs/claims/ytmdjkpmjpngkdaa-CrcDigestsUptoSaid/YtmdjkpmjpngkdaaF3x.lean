/- The script of CrcDigests, opened: a list of calls; how many letters its texts have under the second form's bound. -/
import Derived.Test.YtmdjkpmjpngkdaaRows
import Derived.Test.YtmdjkpmjpngkdaaOpen
import Derived.Test.YtmdjkpmjpngkdaaF2x
import Derived.JoinedCond
import Derived.Deep.CondSized
namespace Go.Proofs.Ytmdjkpmjpngkdaa
set_option linter.unusedVariables false
set_option linter.unusedSimpArgs false
open Go.ChangeShapes Go.WideShapes Go.ChangeAt Go.RowKit K
theorem cells49 : Try.prog.cellsOf 49 = 2 := by kernel_rfl
theorem cellsOf3 : Try.prog.cellsOf 3 = 1 := by kernel_rfl
theorem cellsOf9 : Try.prog.cellsOf 9 = 1 := by kernel_rfl
section
variable {H : Type} {enc : TypeId × Value → H} {w : World} {base : Nat} {spare : Nat → Bool} {held : Bool}
set_option maxRecDepth 100000 in
theorem elem49 (n : Nat) (cs : List Value) (x : DataW H × List MemPlace) (h : DataW.trod enc Try.prog w base spare held n 49 cs = some x) : ∃ a : Op, cs = [.int .i64 a.1, .string a.2] ∧ a.2.size ≤ Rows.uptoBulk x.1 := by
  obtain ⟨xs, m, _, hx, hlen, hxl, hf⟩ := DataW.trod_struct Try.underlying49 h
  rw [cells49] at hlen
  have h0 : DataW.trod enc Try.prog w base spare held m 3 ((cs.drop 0).take 1) = xs[0]? := by rw [← cellsOf3]; exact hf 0 _ rfl
  have h1 : DataW.trod enc Try.prog w base spare held m 9 ((cs.drop 1).take 1) = xs[1]? := by rw [← cellsOf9]; exact hf 1 _ rfl
  match cs, hlen, xs, hxl with
  | [c0, c1], _, [y0, y1], _ =>
    obtain ⟨a, ha, _, wa⟩ := DataW.trod_int Try.underlying3 h0
    obtain ⟨b, hb, hy, _⟩ := DataW.trod_string Try.underlying9 h1
    simp at ha hb
    subst ha hb
    refine ⟨(a, b), rfl, ?_⟩
    rw [hx]
    simp [Rows.uptoBulk, Rows.uptoBulkAll, hy]
    have : b.data.size = b.size := rfl
    omega
theorem read_ops {fuel : Nat} {cs : List Value} {x : DataW H × List MemPlace} (h : DataW.trod enc Try.prog w base spare held fuel 45 cs = some x) :
    ∃ A c, ∃ L : List Op, cs = [.slice A L.length c] ∧ Reads w 2 A L.length (opsV L) ∧ L.length ≤ c ∧ ((x.1 = .nil ∧ L = []) ∨ ∃ els sp, x.1 = .slice els sp ∧ els.length = L.length ∧ ∀ (i : Nat) (a : Op) (d : DataW H), L[i]? = some a → els[i]? = some d → a.2.size ≤ Rows.uptoBulk d) :=
  read_list (Q := fun (a : Op) (d : DataW H) => a.2.size ≤ Rows.uptoBulk d) (fun e : Op => [.int .i64 e.1, .string e.2]) Try.underlying45 cells49 (by omega) (fun _ => rfl) elem49 h
theorem one_bulk (d : DataW H) : 1 ≤ Rows.uptoBulk d := by
  cases d with
  | lit l => cases l <;> simp [Rows.uptoBulk]
  | nil => simp [Rows.uptoBulk]
  | ptr d => simp [Rows.uptoBulk]
  | slice elems spare => simp [Rows.uptoBulk]
  | agg parts => simp [Rows.uptoBulk]
  | iface t d => simp [Rows.uptoBulk]
  | map entries => simp [Rows.uptoBulk]
  | held h => simp [Rows.uptoBulk]
theorem tot_bulk : ∀ (L : List Op) (els : List (DataW H)), els.length = L.length → (∀ (i : Nat) (a : Op) (d : DataW H), L[i]? = some a → els[i]? = some d → a.2.size ≤ Rows.uptoBulk d) → tot L ≤ Rows.uptoBulkAll els ∧ L.length ≤ Rows.uptoBulkAll els
  | [], els, _, _ => by simp [tot]
  | a :: L, [], h, _ => by simp at h
  | a :: L, d :: els, h, hq => by
    have h0 := hq 0 a d rfl rfl
    have h1 := tot_bulk L els (by simpa using h) (fun i a' d' h1 h2 => hq (i + 1) a' d' (by simpa using h1) (by simpa using h2))
    have h2 := one_bulk d
    have e : tot (a :: L) = a.2.size + tot L := by simp [tot]
    simp only [Rows.uptoBulkAll, e, List.length_cons]
    omega
theorem read_tot {L : List Op} {d : DataW H} (h : (d = .nil ∧ L = []) ∨ ∃ els sp, d = .slice els sp ∧ els.length = L.length ∧ ∀ (i : Nat) (a : Op) (d : DataW H), L[i]? = some a → els[i]? = some d → a.2.size ≤ Rows.uptoBulk d) (hk : Rows.uptoBulk d ≤ 1048576) : tot L ≤ 1048576 ∧ L.length ≤ 1048576 := by
  rcases h with ⟨_, rfl⟩ | ⟨els, sp, rfl, hl, hq⟩
  · simp [tot]
  · have := tot_bulk L els hl hq
    simp only [Rows.uptoBulk] at hk
    omega
end
end Go.Proofs.Ytmdjkpmjpngkdaa
