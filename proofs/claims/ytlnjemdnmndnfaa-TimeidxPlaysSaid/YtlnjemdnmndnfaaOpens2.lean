/- The arguments of TimeidxBounds, opened: a list of bytes; its length under the second form's bound. -/
import Derived.Test.YtlnjemdnmndnfaaOpens
import Derived.Test.YtlnjemdnmndnfaaT7x
import Derived.JoinedCond
import Derived.Deep.CondSized
namespace Go.Proofs.Ytlnjemdnmndnfaa
set_option linter.unusedVariables false
set_option linter.unusedSimpArgs false
open Go.ChangeShapes Go.WideShapes Go.ChangeAt Go.RowKit K
theorem cells5 : Try.prog.cellsOf 5 = 1 := by kernel_rfl
theorem one_bulk {H : Type} (d : DataW H) : 1 ≤ Rows.uptoBulk d := by
  cases d with
  | lit l => cases l <;> simp [Rows.uptoBulk]
  | nil => simp [Rows.uptoBulk]
  | ptr d => simp [Rows.uptoBulk]
  | slice elems spare => simp [Rows.uptoBulk]
  | agg parts => simp [Rows.uptoBulk]
  | iface t d => simp [Rows.uptoBulk]
  | map entries => simp [Rows.uptoBulk]
  | held h => simp [Rows.uptoBulk]
theorem length_bulk {H : Type} : ∀ (l : List (DataW H)), l.length ≤ Rows.uptoBulkAll l
  | [] => by simp
  | d :: l => by
    have h1 := one_bulk d
    have h2 := length_bulk l
    simp only [Rows.uptoBulkAll, List.length_cons]
    omega
section
variable {H : Type} {enc : TypeId × Value → H} {w : World} {base : Nat} {spare : Nat → Bool} {held : Bool}
theorem wf_u8 {n : Int} (h : (Lit.int .u8 n).wf = true) : 0 ≤ n ∧ n ≤ 255 := by
  have h1 : IntKind.u8.min = 0 := rfl
  have h2 : IntKind.u8.max = 255 := rfl
  simp only [Lit.wf, Bool.and_eq_true, decide_eq_true_eq] at h
  omega
theorem elem5 (n : Nat) (cs : List Value) (x : DataW H × List MemPlace) (h : DataW.trod enc Try.prog w base spare held n 5 cs = some x) : ∃ a : UInt8, cs = [.int .u8 a.toNat] ∧ True := by
  obtain ⟨a, ha, _, wa⟩ := DataW.trod_int Try.underlying5 h
  have hb := wf_u8 wa
  refine ⟨UInt8.ofNat a.toNat, ?_, trivial⟩
  rw [ha]
  have : ((UInt8.ofNat a.toNat).toNat : Int) = a := by
    rw [UInt8.toNat_ofNat']
    omega
  rw [this]
theorem read_u8s {fuel : Nat} {cs : List Value} {x : DataW H × List MemPlace} (h : DataW.trod enc Try.prog w base spare held fuel 36 cs = some x) :
    ∃ A c, ∃ L : List UInt8, cs = [.slice A L.length c] ∧ Reads w 1 A L.length (u8sV L) ∧ L.length ≤ c ∧ ((x.1 = .nil ∧ L = []) ∨ ∃ els sp, x.1 = .slice els sp ∧ els.length = L.length ∧ ∀ (i : Nat) (a : UInt8) (d : DataW H), L[i]? = some a → els[i]? = some d → True) := by
  obtain ⟨A, c, L, h1, h2, h3, h4⟩ := read_list (Q := fun _ _ => True) (fun e : UInt8 => [.int .u8 e.toNat]) Try.underlying36 cells5 (by omega) (fun _ => rfl) elem5 h
  exact ⟨A, c, L, h1, (by rw [flat_one] at h2; exact h2), h3, h4⟩
theorem read_short {L : List UInt8} {d : DataW H} (h : (d = .nil ∧ L = []) ∨ ∃ els sp, d = .slice els sp ∧ els.length = L.length ∧ ∀ (i : Nat) (a : UInt8) (d : DataW H), L[i]? = some a → els[i]? = some d → True) (hk : Rows.uptoBulk d ≤ 1048576) : L.length ≤ 1048576 := by
  rcases h with ⟨_, rfl⟩ | ⟨els, sp, rfl, hl, hq⟩
  · simp
  · have := length_bulk els
    simp only [Rows.uptoBulk] at hk
    omega
end
end Go.Proofs.Ytlnjemdnmndnfaa
