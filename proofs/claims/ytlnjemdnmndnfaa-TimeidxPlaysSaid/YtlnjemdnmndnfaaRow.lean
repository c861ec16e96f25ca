/- A row of the call's own that grows by appends: what stands behind each. Over any program. -/
import Derived.Test.YtlnjemdnmndnfaaLater
import Derived.Deep.DrawnRows
import Derived.Sort.AtCall
namespace Go.Proofs.Ytlnjemdnmndnfaa.K
set_option linter.unusedVariables false
set_option linter.unusedSimpArgs false
open Go.RowKit

theorem own_turn0 {w w1 : World} {base : Nat} {e : TypeId} {size n : Nat} {v : Value} {xs : List Value} (h : w.ownsRow base e size v n xs) (ht : Turn [] w w1) : w1.ownsRow base e size v n xs := own_turn h ht (by simp)
theorem mem_blockOf {A : Option Addr} {n c g : Nat} : (Value.slice A n c).ownBlock = some g ↔ g ∈ blockOf A := by
  cases A <;> simp [Value.ownBlock, blockOf, eq_comm]
theorem own_cut {w : World} {base : Nat} {e : TypeId} {size n c k : Nat} {A : Option Addr} {xs : List Value} (h : w.ownsRow base e size (.slice A n c) n xs) (hk : k ≤ n) : w.ownsRow base e size (.slice A k c) k (xs.take (k * size)) := by
  have hle : k * size ≤ n * size := Nat.mul_le_mul_right _ hk
  refine ⟨by rw [List.length_take, h.1]; omega, ?_⟩
  rcases h.2 with ⟨hv, hn⟩ | ⟨g, cap, cur, hv, hb, hh, h1, h2, h3, h4⟩
  · subst hn
    obtain rfl : k = 0 := by omega
    injection hv with hA _ hc
    subst hA hc
    exact .inl ⟨rfl, rfl⟩
  · injection hv with hA _ hc
    subst hA hc
    exact .inr ⟨g, c, cur, rfl, hb, hh, by omega, h2, h3, by rw [← h4, List.take_take]; congr 1; omega⟩
theorem own_cap {w : World} {base : Nat} {e : TypeId} {size n c : Nat} {A : Option Addr} {xs : List Value} (h : w.ownsRow base e size (.slice A n c) n xs) : n ≤ c := by
  rcases h.2 with ⟨hv, hn⟩ | ⟨g, cap, cur, hv, hb, hh, h1, h2, h3, h4⟩
  · omega
  · injection hv with hA _ hc; omega
theorem turn_set (w : World) (b o : Nat) (v : Value) : Turn [b] w (w.setCell ⟨b, o, none⟩ v) := (Turn.refl _ _).setCell (.inl (by simp)) _
/-- a row in memory, made since w0. -/
structure OwnR (w0 : World) (e : TypeId) (size : Nat) (A : Option Addr) (n c : Nat) (xs : List Value) (wr : World) : Prop where
  own : wr.ownsRow 0 e size (.slice A n c) n xs
  new : ∀ k ∈ blockOf A, w0.heap.size ≤ k
  turn : Turn [] w0 wr
section
variable {w0 wr w1 w2 : World} {e : TypeId} {size n c m : Nat} {A : Option Addr} {xs ys : List Value}
theorem OwnR.none_ (w0 : World) (e : TypeId) (size : Nat) {wr : World} (ht : Turn [] w0 wr) : OwnR w0 e size none 0 0 [] wr := ⟨World.ownsRow_nil _ _ _ _, by simp [blockOf], ht⟩
theorem OwnR.lt (h : OwnR w0 e size A n c xs wr) : ∀ k ∈ blockOf A, k < wr.heap.size := fun k hk => (h.own.lt k (mem_blockOf.2 hk)).2
theorem OwnR.turn0 (h : OwnR w0 e size A n c xs wr) (ht : Turn [] wr w1) : OwnR w0 e size A n c xs w1 := ⟨own_turn0 h.own ht, h.new, h.turn.trans0 ht⟩
theorem OwnR.reads (h : OwnR w0 e size A n c xs wr) : Reads wr size A n xs := Reads.of_own h.own
theorem OwnR.far (h : OwnR w0 e size A n c xs wr) {F : List Nat} (ht : Turn F wr w1) (hd : ∀ k ∈ blockOf A, k ∉ F) (hF : ∀ k ∈ F, w0.heap.size ≤ k) : OwnR w0 e size A n c xs w1 :=
  ⟨own_turn h.own ht (fun g hg => hd g (mem_blockOf.1 hg)), h.new, h.turn.trans ht (fun x hx => .inr (hF x hx))⟩
theorem OwnR.set_ (h : OwnR w0 e size A n c xs wr) {b : Nat} (o : Nat) (u : Value) (hd : b ∉ blockOf A) (hb : w0.heap.size ≤ b) : OwnR w0 e size A n c xs (wr.setCell ⟨b, o, none⟩ u) :=
  h.far (F := [b]) ((Turn.refl _ _).setCell (.inl (by simp)) _) (fun k hk hk' => by simp at hk'; subst hk'; exact hd hk) (fun k hk => by simp at hk; subst hk; exact hb)
/-- behind an append onto it. -/
theorem OwnR.app (h : OwnR w0 e size A n c xs wr) (t1 : Turn [] wr w1) {v : Value} (hg : w1.grownBy w2 (Value.slice A n c).ownBlock) (ho : w2.ownsRow 0 e size v m ys)
    (hb : v.ownBlock = (Value.slice A n c).ownBlock ∨ v.ownBlock = some w1.heap.size) : ∃ A' c', v = .slice A' m c' ∧ OwnR w0 e size A' m c' ys w2 ∧ Turn (blockOf A) wr w2 := by
  obtain ⟨A', c', rfl⟩ := own_form ho
  have t2 : Turn (blockOf A) wr w2 := (t1.mono (G := blockOf A) (by simp)).grown hg (fun g hg' => .inl (mem_blockOf.1 hg'))
  refine ⟨A', c', rfl, ⟨ho, ?_, h.turn.trans t2 (fun x hx => .inr (h.new x hx))⟩, t2⟩
  intro k hk
  rcases hb with hb | hb
  · exact h.new k (mem_blockOf.1 (hb ▸ mem_blockOf.2 hk))
  · have h1 := (mem_blockOf (n := m) (c := c')).2 hk
    rw [hb] at h1
    injection h1 with h1
    have := h.turn.size
    have := t1.size
    omega
end
end Go.Proofs.Ytlnjemdnmndnfaa.K
