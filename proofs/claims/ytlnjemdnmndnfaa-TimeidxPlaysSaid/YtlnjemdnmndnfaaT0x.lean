/- Entries as pairs of numbers, what an index of times answers, its search: plain lists, no program. -/
import Derived.Test.YtlnjemdnmndnfaaRow
namespace Go.Proofs.Ytlnjemdnmndnfaa
set_option linter.unusedVariables false
set_option linter.unusedSimpArgs false
open Go.RowKit K

abbrev En := Int × Int
def entV (e : En) : Value := .agg #[.int .i64 e.1, .int .i64 e.2]
def ents (l : List En) : List Value := l.flatMap fun e => [.int .i64 e.1, .int .i64 e.2]

theorem ents_nil : ents [] = [] := rfl
theorem ents_append (l m : List En) : ents (l ++ m) = ents l ++ ents m := by simp [ents]
theorem ents_length (l : List En) : (ents l).length = l.length * 2 := by
  induction l with
  | nil => rfl
  | cons e l ih => simp [ents] at ih ⊢; omega
theorem ents_at (l : List En) (k : Nat) (e : En) (h : l[k]? = some e) : (ents l)[k * 2]? = some (.int .i64 e.1) ∧ (ents l)[k * 2 + 1]? = some (.int .i64 e.2) := by
  induction l generalizing k with
  | nil => simp at h
  | cons d l ih =>
    cases k with
    | zero => simp at h; subst h; simp [ents]
    | succ k =>
      simp at h
      have := ih k h
      simp only [ents, List.flatMap_cons] at this ⊢
      rw [show (k + 1) * 2 = (k * 2) + 2 by omega, show (k * 2) + 2 + 1 = (k * 2 + 1) + 2 by omega]
      exact this
theorem ents_take (l : List En) (k : Nat) : (ents l).take (k * 2) = ents (l.take k) := by
  induction l generalizing k with
  | nil => simp [ents]
  | cons d l ih =>
    cases k with
    | zero => simp [ents]
    | succ k =>
      have := ih k
      simp only [ents, List.flatMap_cons, List.take_succ_cons] at this ⊢
      rw [show (k + 1) * 2 = (k * 2) + 2 by omega]
      simp [this]
theorem ents_oneCell (l : List En) : ∀ u ∈ ents l, u.oneCell' = true := by
  intro u hu
  simp [ents] at hu
  obtain ⟨a, b, _, rfl | rfl⟩ := hu <;> rfl

/-- the entry number i. -/
def entryOf (l : List En) (i : Int) : En × Bool := if 0 ≤ i ∧ i < l.length then (l.getD i.toNat (0, 0), true) else ((0, 0), false)
def lastOf (l : List En) : En × Bool := entryOf l ((l.length : Int) - 1)
/-- may it be laid behind the others? -/
def fits (l : List En) (e : En) : Bool := l.isEmpty || (decide ((lastOf l).1.2 < e.2) && decide ((lastOf l).1.1 ≤ e.1))
/-- what Append answers, and makes of the entries. -/
def appE (l : List En) (e : En) : Int := if e.2 < 0 then 1 else if fits l e = true then 0 else 30
def appL (l : List En) (e : En) : List En := if e.2 < 0 then l else if fits l e = true then l ++ [e] else l

theorem entryOf_in {l : List En} {k : Nat} (h : k < l.length) : entryOf l (k : Int) = (l[k], true) := by
  unfold entryOf
  rw [if_pos (by omega)]
  simp [h]
theorem entryOf_out {l : List En} {i : Int} (h : i < 0 ∨ (l.length : Int) ≤ i) : entryOf l i = ((0, 0), false) := by
  unfold entryOf
  rw [if_neg (by omega)]
theorem lastOf_nil : lastOf [] = ((0, 0), false) := rfl
theorem lastOf_pos {l : List En} (h : 0 < l.length) : lastOf l = (l[l.length - 1], true) := by
  unfold lastOf
  rw [show ((l.length : Int) - 1) = ((l.length - 1 : Nat) : Int) by omega]
  exact entryOf_in (by omega)
theorem lastOf_snoc (l : List En) (e : En) : lastOf (l ++ [e]) = (e, true) := by
  rw [lastOf_pos (by simp)]; simp

/-- a slice that reads as entries: what a walk reads of number k. -/
theorem reads_ent {w : World} {A : Option Addr} {l : List En} (h : Reads w 2 A l.length (ents l)) {k : Nat} (hk : k < l.length) :
    ∃ g off, A = some ⟨g, off, none⟩ ∧ g < w.heap.size ∧ w.cell? ⟨g, off + k * 2, none⟩ = some (.int .i64 l[k].1) ∧ w.cell? ⟨g, off + k * 2 + 1, none⟩ = some (.int .i64 l[k].2) := by
  obtain ⟨g, off, hA, hg, hc⟩ := h.2 (by omega)
  obtain ⟨h1, h2⟩ := ents_at l k l[k] (List.getElem?_eq_getElem hk)
  exact ⟨g, off, hA, hg, hc _ _ h1, hc _ _ h2⟩

/-- the keys do not fall. -/
def Mono (l : List En) : Prop := ∀ i j (hj : j < l.length) (hi : i < j), (l[i]'(by omega)).1 ≤ l[j].1
/-- all entries ahead of number i are at most key, none from j on; k looks have been taken. -/
structure Srch (l : List En) (key : Int) (k i j : Nat) : Prop where
  ij : i ≤ j
  jn : j ≤ l.length
  lo : ∀ m (h : m < l.length), m < i → l[m].1 ≤ key
  hi : ∀ m (h : m < l.length), j ≤ m → key < l[m].1
  few : 2 ^ k * (j - i) ≤ l.length
  was : k = 0 ∨ 2 ^ (k - 1) ≤ l.length
  some_ : k = 0 → i = 0 ∧ j = l.length
theorem Srch.start (l : List En) (key : Int) : Srch l key 0 0 l.length :=
  ⟨by omega, by omega, fun _ _ h => by omega, fun _ _ _ => by omega, by simp, .inl rfl, fun _ => ⟨rfl, rfl⟩⟩
theorem Srch.k_lt {l : List En} {key : Int} {k i j : Nat} (h : Srch l key k i j) (hl : l.length ≤ 9223372036854775807) : k < 64 := by
  rcases h.was with h | h
  · omega
  · rcases Nat.lt_or_ge k 64 with h1 | h1
    · exact h1
    · have := Nat.pow_le_pow_right (n := 2) (by omega) (show 63 ≤ k - 1 by omega)
      omega
theorem pow_half {k d d' n : Nat} (h : 2 ^ k * d ≤ n) (h2 : d' * 2 ≤ d) : 2 ^ (k + 1) * d' ≤ n := by
  rw [Nat.pow_succ, Nat.mul_assoc, Nat.mul_comm 2 d']
  exact Nat.le_trans (Nat.mul_le_mul_left _ h2) h
theorem Srch.right {l : List En} {key : Int} {k i j m : Nat} (h : Srch l key k i j) (hr : Mono l) (hij : i < j) (hm : m = (i + j) / 2) (hml : m < l.length) (hk : l[m].1 ≤ key) : Srch l key (k + 1) (m + 1) j := by
  have h1 := h.jn
  refine ⟨by omega, h1, ?_, h.hi, pow_half h.few (by omega), .inr ?_, by omega⟩
  · intro m' hm' hlt
    rcases Nat.lt_or_ge m' m with h2 | h2
    · have := hr m' m hml h2; omega
    · have : m' = m := by omega
      subst this; exact hk
  · have := h.few
    have h3 : 2 ^ k * 1 ≤ 2 ^ k * (j - i) := Nat.mul_le_mul_left _ (by omega)
    simp; omega
theorem Srch.left {l : List En} {key : Int} {k i j m : Nat} (h : Srch l key k i j) (hr : Mono l) (hij : i < j) (hm : m = (i + j) / 2) (hml : m < l.length) (hk : key < l[m].1) : Srch l key (k + 1) i m := by
  have h1 := h.jn
  refine ⟨by omega, by omega, h.lo, ?_, pow_half h.few (by omega), .inr ?_, by omega⟩
  · intro m' hm' hlt
    rcases Nat.lt_or_ge m m' with h2 | h2
    · have := hr m m' hm' h2; omega
    · have : m' = m := by omega
      subst this; exact hk
  · have := h.few
    have h3 : 2 ^ k * 1 ≤ 2 ^ k * (j - i) := Nat.mul_le_mul_left _ (by omega)
    simp; omega


theorem mono_nil : Mono [] := fun i j hj => by simp at hj
theorem fits_nil (e : En) : fits [] e = true := rfl
theorem fits_pos {l : List En} (h : 0 < l.length) (e : En) : fits l e = true ↔ l[l.length - 1].2 < e.2 ∧ l[l.length - 1].1 ≤ e.1 := by
  have : l ≠ [] := by rintro rfl; simp at h
  unfold fits
  rw [lastOf_pos h]
  simp [this]
theorem mono_appL {l : List En} (h : Mono l) (e : En) : Mono (appL l e) := by
  unfold appL
  split
  · exact h
  · split
    · rename_i hf
      intro i j hj hij
      by_cases hjl : j < l.length
      · have := h i j hjl hij
        rw [List.getElem_append_left (by omega), List.getElem_append_left hjl]
        exact this
      · have hj2 : j = l.length := by simp at hj; omega
        subst hj2
        have hpos : 0 < l.length := by omega
        have h1 := ((fits_pos hpos e).1 hf).2
        rw [List.getElem_append_left (by omega), List.getElem_append_right (by omega)]
        simp
        by_cases hi : i = l.length - 1
        · subst hi; exact h1
        · have := h i (l.length - 1) (by omega) (by omega)
          omega
    · exact h
/-- the last entry whose key is below t. -/
def findOf (l : List En) (t : Int) : En × Bool := match l.reverse.find? (fun e => decide (e.1 < t)) with | some e => (e, true) | none => ((0, 0), false)
theorem findOf_none {l : List En} {t : Int} (h : ∀ m (hm : m < l.length), t ≤ l[m].1) : findOf l t = ((0, 0), false) := by
  unfold findOf
  rw [List.find?_eq_none.2]
  intro e he
  obtain ⟨m, hm, rfl⟩ := List.mem_iff_getElem.1 (List.mem_reverse.1 he)
  have := h m hm
  simp
  omega
theorem findOf_some {l : List En} {t : Int} {m : Nat} (hm : m < l.length) (h : l[m].1 < t) (hl : ∀ m' (h : m' < l.length), m < m' → t ≤ l[m'].1) : findOf l t = (l[m], true) := by
  have e : l = l.take m ++ l[m] :: l.drop (m + 1) := by rw [← List.drop_eq_getElem_cons hm, List.take_append_drop]
  have h2 : l.reverse = (l.drop (m + 1)).reverse ++ l[m] :: (l.take m).reverse := by
    conv => lhs; rw [e]
    simp
  unfold findOf
  rw [h2, List.find?_append, List.find?_eq_none.2]
  · simp [h]
  · intro x hx
    obtain ⟨i, hi, rfl⟩ := List.mem_iff_getElem.1 (List.mem_reverse.1 hx)
    have hi' : m + 1 + i < l.length := by simp at hi; omega
    have := hl (m + 1 + i) hi' (by omega)
    simp
    omega
/-- the search has ended: it is the entry ahead of number i. -/
theorem Srch.findOf {l : List En} {t : Int} {k i : Nat} (h : Srch l (t - 1) k i i) : entryOf l ((i : Int) - 1) = findOf l t := by
  rcases Nat.eq_zero_or_pos i with h0 | h0
  · subst h0
    rw [entryOf_out (by omega), findOf_none (fun m hm => by have := h.hi m hm (by omega); omega)]
  · obtain ⟨m, rfl⟩ : ∃ m, i = m + 1 := ⟨i - 1, by omega⟩
    have hm : m < l.length := by have := h.jn; omega
    rw [show (((m + 1 : Nat) : Int) - 1) = (m : Int) by omega, entryOf_in hm, findOf_some hm (by have := h.lo m hm (by omega); omega) (fun m' h1 h2 => by have := h.hi m' h1 (by omega); omega)]
/-- how many looks are allowed. -/
def Lks (n : Nat) (K : Int) : Prop := (n = 0 ∧ K = 0) ∨ ∃ s : Nat, 1 ≤ n ∧ n / 2 ^ s ≤ 1 ∧ s ≤ 64 ∧ K = 2 + s
theorem most_enough {n s k : Nat} (hn : n / 2 ^ s ≤ 1) (hk : k = 0 ∨ 2 ^ (k - 1) ≤ n) : k ≤ 2 + s := by
  rcases hk with h | h
  · omega
  · have h1 : n < 2 ^ (s + 1) := by
      have h2 : n < 2 ^ s * (1 + 1) := by
        rcases Nat.lt_or_ge n (2 ^ s * (1 + 1)) with h3 | h3
        · exact h3
        · have := (Nat.le_div_iff_mul_le (Nat.two_pow_pos s)).2 (by rw [Nat.mul_comm]; exact h3)
          omega
      rw [Nat.pow_succ]; omega
    have h4 : k - 1 < s + 1 := (Nat.pow_lt_pow_iff_right (by omega)).1 (Nat.lt_of_le_of_lt h h1)
    omega
theorem half_s {n s : Nat} (hn : n ≤ 9223372036854775807) (h : 1 < n / 2 ^ s) : s < 64 := by
  rcases Nat.lt_or_ge s 64 with h1 | h1
  · exact h1
  · have h2 := Nat.pow_le_pow_right (n := 2) (by omega) h1
    have h3 : n / 2 ^ s = 0 := Nat.div_eq_of_lt (by omega)
    omega
theorem looks_enough {n k : Nat} {K : Int} (h : k = 0 ∨ 2 ^ (k - 1) ≤ n) (h0 : n = 0 → k = 0) (hK : Lks n K) : (k : Int) ≤ K := by
  rcases hK with ⟨hn, rfl⟩ | ⟨s, hn, hs, _, rfl⟩
  · have := h0 hn; omega
  · have := most_enough hs h; omega
def cutE (l : List En) (n : Int) : Int := if 0 ≤ n ∧ n ≤ l.length then 0 else 1
def cutL (l : List En) (n : Int) : List En := if 0 ≤ n ∧ n ≤ l.length then l.take n.toNat else l
theorem cutL_length (l : List En) (n : Int) : (cutL l n).length ≤ l.length := by unfold cutL; split <;> simp; omega
theorem mono_cutL {l : List En} (h : Mono l) (n : Int) : Mono (cutL l n) := by
  unfold cutL
  split
  · intro i j hj hij
    have hj' : j < l.length := by simp at hj; omega
    have := h i j hj' hij
    simpa using this
  · exact h
theorem appL_length (l : List En) (e : En) : (appL l e).length ≤ l.length + 1 := by
  unfold appL
  split
  · omega
  · split <;> simp

/-- an index in memory, the program's (t its type) or the document's: its block, the row that it owns, the entries. F: the blocks that are its own. -/
def Ix (t : Nat) (w : World) (F : List Nat) (b : Nat) (l : List En) : Prop :=
  ∃ A c, F = b :: blockOf A ∧ Blk w b t #[.slice A l.length c] ∧ w.ownsRow 0 29 2 (.slice A l.length c) l.length (ents l) ∧ l.length * 16 ≤ 140737488355328
section
variable {t : Nat} {w w1 : World} {F G : List Nat} {b : Nat} {l : List En}
theorem Ix.lt (h : Ix t w F b l) : ∀ k ∈ F, k < w.heap.size := by
  obtain ⟨A, c, rfl, hb, ho, hsz⟩ := h
  intro k hk
  simp only [List.mem_cons] at hk
  rcases hk with rfl | hk
  · exact hb.lt
  · exact (ho.lt k (mem_blockOf.2 hk)).2
theorem Ix.mem (h : Ix t w F b l) : b ∈ F := by
  obtain ⟨A, c, rfl, hb, ho, hsz⟩ := h
  simp
theorem Ix.turn (h : Ix t w F b l) (ht : Turn G w w1) (hd : ∀ k ∈ F, k ∉ G) : Ix t w1 F b l := by
  obtain ⟨A, c, rfl, hb, ho, hsz⟩ := h
  exact ⟨A, c, rfl, hb.turn ht (hd _ (by simp)), own_turn ho ht (fun g hg => hd g (by simp [mem_blockOf.1 hg])), hsz⟩
theorem Ix.turn0 (h : Ix t w F b l) (ht : Turn [] w w1) : Ix t w1 F b l := h.turn ht (by simp)
theorem Ix.cell (h : Ix t w F b l) : ∃ A c, w.cell? ⟨b, 0, none⟩ = some (.slice A l.length c) ∧ Reads w 2 A l.length (ents l) ∧ l.length * 16 ≤ 140737488355328 ∧ b < w.heap.size ∧ l.length ≤ c := by
  obtain ⟨A, c, rfl, hb, ho, hsz⟩ := h
  exact ⟨A, c, hb.cell 0, Reads.of_own ho, hsz, hb.lt, own_cap ho⟩
theorem Ix.size (h : Ix t w F b l) : l.length * 16 ≤ 140737488355328 := by obtain ⟨A, c, rfl, hb, ho, hsz⟩ := h; exact hsz
end
end Go.Proofs.Ytlnjemdnmndnfaa
