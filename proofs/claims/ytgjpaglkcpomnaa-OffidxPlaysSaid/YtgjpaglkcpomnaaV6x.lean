/- Two indexes that hold the same entries, the program's and the document's; they look alike: walked. -/
import Derived.Test.YtgjpaglkcpomnaaV5x
import Derived.Test.YtgjpaglkcpomnaaV0x
import Derived.Deep.DrawnRows
namespace Go.Proofs.Ytgjpaglkcpomnaa
set_option linter.unusedVariables false
set_option linter.unusedSimpArgs false
open Go.RowKit K

/-- the program's index in block b and the document's in block d hold l; S: the blocks that are their own. -/
def Pair (w : World) (S : List Nat) (b d : Nat) (l : List En) : Prop := ∃ F G, S = F ++ G ∧ Idx w F b l ∧ RIdx w G d l ∧ (∀ k ∈ F, k ∉ G) ∧ Rise l
theorem Pair.turn {w w1 : World} {S H : List Nat} {b d : Nat} {l : List En} (h : Pair w S b d l) (ht : Turn H w w1) (hd : ∀ k ∈ S, k ∉ H) : Pair w1 S b d l := by
  obtain ⟨F, G, rfl, hx, hy, ha, hr⟩ := h
  exact ⟨F, G, rfl, hx.turn ht (fun k hk => hd k (by simp [hk])), hy.turn ht (fun k hk => hd k (by simp [hk])), ha, hr⟩
theorem Pair.turn0 {w w1 : World} {S : List Nat} {b d : Nat} {l : List En} (h : Pair w S b d l) (ht : Turn [] w w1) : Pair w1 S b d l := h.turn ht (by simp)
theorem Pair.lt {w : World} {S : List Nat} {b d : Nat} {l : List En} (h : Pair w S b d l) : ∀ k ∈ S, k < w.heap.size := by
  obtain ⟨F, G, rfl, hx, hy, ha, hr⟩ := h
  intro k hk
  rcases List.mem_append.1 hk with hk | hk
  · exact hx.lt k hk
  · exact hy.lt k hk
theorem Pair.size {w : World} {S : List Nat} {b d : Nat} {l : List En} (h : Pair w S b d l) : l.length * 16 ≤ 140737488355328 := by
  obtain ⟨F, G, rfl, hx, hy, ha, hr⟩ := h
  obtain ⟨A, c, rfl, hb, ho, hsz⟩ := hx
  exact hsz

set_option maxHeartbeats 4000000 in
set_option maxRecDepth 100000 in
theorem looks_any {w : World} {S : List Nat} {b d : Nat} {l : List En} (h : Pair w S b d l) : Calls Try.prog 16 #[.pointer (some ⟨b, 0, none⟩), .pointer (some ⟨d, 0, none⟩)] w (Same (.bool true) w) := by
  obtain ⟨F, G, rfl, hx, hy, ha, hr⟩ := h
  obtain ⟨A, c, hcd, hrd, hm, hdw⟩ := hy.cell
  have HX := hide (fun wx (ht : Turn [] w wx) => hx.turn0 ht)
  have HY := hide (fun wx (ht : Turn [] w wx) => hy.turn0 ht)
  have HD := hide (fun wx (ht : Turn [] w wx) => (ht.cells0.1 d 0 hdw).trans hcd)
  have HR := hide (fun wx (ht : Turn [] w wx) => hrd.turn0 ht)
  obtain ⟨⟨⟨p, q⟩, ok⟩, hl⟩ : ∃ r, lastOf l = r := ⟨_, rfl⟩
  have HL := hide (fun wx (ht : Turn [] w wx) => hl ▸ last_at (hx.turn0 ht))
  have HM := hide (fun wx (ht : Turn [] w wx) => hl ▸ rlast (hy.turn0 ht))
  clear hx hy ha hr hcd hrd hl
  go_enter Try.func16, Try.ntmps16
  go_wp2_with fail
  refine (HL.out _ (Turn.refl _ _)).mono ?_
  rintro e w1 ⟨rfl, ht1⟩
  have HT1 := hide ht1
  clear ht1
  go_wp2_with fail
  refine (HM.out _ (by repeat first | exact HT1.out | exact Turn.refl _ _ | refine Turn.alloc ?_ _)).mono ?_
  rintro e w2 ⟨rfl, ht2⟩
  have hbx := (Blk.new w1 30 #[.int .i64 p, .int .i64 q]).turn ht2 (by simp)
  have hc10 : w2.cell? ⟨w1.heap.size, 0, none⟩ = some (.int .i64 p) := hbx.cell 0
  have hc11 : w2.cell? ⟨w1.heap.size, 1, none⟩ = some (.int .i64 q) := hbx.cell 1
  have hz1 := hbx.lt
  have HT2 := hide (Turn.trans0 (HT1.out.alloc _) ht2)
  clear ht2 hbx
  go_wp2_with fail
  have hbx2 := Blk.new w2 30 #[.int .i64 p, .int .i64 q]
  have HTW := hide (HT2.out.alloc (.cells #[.int .i64 p, .int .i64 q] 30))
  have hz2 : w2.heap.size < (w2.alloc (.cells #[.int .i64 p, .int .i64 q] 30)).heap.size := hbx2.lt
  have hz11 : w1.heap.size < (w2.alloc (.cells #[.int .i64 p, .int .i64 q] 30)).heap.size := by omega
  have HC10 : Hid ((w2.alloc (.cells #[.int .i64 p, .int .i64 q] 30)).cell? ⟨w1.heap.size, 0, none⟩ = some (.int .i64 p)) := hide (by go_simp)
  have HC11 : Hid ((w2.alloc (.cells #[.int .i64 p, .int .i64 q] 30)).cell? ⟨w1.heap.size, 1, none⟩ = some (.int .i64 q)) := hide (by go_simp)
  have HC20 : Hid ((w2.alloc (.cells #[.int .i64 p, .int .i64 q] 30)).cell? ⟨w2.heap.size, 0, none⟩ = some (.int .i64 p)) := hide (hbx2.cell 0)
  have HC21 : Hid ((w2.alloc (.cells #[.int .i64 p, .int .i64 q] 30)).cell? ⟨w2.heap.size, 1, none⟩ = some (.int .i64 q)) := hide (hbx2.cell 1)
  clear hc10 hc11 hbx2 HT2 HT1 hz1
  obtain ⟨n1, hn1⟩ : ∃ n, n = w1.heap.size := ⟨_, rfl⟩
  obtain ⟨n2, hn2⟩ : ∃ n, n = w2.heap.size := ⟨_, rfl⟩
  rw [← hn1] at HC10 HC11 hz11 ⊢
  rw [← hn2] at HC20 HC21 hz2 ⊢
  clear hn1 hn2
  generalize w2.alloc (.cells #[.int .i64 p, .int .i64 q] 30) = W at *
  have HS := hide (fun wx (ht : Turn [] W wx) => (⟨(ht.cells0.1 n1 0 hz11).trans HC10.out, (ht.cells0.1 n1 1 hz11).trans HC11.out, (ht.cells0.1 n2 0 hz2).trans HC20.out, (ht.cells0.1 n2 1 hz2).trans HC21.out, HD.out wx (HTW.out.trans0 ht)⟩ : wx.cell? ⟨n1, 0, none⟩ = some (.int .i64 p) ∧ wx.cell? ⟨n1, 1, none⟩ = some (.int .i64 q) ∧ wx.cell? ⟨n2, 0, none⟩ = some (.int .i64 p) ∧ wx.cell? ⟨n2, 1, none⟩ = some (.int .i64 q) ∧ wx.cell? ⟨d, 0, none⟩ = some (.slice A l.length c)))
  have HTWW : Hid (Turn [] W W) := hide (Turn.refl _ _)
  obtain ⟨hk1, hk2, hk3, hk4, hk5⟩ := HS.out W (Turn.refl _ _)
  clear HC10 HC11 HC20 HC21 hz11 hz2
  go_region_held3 (fun w' => w'.cell? ⟨n1, 0, none⟩ = some (.int .i64 p) ∧ w'.cell? ⟨n1, 1, none⟩ = some (.int .i64 q) ∧ w'.cell? ⟨n2, 0, none⟩ = some (.int .i64 p) ∧ w'.cell? ⟨n2, 1, none⟩ = some (.int .i64 q) ∧ w'.cell? ⟨d, 0, none⟩ = some (.slice A l.length c)) (go_keep)
    (first
    | (go_at_call 12; refine (len_at (HX.out _ ?_)).mono ?_; (exact (by repeat first | exact Turn.refl _ _ | exact (show Hid (Turn [] _ _) by assumption).out | refine Turn.drew ?_ | refine Turn.drewN ?_ _ | refine Turn.alloc ?_ _)); rintro e w' ⟨rfl, rfl⟩)
    | (go_at_call 36; refine (rlen (HY.out _ ?_)).mono ?_; (exact (by repeat first | exact Turn.refl _ _ | exact (show Hid (Turn [] _ _) by assumption).out | refine Turn.drew ?_ | refine Turn.drewN ?_ _ | refine Turn.alloc ?_ _)); rintro e w' ⟨rfl, rfl⟩)
    | (go_at_call 20; refine (entries_at (HX.out _ ?_)).mono ?_; (exact (by repeat first | exact Turn.refl _ _ | exact (show Hid (Turn [] _ _) by assumption).out | refine Turn.drew ?_ | refine Turn.drewN ?_ _ | refine Turn.alloc ?_ _)); rintro e w5 ⟨A5, c5, rfl, ht5, ho5, _⟩; have HO5 := hide (Reads.of_own ho5); have HTA := hide (Turn.pre (w := W) (by repeat first | exact Turn.refl _ _ | exact (show Hid (Turn [] _ _) by assumption).out | refine Turn.drew ?_ | refine Turn.drewN ?_ _ | refine Turn.alloc ?_ _) ht5); have HTB := hide (Turn.pre (w := w) (by repeat first | exact Turn.refl _ _ | exact (show Hid (Turn [] _ _) by assumption).out | refine Turn.drew ?_ | refine Turn.drewN ?_ _ | refine Turn.alloc ?_ _) ht5); clear ht5 ho5; obtain ⟨hk1, hk2, hk3, hk4, hk5⟩ := HS.out w5 HTA.out)
    | (go_at_call 24; refine (same_eq c5 c (HO5.out.turn0 ?_) (HR.out _ ?_) hm).mono ?_; (exact (by repeat first | exact Turn.refl _ _ | exact (show Hid (Turn [] _ _) by assumption).out | refine Turn.drew ?_ | refine Turn.drewN ?_ _ | refine Turn.alloc ?_ _)); (exact (by repeat first | exact Turn.refl _ _ | exact (show Hid (Turn [] _ _) by assumption).out | refine Turn.drew ?_ | refine Turn.drewN ?_ _ | refine Turn.alloc ?_ _)); rintro e w6 ⟨rfl, ht6⟩; have HTC := hide (Turn.pre (w := W) (by repeat first | exact Turn.refl _ _ | exact (show Hid (Turn [] _ _) by assumption).out | refine Turn.drew ?_ | refine Turn.drewN ?_ _ | refine Turn.alloc ?_ _) ht6); have HTD := hide (Turn.pre (w := w) (by repeat first | exact Turn.refl _ _ | exact (show Hid (Turn [] _ _) by assumption).out | refine Turn.drew ?_ | refine Turn.drewN ?_ _ | refine Turn.alloc ?_ _) ht6); clear ht6; obtain ⟨hk1, hk2, hk3, hk4, hk5⟩ := HS.out w6 HTC.out)
    | (go_at_call 21; refine (ibytes_at (HX.out _ ?_)).mono ?_; (exact (by repeat first | exact Turn.refl _ _ | exact (show Hid (Turn [] _ _) by assumption).out | refine Turn.drew ?_ | refine Turn.drewN ?_ _ | refine Turn.alloc ?_ _)); rintro e w7 ⟨rfl, ht7⟩; have HTE := hide (Turn.pre (w := W) (by repeat first | exact Turn.refl _ _ | exact (show Hid (Turn [] _ _) by assumption).out | refine Turn.drew ?_ | refine Turn.drewN ?_ _ | refine Turn.alloc ?_ _) ht7); have HTF := hide (Turn.pre (w := w) (by repeat first | exact Turn.refl _ _ | exact (show Hid (Turn [] _ _) by assumption).out | refine Turn.drew ?_ | refine Turn.drewN ?_ _ | refine Turn.alloc ?_ _) ht7); clear ht7; obtain ⟨hk1, hk2, hk3, hk4, hk5⟩ := HS.out w7 HTE.out)
    | (go_at_call 37; refine (rbytes (HY.out _ ?_)).mono ?_; (exact (by repeat first | exact Turn.refl _ _ | exact (show Hid (Turn [] _ _) by assumption).out | refine Turn.drew ?_ | refine Turn.drewN ?_ _ | refine Turn.alloc ?_ _)); rintro e w8 ⟨rfl, ht8⟩; have HTG := hide (Turn.pre (w := W) (by repeat first | exact Turn.refl _ _ | exact (show Hid (Turn [] _ _) by assumption).out | refine Turn.drew ?_ | refine Turn.drewN ?_ _ | refine Turn.alloc ?_ _) ht8); have HTH := hide (Turn.pre (w := w) (by repeat first | exact Turn.refl _ _ | exact (show Hid (Turn [] _ _) by assumption).out | refine Turn.drew ?_ | refine Turn.drewN ?_ _ | refine Turn.alloc ?_ _) ht8); clear ht8; obtain ⟨hk1, hk2, hk3, hk4, hk5⟩ := HS.out w8 HTG.out))
  all_goals
    go_wp2_with fail
    go_ret
    exact ⟨rfl, (by repeat first | exact Turn.refl _ _ | exact (show Hid (Turn [] _ _) by assumption).out | refine Turn.drew ?_ | refine Turn.drewN ?_ _ | refine Turn.alloc ?_ _)⟩

/-- one call on both went the same way. -/
def Stepped (S : List Nat) (b d : Nat) (L : List En) (w : World) (e : Ending) (w' : World) : Prop := e = .returned (.bool true) ∧ ∃ S', Pair w' S' b d L ∧ Turn S w w' ∧ ∀ k ∈ S', k ∈ S ∨ w.heap.size ≤ k
theorem Stepped.same {w w' : World} {S : List Nat} {b d : Nat} {l : List En} (h : Pair w S b d l) (ht : Turn [] w w') : Stepped S b d l w (.returned (.bool true)) w' :=
  ⟨rfl, S, h.turn0 ht, ht.mono (by simp), fun k hk => .inl hk⟩
/-- both indexes have been turned, the program's first. -/
theorem stepped_xy {w w1 w2 w3 w4 w5 : World} {F G F' G' : List Nat} {b d : Nat} {l L : List En} (hx : Idx w F b l) (hy : RIdx w G d l) (ha : ∀ k ∈ F, k ∉ G) (hr : Rise L)
    (t1 : Turn [] w w1) (t2 : Turn F w1 w2) (hx' : Idx w2 F' b L) (hF : ∀ k ∈ F', k ∈ F ∨ w1.heap.size ≤ k) (t3 : Turn [] w2 w3) (t4 : Turn G w3 w4) (hy' : RIdx w4 G' d L) (hG : ∀ k ∈ G', k ∈ G ∨ w3.heap.size ≤ k) (t5 : Turn [] w4 w5) :
    Stepped (F ++ G) b d L w (.returned (.bool true)) w5 := by
  have s1 := t1.size
  have s2 := t2.size
  have s3 := t3.size
  have hFG : ∀ k ∈ F', k ∉ G := fun k hk => by
    rcases hF k hk with h | h
    · exact ha k h
    · intro h'; have := hy.lt k h'; omega
  refine ⟨rfl, F' ++ G', ⟨F', G', rfl, ((hx'.turn0 t3).turn t4 hFG).turn0 t5, hy'.turn0 t5, ?_, hr⟩, ?_, ?_⟩
  · intro k hk hk'
    rcases hG k hk' with h | h
    · exact hFG k hk h
    · have := hx'.lt k hk; omega
  · have h1 : Turn (F ++ G) w w2 := (t1.mono (by simp)).trans t2 (fun x hx => .inl (by simp [hx]))
    exact ((h1.trans0 t3).trans t4 (fun x hx => .inl (by simp [hx]))).trans0 t5
  · intro k hk
    rcases List.mem_append.1 hk with h | h
    · rcases hF k h with h | h
      · exact .inl (by simp [h])
      · exact .inr (by omega)
    · rcases hG k h with h | h
      · exact .inl (by simp [h])
      · exact .inr (by omega)
/-- both indexes have been turned, the document's first. -/
theorem stepped_yx {w w1 w2 w3 w4 w5 : World} {F G F' G' : List Nat} {b d : Nat} {l L : List En} (hx : Idx w F b l) (hy : RIdx w G d l) (ha : ∀ k ∈ F, k ∉ G) (hr : Rise L)
    (t1 : Turn [] w w1) (t2 : Turn G w1 w2) (hy' : RIdx w2 G' d L) (hG : ∀ k ∈ G', k ∈ G ∨ w1.heap.size ≤ k) (t3 : Turn [] w2 w3) (t4 : Turn F w3 w4) (hx' : Idx w4 F' b L) (hF : ∀ k ∈ F', k ∈ F ∨ w3.heap.size ≤ k) (t5 : Turn [] w4 w5) :
    Stepped (F ++ G) b d L w (.returned (.bool true)) w5 := by
  have s1 := t1.size
  have s2 := t2.size
  have s3 := t3.size
  have hGF : ∀ k ∈ G', k ∉ F := fun k hk => by
    rcases hG k hk with h | h
    · intro h'; exact ha k h' h
    · intro h'; have := hx.lt k h'; omega
  refine ⟨rfl, F' ++ G', ⟨F', G', rfl, hx'.turn0 t5, ((hy'.turn0 t3).turn t4 hGF).turn0 t5, ?_, hr⟩, ?_, ?_⟩
  · intro k hk' hk
    rcases hF k hk' with h | h
    · exact hGF k hk h
    · have := hy'.lt k hk; omega
  · have h1 : Turn (F ++ G) w w2 := (t1.mono (by simp)).trans t2 (fun x hx => .inl (by simp [hx]))
    exact ((h1.trans0 t3).trans t4 (fun x hx => .inl (by simp [hx]))).trans0 t5
  · intro k hk
    rcases List.mem_append.1 hk with h | h
    · rcases hF k h with h | h
      · exact .inl (by simp [h])
      · exact .inr (by omega)
    · rcases hG k h with h | h
      · exact .inl (by simp [h])
      · exact .inr (by omega)
end Go.Proofs.Ytgjpaglkcpomnaa
