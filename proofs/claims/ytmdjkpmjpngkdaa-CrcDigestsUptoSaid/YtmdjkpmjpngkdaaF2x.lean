/- The statement over a script of a digest's calls, walked. -/
import Derived.Test.YtmdjkpmjpngkdaaF1x
import Derived.Test.YtmdjkpmjpngkdaaE4x
import Derived.Deep.DrawnRows
namespace Go.Proofs.Ytmdjkpmjpngkdaa
set_option linter.unusedVariables false
set_option linter.unusedSimpArgs false
open Go.RowKit K

abbrev Op := Int × ByteArray
def opsV (l : List Op) : List Value := l.flatMap fun o => [.int .i64 o.1, .string o.2]
theorem opsV_length (l : List Op) : (opsV l).length = l.length * 2 := by
  induction l with
  | nil => rfl
  | cons a l ih => simp [opsV] at ih ⊢; omega
theorem opsV_at (l : List Op) (k : Nat) (e : Op) (h : l[k]? = some e) : (opsV l)[k * 2]? = some (.int .i64 e.1) ∧ (opsV l)[k * 2 + 1]? = some (.string e.2) := by
  induction l generalizing k with
  | nil => simp at h
  | cons a l ih =>
    cases k with
    | zero => simp at h; subst h; exact ⟨rfl, rfl⟩
    | succ k =>
      have := ih k (by simpa using h)
      rw [show (k + 1) * 2 = k * 2 + 1 + 1 by omega]
      exact this
theorem reads_op {w : World} {A : Option Addr} {l : List Op} (h : Reads w 2 A l.length (opsV l)) {k : Nat} (hk : k < l.length) :
    ∃ g off, A = some ⟨g, off, none⟩ ∧ g < w.heap.size ∧ w.cell? ⟨g, off + k * 2, none⟩ = some (.int .i64 l[k].1) ∧ w.cell? ⟨g, off + k * 2 + 1, none⟩ = some (.string l[k].2) := by
  obtain ⟨g, off, hA, hg, hc⟩ := h.2 (by omega)
  have ⟨e1, e2⟩ := opsV_at l k l[k] (List.getElem?_eq_getElem hk)
  exact ⟨g, off, hA, hg, hc _ _ e1, by rw [Nat.add_assoc]; exact hc _ _ e2⟩
/-- how many letters the texts have. -/
def tot (l : List Op) : Nat := (l.map fun o => o.2.size).sum
theorem tot_take (l : List Op) (k : Nat) (h : k < l.length) : tot (l.take (k + 1)) = tot (l.take k) + l[k].2.size := by
  unfold tot
  rw [List.take_succ_eq_append_getElem h, List.map_append, List.sum_append]
  simp
theorem tot_le (l : List Op) (k : Nat) : tot (l.take k) ≤ tot l := by
  have h : tot l = tot (l.take k) + tot (l.drop k) := by
    unfold tot
    rw [← List.sum_append, ← List.map_append, List.take_append_drop]
  omega
theorem more_cat (s t : ByteArray) : more (more 0#32 s) t = more 0#32 (s ++ t) := (more_append 0#32 s t (s ++ t) (by simp [ByteArray.data_append])).symm
theorem empty_dig : more 0#32 ⟨#[]⟩ = 0#32 := by decide +kernel

theorem wr_dig {w4 : World} {b : Nat} {S t : ByteArray} (h : S.size + t.size ≤ 140737488351232) (hd : Dig w4 b (more (more 0#32 S) t) (wrap64 ((S.size : Int) + (t.size : Int)))) : Dig w4 b (more 0#32 (S ++ t)) (S ++ t).size := by
  rw [more_cat] at hd
  have : wrap64 ((S.size : Int) + (t.size : Int)) = ((S ++ t).size : Int) := by
    rw [len_append]
    unfold wrap64
    omega
  rwa [this] at hd
/-- the loop's: the digest in block b is that of s. -/
def DR (w : World) (L : List Op) (k b : Nat) (s : ByteArray) (wr : World) : Prop := Dig wr b (more 0#32 s) s.size ∧ w.heap.size ≤ b ∧ Turn [] w wr ∧ s.size ≤ tot (L.take k)

set_option maxHeartbeats 4000000 in
set_option maxRecDepth 100000 in
theorem digests_any (w : World) (A : Option Addr) (c : Nat) (L : List Op) (z : Bool) (hr : Reads w 2 A L.length (opsV L)) (hl : L.length ≤ 140737488351232) (ht : tot L ≤ 140737488351232) :
    Calls Try.prog 11 #[.slice A L.length c, .bool z] w fun e w' => e = .returned (.bool true) ∧ Turn [] w w' := by
  have HR := hide hr
  clear hr
  go_enter Try.func11, Try.ntmps11
  go_wp2_with fail
  refine (awake_any _).mono ?_
  rintro e w1 ⟨rfl, ht1⟩
  have HT1 := hide ht1
  clear ht1
  go_wp2_with fail
  refine (new_any _).mono ?_
  rintro e w2 ⟨b0, rfl, hb, ht2, hd2⟩
  have hb2 : w.heap.size ≤ b0 := by have := HT1.out.size; omega
  have HT2 := hide (HT1.out.trans0 ht2)
  have HD2 : Hid (DR w L 0 b0 ⟨#[]⟩ w2) := hide ⟨by rw [empty_dig]; exact hd2, hb2, HT2.out, Nat.zero_le _⟩
  have HD3 : Hid (DR w L 0 w2.heap.size ⟨#[]⟩ (w2.alloc (.cells #[.int .u32 0, .int .i64 0] 47))) := hide ⟨by rw [empty_dig]; exact Blk.new _ _ _, HT2.out.size, HT2.out.alloc _, Nat.zero_le _⟩
  clear ht2 hd2 hb
  cases z
  all_goals
    go_wp2_with fail
    go_loopw [5, 6, 7] (fun d s i wr => ∃ (k b : Nat) (S : ByteArray), k ≤ L.length ∧ i = .int .i64 k ∧ d = .pointer (some ⟨b, 0, none⟩) ∧ s = .string S ∧ DR w L k b S wr) (fun _ _ i _ => L.length - (intOf i).toNat)
    case atStart => exact ⟨0, _, _, Nat.zero_le _, rfl, rfl, rfl, by first | exact HD2.out | exact HD3.out⟩
    case round =>
      clear HD2 HD3 HT2 hb2
      obtain ⟨k, b, S, hk, rfl, rfl, rfl, hD⟩ := hrel
      by_cases hlt : k < L.length
      · obtain ⟨g, off, rfl, hg, hx, hy⟩ := reads_op (HR.out.turn0 hD.2.2.1) hlt
        have hS2 := hD.2.2.2
        have hS3 := tot_take L k hlt
        have hS4 := tot_le L (k + 1)
        have hsz : S.size + L[k].2.size ≤ tot (L.take (k + 1)) := by omega
        have hsz2 : S.size + L[k].2.size ≤ 140737488351232 := by omega
        have hszk : S.size ≤ tot (L.take (k + 1)) := by omega
        clear hS2 hS3 hS4
        have HSZ := hide hsz
        have HSK := hide hszk
        obtain ⟨q, hq⟩ : ∃ q, q = L[k] := ⟨_, rfl⟩
        rw [← hq] at hx hy hsz2 HSZ
        clear hq hsz hszk
        obtain ⟨kd, t⟩ := q
        have HD := hide hD
        have hbw := hD.1.lt
        clear hD
        have HDW := hide (fun wx (ht : Turn [] wr wx) => Blk.turn (F := []) HD.out.1 ht (by simp))
        have hne : b ≠ wr.heap.size := by omega
        by_cases h1 : kd = 1
        · subst h1
          go_wp2_with fail
          go_region_held3 (fun w' => w'.cell? ⟨wr.heap.size, 1, none⟩ = some (.string t)) (go_keep)
            (first | (go_at_call 27; refine (write_any _ b (more 0#32 S) S.size t (by omega) ?_).mono ?_; (exact HDW.out _ (by repeat first | exact Turn.refl _ _ | refine Turn.drew ?_ | refine Turn.drewN ?_ _ | refine Turn.alloc ?_ _)); rintro e w4 ⟨rfl, ht4, hd4⟩; have hc4 : w4.cell? ⟨wr.heap.size, 1, none⟩ = some (.string t) := (ht4.cell (by simp) (by simpa using Ne.symm hne)).trans (by simp [go_sem])))
          have HT4 := hide (Turn.pre (w := wr) (by repeat first | exact Turn.refl _ _ | refine Turn.drew ?_ | refine Turn.alloc ?_ _) ht4)
          have HD4 := hide (wr_dig hsz2 hd4)
          have HC4 := hide hc4
          have hc5 : w4.cell? ⟨wr.heap.size, 1, none⟩ = some (.string t) := hc4
          have hsi : (S.size : Int) + t.size ≤ 9223372036854775807 := by omega
          clear ht4 hd4 hc4
          go_wp2_with fail
          refine (seen_any _ b (S ++ t) (by rw [len_append]; omega) HD4.out).mono ?_
          rintro e w5 ⟨rfl, rfl⟩
          go_wp2_with fail
          exact ⟨⟨k + 1, b, S ++ t, by omega, by go_num, rfl, rfl, HD4.out, HD.out.2.1, HD.out.2.2.1.trans HT4.out (fun x hx => .inr (by simp at hx; subst hx; exact HD.out.2.1)), by rw [len_append]; exact HSZ.out⟩, by simp [intOf]; omega⟩
        · by_cases h2 : kd = 2
          · subst h2
            go_wp2_with fail
            refine (reset_any _ b (more 0#32 S) S.size (HDW.out _ (by repeat first | exact Turn.refl _ _ | refine Turn.drew ?_ | refine Turn.drewN ?_ _ | refine Turn.alloc ?_ _))).mono ?_
            rintro e w4 ⟨rfl, ht4, hd4⟩
            have HT4 := hide (Turn.pre (w := wr) (by repeat first | exact Turn.refl _ _ | refine Turn.drew ?_ | refine Turn.alloc ?_ _) ht4)
            have HD4 : Hid (Dig w4 b (more 0#32 ⟨#[]⟩) ((ByteArray.mk #[]).size : Int)) := hide (by rw [empty_dig]; exact hd4)
            clear ht4 hd4
            go_wp2_with fail
            refine (seen_any _ b ⟨#[]⟩ (by decide) HD4.out).mono ?_
            rintro e w5 ⟨rfl, rfl⟩
            go_wp2_with fail
            exact ⟨⟨k + 1, b, ⟨#[]⟩, by omega, by go_num, rfl, rfl, HD4.out, HD.out.2.1, HD.out.2.2.1.trans HT4.out (fun x hx => .inr (by simp at hx; subst hx; exact HD.out.2.1)), Nat.zero_le _⟩, by simp [intOf]; omega⟩
          · by_cases h3 : kd = 3
            · subst h3
              go_wp2_with fail
              refine (clone_any _ b (more 0#32 S) S.size (HDW.out _ (by repeat first | exact Turn.refl _ _ | refine Turn.drew ?_ | refine Turn.drewN ?_ _ | refine Turn.alloc ?_ _))).mono ?_
              rintro e w4 ⟨b', rfl, hb', ht4, hd4⟩
              have hsi : (S.size : Int) + t.size ≤ 9223372036854775807 := by omega
              have hcat : ∀ wx : World, (Op.stringOp .add S t).run Try.prog wx = .ok (.string (S ++ t)) wx := fun wx => run_string_add_sum wx S t (by omega)
              have hc4 : w4.cell? ⟨wr.heap.size, 1, none⟩ = some (.string t) := (ht4.cell (by simp) (by simp)).trans (by simp [go_sem])
              have hz4 : wr.heap.size < w4.heap.size := by have := ht4.size; simp at this; omega
              have hb4 : wr.heap.size + 1 ≤ b' := by simpa using hb'
              have HT4 := hide (Turn.pre (w := wr) (by repeat first | exact Turn.refl _ _ | refine Turn.drew ?_ | refine Turn.alloc ?_ _) ht4)
              have HD4 := hide (fun wx G (ht : Turn G w4 wx) (hG : b' ∉ G) => Blk.turn (F := G) hd4 ht hG)
              have HB4 := hide (fun wx (ht : Turn [] w4 wx) => Blk.turn (F := []) (HDW.out _ HT4.out) ht (by simp))
              clear ht4 hd4 hb'
              go_wp2_with fail
              go_region_held3 (fun w' => w'.cell? ⟨wr.heap.size, 1, none⟩ = some (.string t)) (go_keep)
                (first
                | (go_at_call_of 31 (Value.string S); refine (seen_any _ b' S (by omega) ?_).mono ?_; (exact HD4.out _ [] (by repeat first | exact Turn.refl _ _ | refine Turn.drew ?_ | refine Turn.drewN ?_ _ | refine Turn.alloc ?_ _) (by simp)); rintro e w5 ⟨rfl, rfl⟩)
                | (go_at_call 27; refine (write_any _ b (more 0#32 S) S.size t (by omega) ?_).mono ?_; (exact HB4.out _ (by repeat first | exact Turn.refl _ _ | refine Turn.drew ?_ | refine Turn.drewN ?_ _ | refine Turn.alloc ?_ _)); rintro e w5 ⟨rfl, ht5, hd5⟩; have hc5 : w5.cell? ⟨wr.heap.size, 1, none⟩ = some (.string t) := (ht5.cell (by simpa using hz4) (by simpa using Ne.symm hne)).trans (by simpa [go_sem] using hc4); have HT5 := hide ht5; have HD5 := hide (wr_dig hsz2 hd5); clear ht5 hd5)
                | (go_at_call_of 31 (Value.string (S ++ t)); refine (seen_any _ b (S ++ t) (by rw [len_append]; omega) ?_).mono ?_; (exact HD5.out); rintro e w5 ⟨rfl, rfl⟩))
              clear hcat
              go_wp2_with fail
              refine (seen_any _ b' S (by omega) (HD4.out _ [b] (Turn.pre (w := w4) (by repeat first | exact Turn.refl _ _ | refine Turn.drew ?_) HT5.out) (by simp; omega))).mono ?_
              rintro e w6 ⟨rfl, rfl⟩
              have HD6 := hide (HD4.out _ [b] (Turn.pre (w := w4) (by repeat first | exact Turn.refl _ _ | refine Turn.drew ?_) HT5.out) (by simp; omega))
              go_wp2_with fail
              exact ⟨⟨k + 1, b', S, by omega, by go_num, rfl, rfl, HD6.out, by have := HD.out.2.2.1.size; omega, (HD.out.2.2.1.trans0 HT4.out).trans (Turn.pre (w := w4) (by repeat first | exact Turn.refl _ _ | refine Turn.drew ?_) HT5.out) (fun x hx => .inr (by simp at hx; subst hx; exact HD.out.2.1)), HSK.out⟩, by simp [intOf]; omega⟩
            · have h1' : (kd == 1) = false := by simpa using h1
              have h2' : (kd == 2) = false := by simpa using h2
              have h3' : (kd == 3) = false := by simpa using h3
              clear h1 h2 h3
              go_wp2_with fail
              refine (seen_any _ b S (by omega) (HDW.out _ (by repeat first | exact Turn.refl _ _ | refine Turn.drew ?_ | refine Turn.drewN ?_ _ | refine Turn.alloc ?_ _))).mono ?_
              rintro e w5 ⟨rfl, rfl⟩
              go_wp2_with fail
              exact ⟨⟨k + 1, b, S, by omega, by go_num, rfl, rfl, HDW.out _ (by repeat first | exact Turn.refl _ _ | refine Turn.drew ?_ | refine Turn.drewN ?_ _ | refine Turn.alloc ?_ _), HD.out.2.1, HD.out.2.2.1.trans0 (by repeat first | exact Turn.refl _ _ | refine Turn.drew ?_ | refine Turn.drewN ?_ _ | refine Turn.alloc ?_ _), HSK.out⟩, by simp [intOf]; omega⟩
      · obtain rfl : k = L.length := by omega
        have HT := hide hD.2.2.1
        clear hD
        go_wp2_with fail
        refine (nreset_any _).mono ?_
        rintro e w5 ⟨rfl, rfl⟩
        go_wp2_with fail
        refine (nwrite_any _ _).mono ?_
        rintro e w5 ⟨rfl, rfl⟩
        go_wp2_with fail
        refine (nsum_any _).mono ?_
        rintro e w5 ⟨rfl, rfl⟩
        go_wp2_with fail
        refine (nlen_any _).mono ?_
        rintro e w5 ⟨rfl, rfl⟩
        go_wp2_with fail
        refine (nclone_any _).mono ?_
        rintro e w5 ⟨rfl, rfl⟩
        go_wp2_with fail
        go_ret
        exact ⟨rfl, HT.out⟩
end Go.Proofs.Ytmdjkpmjpngkdaa
