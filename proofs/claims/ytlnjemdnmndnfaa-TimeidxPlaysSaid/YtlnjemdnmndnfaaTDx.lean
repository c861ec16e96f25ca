/- TimeidxBack, walked. -/
import Derived.Test.YtlnjemdnmndnfaaTBx
import Derived.Test.YtlnjemdnmndnfaaOpens3
import Derived.Sort.AtCall
namespace Go.Proofs.Ytlnjemdnmndnfaa
set_option linter.unusedVariables false
set_option linter.unusedSimpArgs false
open Go.RowKit K

set_option maxHeartbeats 1600000 in
set_option maxRecDepth 100000 in
theorem read_no2 (w : World) (s : ByteArray) (hs : s.size ≤ 140737488355328) (h : s.size % 16 ≠ 0) : Calls Try.prog 24 #[.string s] w (LoadNo 29 w) := by
  have hm : ((s.size : Int) % 16 == 0) = false := by rw [beq_eq_false_iff_ne]; omega
  go_enter Try.func24, Try.ntmps24
  go_wp2_with fail
  go_ret2
  exact ⟨rfl, Turn.refl _ _⟩
theorem wf_u16 {n : Int} (h : (Lit.int .u16 n).wf = true) : 0 ≤ n ∧ n ≤ 65535 := by
  have h1 : IntKind.u16.min = 0 := rfl
  have h2 : IntKind.u16.max = 65535 := rfl
  simp only [Lit.wf, Bool.and_eq_true, decide_eq_true_eq] at h
  omega
/-- each entry fits behind those ahead of it. -/
def Good (l : List En) : Prop := ∀ k (h : k < l.length), appE (l.take k) l[k] = 0
theorem good_nil : Good [] := fun k h => by simp at h
theorem good_snoc {l : List En} {e : En} (h : Good l) (he : appE l e = 0) : Good (l ++ [e]) := by
  intro k hk
  by_cases hkl : k < l.length
  · rw [List.take_append_of_le_length (by omega), List.getElem_append_left hkl]; exact h k hkl
  · have : k = l.length := by simp at hk; omega
    subst this
    simpa using he
theorem good_take {l : List En} (h : Good l) (m : Nat) : Good (l.take m) := by
  intro k hk
  have hk' : k < m ∧ k < l.length := by simp at hk; omega
  rw [List.take_take, Nat.min_eq_left (by omega), List.getElem_take]
  exact h k hk'.2
theorem load_good {L : List En} (h : Good L) : loadOf [] L = (some L, 0) := by
  have hk : ∀ k, k ≤ L.length → loadOf [] L = loadOf (L.take k) (L.drop k) := by
    intro k
    induction k with
    | zero => intro _; simp
    | succ k ih => intro hk; rw [ih (by omega)]; exact loadOf_step (by omega) (h k (by omega))
  rw [hk L.length (Nat.le_refl _), List.take_of_length_le (Nat.le_refl _), List.drop_of_length_le (Nat.le_refl _)]
  rfl
theorem putB_snoc (l : List En) (e : En) : putB (l ++ [e]) = putB l ++ formB e := by simp [putB]
theorem putB_cut (l : List En) (m : Nat) (hm : m ≤ l.length) : (putB l).take (16 * m) = putB (l.take m) := by
  have h1 : putB l = putB (l.take m) ++ putB (l.drop m) := by unfold putB; rw [← List.flatMap_append, List.take_append_drop]
  rw [h1, List.take_left']
  rw [putB_length, List.length_take]
  omega
theorem readL_putB (l : List En) (h : ∀ e ∈ l, inR e) : readL l.length (putB l) = l := by
  induction l with
  | nil => rfl
  | cons e l ih =>
    have he := h e (by simp)
    have hl : formB e = Wire.be8 e.1 ++ Wire.be8 e.2 := rfl
    have h8 := Wire.be8_length e.1
    have h8' := Wire.be8_length e.2
    have hp : putB (e :: l) = Wire.be8 e.1 ++ (Wire.be8 e.2 ++ putB l) := by simp [putB, hl]
    rw [List.length_cons, readL, hp]
    rw [List.take_left' h8, List.drop_left' h8, List.take_left' h8', Wire.rd8_be8 _ he.1.1 he.1.2, Wire.rd8_be8 _ he.2.1 he.2.2]
    rw [show 16 = 8 + 8 from rfl, ← List.drop_drop, List.drop_left' h8, List.drop_left' h8', ih (fun x hx => h x (by simp [hx]))]

set_option maxHeartbeats 8000000 in
set_option maxRecDepth 100000 in
theorem back_any (w : World) (A : Option Addr) (c : Nat) (L : List En) (hin : ∀ e ∈ L, inR e) (cut : Int) (hcut : 0 ≤ cut ∧ cut ≤ 65535) (hr : Reads w 2 A L.length (ents L)) (hsz : L.length * 16 ≤ 140737488351232) :
    Calls Try.prog 7 #[.slice A L.length c, .int .u16 cut] w (Same (.bool true) w) := by
  have HR := hide hr
  have HIn := hide hin
  clear hr hin
  go_enter Try.func7, Try.ntmps7
  go_wp2_with fail
  refine (finds_any _).mono ?_
  rintro e w1 ⟨rfl, ht1⟩
  have HT1 := hide ht1
  clear ht1
  go_wp2_with fail
  refine (new_any _).mono ?_
  rintro e w2 ⟨b, rfl, hb, ht2, hx2⟩
  have HT2 := hide (HT1.out.trans0 ht2)
  have HF2 : Hid (∀ k ∈ [b], w.heap.size ≤ k) := hide (by have := HT1.out.size; intro k hk; simp at hk; omega)
  have HX2 := hide hx2
  clear ht2 hx2 hb HT1
  go_wp2_with fail
  go_loopw [6, 19] (fun s i wr => ∃ (k : Nat) (F : List Nat) (l : List En), k ≤ L.length ∧ i = .int .i64 k ∧ s = .string (strOf (putB l)) ∧ l.length ≤ k ∧ Ix 45 wr F b l ∧ Good l ∧ (∀ e ∈ l, inR e) ∧ (∀ x ∈ F, w.heap.size ≤ x) ∧ Turn [] w wr) (fun _ i _ => L.length - (intOf i).toNat)
  case atStart => exact ⟨0, _, [], Nat.zero_le _, rfl, by trivial, by simp, HX2.out, good_nil, by simp, HF2.out, HT2.out⟩
  case round =>
    clear HX2 HF2 HT2
    obtain ⟨i, F, l, hi, rfl, rfl, hll, hx, hgd, hlr, hF, htr⟩ := hrel
    have HX := hide hx
    have HGd := hide hgd
    have HLr := hide hlr
    have HF := hide hF
    have HT := hide htr
    clear hx hgd hlr hF htr
    by_cases hlt : i < L.length
    · obtain ⟨p0, off, rfl, hg0, hx0, hx1⟩ := reads_ent (HR.out.turn0 HT.out) hlt
      have hopi := HIn.out L[i] (List.getElem_mem _)
      obtain ⟨⟨k, a⟩, hq⟩ : ∃ q, q = L[i] := ⟨_, rfl⟩
      rw [← hq] at hx0 hx1 hopi
      have HE : Hid (inR (k, a)) := hide hopi
      clear hq hopi
      have hsz1 : (l.length + 1) * 16 ≤ 140737488355328 := by omega
      go_wp2_with fail
      have HBz := hide (Blk.new wr 29 #[.int .i64 k, .int .i64 a])
      refine (app_at (HX.out.turn0 (by repeat first | exact Turn.refl _ _ | exact (show Hid (Turn [] _ _) by assumption).out | refine Turn.drew ?_ | refine Turn.drewN ?_ _ | refine Turn.alloc ?_ _)) k a hsz1).mono ?_
      rintro e w4 ⟨F4, rfl, ht4, hx4, hf4⟩
      have HB4 := hide (HBz.out.turn ht4 (fun hm => by have := HX.out.lt _ hm; omega))
      have HX4 := hide hx4
      have HT4 : Hid (Turn [] w w4) := hide ((HT.out.alloc _).trans ht4 (fun x hx => .inr (HF.out x hx)))
      have HF4 : Hid (∀ x ∈ F4, w.heap.size ≤ x) := hide (fun x hx => by
        rcases hf4 x hx with h | h
        · exact HF.out x h
        · have := (HT.out.alloc (.cells #[.int .i64 k, .int .i64 a] 29)).size; omega)
      have hk0 := HB4.out.cell 0
      have hk1 := HB4.out.cell 1
      have hzz := HB4.out.lt
      clear ht4 hx4 hf4 hx0 hx1 HBz HX HT
      by_cases hz : appE l (k, a) = 0
      · have hL := appL_of hz
        rw [hz]
        rw [hL] at HX4
        have HG4 := hide (good_snoc HGd.out hz)
        have HL4 : Hid (∀ e ∈ l ++ [(k, a)], inR e) := hide (fun e he => by
          rcases List.mem_append.1 he with h | h
          · exact HLr.out e h
          · simp at h; subst h; exact HE.out)
        have hS1 : (strOf (putB l)).size = l.length * 16 := by rw [strOf_size, putB_length]
        have hS2 : (strOf (formB (k, a))).size = 16 := by rw [strOf_size]; simp [formB, Wire.be8_length]
        have hcat : ∀ wx : World, (Op.stringOp .add (strOf (putB l)) (strOf (formB (k, a)))).run Try.prog wx = .ok (.string (strOf (putB (l ++ [(k, a)])))) wx := fun wx => by
          rw [run_string_add_sum wx _ _ (by rw [hS1, hS2]; omega), RW.strOf_append, putB_snoc]
        clear hz hL hS1 hS2
        go_wp2_with fail
        refine (form_any _ _ _).mono ?_
        rintro e w5 ⟨rfl, ht5⟩
        have HX5 := hide (HX4.out.turn0 ht5)
        have HT5 := hide (HT4.out.trans0 ht5)
        clear ht5
        go_wp2_with fail
        exact ⟨⟨i + 1, F4, l ++ [(k, a)], by omega, by go_num, rfl, by simp; omega, HX5.out, HG4.out, HL4.out, HF4.out, HT5.out⟩, by simp [intOf] <;> omega⟩
      · have hL : appL l (k, a) = l := by
          unfold appE at hz
          unfold appL
          split
          · rfl
          · rename_i h1; rw [if_neg h1] at hz
            split
            · rename_i h2; rw [if_pos h2] at hz; exact absurd rfl hz
            · rfl
        rw [hL] at HX4
        have hzb : (appE l (k, a) == 0) = false := by simpa using hz
        clear hz hL
        generalize appE l (k, a) = E at *
        go_wp2_with fail
        exact ⟨⟨i + 1, F4, l, by omega, by go_num, rfl, by omega, HX4.out, HGd.out, HLr.out, HF4.out, HT4.out⟩, by simp [intOf] <;> omega⟩
    · obtain rfl : i = L.length := by omega
      have HXw := hide (fun wx (ht : Turn [] wr wx) => HX.out.turn0 ht)
      have hss : (strOf (putB l)).size = l.length * 16 := by rw [strOf_size, putB_length]
      go_wp2_with fail
      refine (bytes_at (HXw.out _ (by repeat first | exact Turn.refl _ _ | exact (show Hid (Turn [] _ _) by assumption).out | refine Turn.drew ?_ | refine Turn.drewN ?_ _ | refine Turn.alloc ?_ _))).mono ?_
      rintro e w5 ⟨rfl, ht5⟩
      have HT5 := hide (HT.out.trans0 ht5)
      have HX5 := hide (HX.out.turn0 ht5)
      obtain ⟨s, hs⟩ : ∃ s, s = strOf (putB l) := ⟨_, rfl⟩
      rw [← hs] at hss ⊢
      have HS := hide hs
      clear hs ht5 HX HXw HT
      have hw16 : IntKind.i64.wrap ((l.length : Int) * 16) = (l.length : Int) * 16 := by rw [IntKind.wrap_i64]; omega
      have hsi : (s.size : Int) = (l.length : Int) * 16 := by omega
      have HSs := hide hss
      clear hss
      obtain ⟨n, hn⟩ : ∃ n : Nat, cut % ((l.length : Int) * 16 + 1) = (n : Int) := Int.eq_ofNat_of_zero_le (Int.emod_nonneg _ (by omega))
      have hnb : n ≤ l.length * 16 := by have := Int.emod_lt_of_pos cut (show (0 : Int) < (l.length : Int) * 16 + 1 by omega); omega
      have hb1 : (n : Int) ≤ (l.length : Int) * 16 := by omega
      have hb0 : (0 : Int) ≤ (n : Int) := by omega
      have HSc : Hid ((s.extract 0 n).data.toList = (putB l).take n ∧ (s.extract 0 n).size = n) := hide (by
        have h := Wire.str_cut s 0 n (by rw [HSs.out]; omega)
        rw [Nat.zero_add] at h
        rw [h.1, HS.out]
        exact ⟨rfl, HS.out ▸ h.2⟩)
      go_wp2_with fail
      refine (len_at HX5.out).mono ?_
      rintro e w' ⟨rfl, rfl⟩
      go_wp2_with fail
      obtain ⟨t, ht⟩ : ∃ t, t = s.extract 0 n := ⟨_, rfl⟩
      rw [← ht] at HSc ⊢
      by_cases hm : n % 16 = 0
      · obtain ⟨m, rfl⟩ : ∃ m, n = 16 * m := ⟨n / 16, by omega⟩
        have hml : m ≤ l.length := by omega
        have hlm : (l.take m).length = m := by rw [List.length_take]; omega
        have htl : t.data.toList = putB (l.take m) := by rw [HSc.out.1, putB_cut l m hml]
        have htt : t = strOf (putB (l.take m)) := by rw [← htl, strOf_self]
        have HL : Hid (∀ wx, Calls Try.prog 24 #[.string t] wx (LoadYes 45 (l.take m) wx)) := hide (fun wx => by
          have h := read_yes wx t m HSc.out.2 (by have := HSc.out.2; omega)
          have hr : readL m t.data.toList = l.take m := by
            have h2 := readL_putB (l.take m) (fun e he => HLr.out e (List.mem_of_mem_take he))
            rw [hlm] at h2
            rw [htl, h2]
          rw [hr, load_good (good_take HGd.out m)] at h
          exact h.mono fun e w' h => h.1 _ rfl)
        have hcE : cutE l m = 0 ∧ cutL l m = l.take m := by
          unfold cutE cutL
          rw [if_pos (by omega), if_pos (by omega)]
          exact ⟨rfl, rfl⟩
        have HC : Hid (∀ wx K, K = (m : Int) → Turn [] w5 wx → Calls Try.prog 16 #[.pointer (some ⟨b, 0, none⟩), .int .i64 K] wx (App 45 0 (l.take m) F b wx)) := hide (fun wx K hK ht => by
          subst hK
          have h := cut_at (HX5.out.turn0 ht) m
          rw [hcE.1, hcE.2] at h
          exact h)
        have HBs : Hid (∀ wx (F : List Nat) (b : Nat), Ix 45 wx F b (l.take m) → Calls Try.prog 22 #[.pointer (some ⟨b, 0, none⟩)] wx (Same (.string t) wx)) := hide (fun wx F b h => by rw [htt]; exact bytes_at h)
        have hts : s.extract 0 ((16 * m : Nat) : Int).toNat = t := by rw [Int.toNat_natCast]; exact ht.symm
        have hmz : (((16 * m : Nat) : Int) % 16 == 0) = true := by rw [beq_iff_eq]; omega
        have HQ : Hid (IntKind.i64.wrap (Int.tdiv ((16 * m : Nat) : Int) 16) = (m : Int)) := hide (by rw [Int.tdiv_eq_ediv_of_nonneg (by omega), IntKind.wrap_i64]; omega)
        have hsx : (s ++ ⟨#[120]⟩).size = l.length * 16 + 1 := by rw [ByteArray.size_append, HSs.out]; rfl
        have HSx := hide hsx
        have hxi : ((s ++ ⟨#[120]⟩).size : Int) = (l.length : Int) * 16 + 1 := by rw [hsx]; omega
        clear hlm htl htt hcE ht hsx hxi
        refine (HL.out _).mono ?_
        rintro e w6 ⟨Fy, y, rfl, ht6, hy6, hny, _⟩
        have HT6 := hide (HT5.out.trans0 ht6)
        have HU6 := hide ht6
        have HY6 := hide hy6
        have HNy : Hid (∀ k ∈ Fy, k ∉ F) := hide (fun k hk hk' => by have := hny k hk; have := HX5.out.lt k hk'; omega)
        clear ht6 hy6 hny HX5
        generalize hN : ((16 * m : Nat) : Int) = N at *
        go_wp2_with fail
        go_region_held3 (fun w' => True) (trivial)
          (first
          | (go_at_call_has 22 (Value.pointer (some ⟨y, 0, none⟩)); refine (HBs.out _ Fy y ?_).mono ?_; (exact HY6.out.turn0 (by repeat first | exact Turn.refl _ _ | exact (show Hid (Turn [] _ _) by assumption).out | refine Turn.drew ?_ | refine Turn.drewN ?_ _ | refine Turn.alloc ?_ _)); rintro e w7 ⟨rfl, ht7⟩; have HU7 := hide (Turn.pre (w := w6) (by repeat first | exact Turn.refl _ _ | exact (show Hid (Turn [] _ _) by assumption).out | refine Turn.drew ?_ | refine Turn.drewN ?_ _ | refine Turn.alloc ?_ _) ht7); clear ht7)
          | (go_at_call 16; refine (HC.out _ _ ?_ ?_).mono ?_; (exact HQ.out); (exact HU6.out.trans0 (by repeat first | exact Turn.refl _ _ | exact (show Hid (Turn [] _ _) by assumption).out | refine Turn.drew ?_ | refine Turn.drewN ?_ _ | refine Turn.alloc ?_ _)); rintro e w8 ⟨F8, rfl, ht8, hx8, hf8⟩; have HX8 := hide hx8; have HT8 := hide ((HT6.out.trans0 (by repeat first | exact Turn.refl _ _ | exact (show Hid (Turn [] _ _) by assumption).out | refine Turn.drew ?_ | refine Turn.drewN ?_ _ | refine Turn.alloc ?_ _)).trans ht8 (fun x hx => .inr (HF.out x hx))); clear ht8 hx8 hf8)
          | (go_at_call_has 22 (Value.pointer (some ⟨b, 0, none⟩)); refine (HBs.out _ F8 b ?_).mono ?_; (exact HX8.out.turn0 (by repeat first | exact Turn.refl _ _ | exact (show Hid (Turn [] _ _) by assumption).out | refine Turn.drew ?_ | refine Turn.drewN ?_ _ | refine Turn.alloc ?_ _)); rintro e w9 ⟨rfl, ht9⟩; have HT9 := hide (HT8.out.trans0 (Turn.pre (w := w8) (by repeat first | exact Turn.refl _ _ | exact (show Hid (Turn [] _ _) by assumption).out | refine Turn.drew ?_ | refine Turn.drewN ?_ _ | refine Turn.alloc ?_ _) ht9)); clear ht9))
        clear hmz hts
        go_wp2_with fail
        generalize s ++ ({ data := #[120] } : ByteArray) = t2 at *
        have HR2 := hide (fun wx => read_no2 wx t2 (by rw [HSx.out]; omega) (by rw [HSx.out]; omega))
        refine (HR2.out _).mono ?_
        rintro e wx ⟨rfl, htx⟩
        go_wp2_with fail
        go_ret
        exact ⟨rfl, HT9.out.trans0 (Turn.pre (w := w9) (by repeat first | exact Turn.refl _ _ | exact (show Hid (Turn [] _ _) by assumption).out | refine Turn.drew ?_ | refine Turn.drewN ?_ _ | refine Turn.alloc ?_ _) htx)⟩
      · have hmz : ((n : Int) % 16 == 0) = false := by rw [beq_eq_false_iff_ne]; omega
        refine (read_no2 _ t (by have := HSc.out.2; omega) (by rw [HSc.out.2]; exact hm)).mono ?_
        rintro e w6 ⟨rfl, ht6⟩
        have HT6 := hide (HT5.out.trans0 ht6)
        clear ht6
        go_wp2_with fail
        go_ret
        exact ⟨rfl, HT6.out⟩
end Go.Proofs.Ytlnjemdnmndnfaa
