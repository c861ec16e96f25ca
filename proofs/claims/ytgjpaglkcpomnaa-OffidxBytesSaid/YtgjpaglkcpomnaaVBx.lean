/- OffidxBytes, walked. -/
import Derived.Test.YtgjpaglkcpomnaaVAx
namespace Go.Proofs.Ytgjpaglkcpomnaa
set_option linter.unusedVariables false
set_option linter.unusedSimpArgs false
open Go.RowKit K

def textsV (l : List ByteArray) : List Value := l.map Value.string
theorem reads_text {w : World} {A : Option Addr} {l : List ByteArray} (h : Reads w 1 A l.length (textsV l)) {k : Nat} (hk : k < l.length) :
    ∃ g off, A = some ⟨g, off, none⟩ ∧ g < w.heap.size ∧ w.cell? ⟨g, off + k, none⟩ = some (.string l[k]) := by
  obtain ⟨g, off, hA, hg, hc⟩ := h.2 (by omega)
  exact ⟨g, off, hA, hg, hc k _ (by simp [textsV, hk])⟩
theorem rise_allFit (M : List En) : ∀ l, Rise l → allFit l M = true → Rise (l ++ M) := by
  induction M with
  | nil => intro l h _; simpa using h
  | cons e M ih =>
    intro l h hf
    rw [allFit, Bool.and_eq_true] at hf
    have h1 := rise_addL h e
    unfold addL at h1
    rw [if_pos hf.1] at h1
    have := ih _ h1 hf.2
    simpa using this
/-- all that is asked of one text. -/
def Asked (t : ByteArray) : Prop := t.size ≤ 140737488351232

set_option maxHeartbeats 8000000 in
set_option maxRecDepth 100000 in
theorem bytes_any (w : World) (A B : Option Addr) (c c' : Nat) (L : List En) (T : List ByteArray) (hr : Reads w 2 A L.length (ents L)) (hsz : L.length * 16 ≤ 140737488351232) (hr' : Reads w 1 B T.length (textsV T)) (hsz' : T.length * 16 ≤ 140737488351232) (ht : ∀ t ∈ T, t.size ≤ 140737488351232) :
    Calls Try.prog 8 #[.slice A L.length c, .slice B T.length c'] w (Same (.bool true) w) := by
  obtain ⟨i0, hi0, hz0, hz1, hz2⟩ := info_parts info30
  have HR := hide hr
  have HR' := hide hr'
  have HT := hide ht
  clear hr hr' ht
  go_enter Try.func8, Try.ntmps8
  go_wp2_with fail
  refine (fixed_any _).mono ?_
  rintro e w1 ⟨rfl, ht1⟩
  have HT1 := hide ht1
  clear ht1
  go_wp2_with (at_builtin; refine wpList_append_reads _ rfl (.tmp 19) (.tmp 20) 23 rfl 0 30 i0 _ 2 16 Try.underlying23 hi0 hz0 hz1 hz2 rfl (by decide) (.slice (some ⟨w1.heap.size, 0, none⟩) 0 0) 0 [] rfl ?h1 A L.length c (ents L) rfl (HR.out.turn0 (by repeat first | exact Turn.refl _ _ | exact (show Hid (Turn [] _ _) by assumption).out | refine Turn.drew ?_ | refine Turn.drewN ?_ _ | refine Turn.alloc ?_ _)) (ents_oneCell _) (by unfold maxLen; omega) (by omega) (Nat.zero_le _) ?_)
  case h1 => exact ⟨by simp, .inr ⟨w1.heap.size, 0, #[], rfl, Nat.zero_le _, heap_alloc_new w1 _, Nat.le_refl _, by unfold maxLen; omega, rfl, rfl⟩⟩
  intro v2 w2 ho2 hg2 hb2 hn2
  have HO1 : Hid (OwnR w1 30 2 (some ⟨w1.heap.size, 0, none⟩) 0 0 [] (w1.alloc (.cells #[] 30))) := hide ⟨⟨by simp, .inr ⟨w1.heap.size, 0, #[], rfl, Nat.zero_le _, heap_alloc_new w1 _, Nat.le_refl _, by unfold maxLen; omega, rfl, rfl⟩⟩, by simp [blockOf], (by repeat first | exact Turn.refl _ _ | exact (show Hid (Turn [] _ _) by assumption).out | refine Turn.drew ?_ | refine Turn.drewN ?_ _ | refine Turn.alloc ?_ _)⟩
  obtain ⟨A2, c2, rfl, ho2', _⟩ := HO1.out.app (Turn.refl [] _) hg2 ho2 (by simpa using hb2)
  have HO2 : Hid (OwnR w1 30 2 A2 L.length c2 (ents L) w2) := hide (by simpa using ho2')
  clear ho2 hg2 hb2 hn2 ho2' HO1
  go_wp2_with (at_builtin; refine wpList_append_reads _ rfl (.tmp 21) (.tmp 23) 23 rfl 0 30 i0 _ 2 16 Try.underlying23 hi0 hz0 hz1 hz2 rfl (by decide) (.slice A2 L.length c2) L.length (ents L) rfl (HO2.out.turn0 (by repeat first | exact Turn.refl _ _ | exact (show Hid (Turn [] _ _) by assumption).out | refine Turn.drew ?_ | refine Turn.drewN ?_ _ | refine Turn.alloc ?_ _)).own (some ⟨w2.heap.size, 0, none⟩) 1 1 (ents [(-7, 0)]) rfl (reads_blk (Blk.new_at rfl 30 #[.int .i64 (-7), .int .i64 0]) rfl) (ents_oneCell _) (by unfold maxLen; omega) (by omega) (Nat.zero_le _) ?_)
  intro v3 w3 ho3 hg3 hb3 hn3
  obtain ⟨A3, c3, rfl, ho3', _⟩ := HO2.out.app (by repeat first | exact Turn.refl _ _ | exact (show Hid (Turn [] _ _) by assumption).out | refine Turn.drew ?_ | refine Turn.drewN ?_ _ | refine Turn.alloc ?_ _) hg3 ho3 (by simpa using hb3)
  have HO3 := hide ho3'
  have HT3 := hide (HT1.out.trans0 ho3'.turn)
  have hcap := own_cap ho3'.own
  have hkc : (L.length : Int) ≤ (c3 : Int) := by omega
  clear ho3 hg3 hb3 hn3 ho3'
  have hrd3 := HO3.out.reads
  have htk : (ents L ++ ents [(-7, 0)]).take (L.length * 2) = ents L := by rw [← ents_append, ents_take, List.take_left']; rfl
  have HR3 : Hid (Reads w3 2 A3 L.length (ents L)) := hide (by have := hrd3.take (k := L.length) (by omega); rwa [htk] at this)
  obtain ⟨g3, off3, rfl, hg3, hx3, hy3⟩ := reads_ent (l := L ++ [(-7, 0)]) (by rw [ents_append]; simpa using hrd3) (k := L.length) (by simp)
  have hx3' : w3.cell? ⟨g3, off3 + L.length * 2, none⟩ = some (.int .i64 (-7)) := by simpa using hx3
  have hpl : (L.length : Int) < ((L.length : Int) + 1) := by omega
  have HX3 := hide hx3'
  have HG3 := hide hg3
  clear hrd3 htk hx3 hy3 hx3' hg3
  go_wp2_with fail
  refine (put_reads c3 HR3.out (by omega)).mono ?_
  rintro e w4 ⟨rfl, ht4⟩
  have HT4 := hide (HT3.out.trans0 ht4)
  have HU4 := hide ht4
  clear ht4
  obtain ⟨s, hs⟩ : ∃ s, s = strOf (putB L) := ⟨_, rfl⟩
  have HSz : Hid (s.size ≤ 140737488351232) := hide (by rw [hs, strOf_size, putB_length]; omega)
  have HPut : Hid (∀ wx, Turn [] w wx → Calls Try.prog 26 #[.slice A L.length c] wx (Same (.string s) wx)) := hide (fun wx ht => by rw [hs]; exact rput c (HR.out.turn0 ht) (by omega))
  rw [← hs]
  clear hs
  go_wp2_with fail
  refine (HPut.out _ (by repeat first | exact Turn.refl _ _ | exact (show Hid (Turn [] _ _) by assumption).out | refine Turn.drew ?_ | refine Turn.drewN ?_ _ | refine Turn.alloc ?_ _)).mono ?_
  rintro e w5 ⟨rfl, ht5⟩
  have HT5 := hide (HT4.out.trans0 ht5)
  have HU5 := hide (HU4.out.trans0 ht5)
  clear ht5
  go_wp2_with fail
  refine (same_eq c3 c (HR3.out.turn0 HU5.out) (HR.out.turn0 HT5.out) (by omega)).mono ?_
  rintro e w6 ⟨rfl, ht6⟩
  have HT6 := hide (HT5.out.trans0 ht6)
  have hx6 := ((HU5.out.trans0 ht6).cells0.1 g3 (off3 + L.length * 2) HG3.out).trans HX3.out
  clear ht6
  go_wp2_with fail
  clear hx6 HX3 HG3 HR3 HO3 HO2 HU4 HU5 HPut hkc hcap hpl
  have HTL : Hid (T.length ≤ 9223372036854775807) := hide (by omega)
  go_loopw [7] (fun i wr => ∃ j : Nat, j ≤ T.length + 1 ∧ i = .int .i64 ((j : Int) - 1) ∧ Turn [] w wr) (fun i _ => T.length + 1 - (intOf i + 1).toNat)
  case atStart => exact ⟨0, Nat.zero_le _, rfl, (by repeat first | exact Turn.refl _ _ | exact (show Hid (Turn [] _ _) by assumption).out | refine Turn.drew ?_ | refine Turn.drewN ?_ _ | refine Turn.alloc ?_ _)⟩
  case round =>
    clear HT1 HT3 HT4 HT5 HT6
    obtain ⟨j, hj, rfl, htr⟩ := hrel
    have HTr := hide htr
    clear htr
    by_cases hlt : j < T.length + 1
    · have hj1 : ((j : Int) - 1) < (T.length : Int) := by omega
      have hj2 : IntKind.i64.wrap ((j : Int) - 1 + 1) = ((j + 1 : Nat) : Int) - 1 := by rw [IntKind.wrap_i64]; omega
      rcases Nat.eq_zero_or_pos j with rfl | hpos
      · go_wp2_with fail
        by_cases hmod : s.size % 16 = 0
        · obtain ⟨n, hn⟩ : ∃ n, s.size = 16 * n := ⟨s.size / 16, by omega⟩
          have hll := readL_length n s.data.toList
          have C1 : Hid (∀ wx, Calls Try.prog 23 #[.string s] wx (ReadIs (readL n s.data.toList) 0 wx)) := hide (fun wx => read_yes wx s n hn HSz.out)
          have C2 : Hid (∀ wx, Calls Try.prog 27 #[.string s] wx (ReadIs (readL n s.data.toList) 0 wx)) := hide (fun wx => rread_yes wx s n hn HSz.out)
          have C3 : Hid (∀ wx, Calls Try.prog 28 #[.string s] wx (LoadIs (readL n s.data.toList) wx)) := hide (fun wx => load_good wx s n hn HSz.out)
          have C4 : Hid (∀ wx, Calls Try.prog 29 #[.string s] wx (RLoadIs (readL n s.data.toList) wx)) := hide (fun wx => rload_good wx s n hn HSz.out)
          obtain ⟨l, hl⟩ : ∃ l, l = readL n s.data.toList := ⟨_, rfl⟩
          rw [← hl] at C1 C2 C3 C4 hll
          have hlz : l.length * 16 ≤ 140737488355328 := by have := HSz.out; omega
          clear hl hll hn hmod
          refine (C1.out _).mono ?_
          rintro e v1 ⟨A1, d1, rfl, t1, o1, _⟩
          have HS1 := hide (HTr.out.trans0 t1)
          have HL1 := hide (Reads.of_own o1)
          clear t1 o1
          go_wp2_with fail
          refine (C2.out _).mono ?_
          rintro e v2 ⟨A2', d2, rfl, t2, o2, _⟩
          have HS2 := hide (HS1.out.trans0 t2)
          have HL2 := hide (Reads.of_own o2)
          have HL12 := hide (HL1.out.turn0 t2)
          clear t2 o2
          go_wp2_with fail
          by_cases hf : allFit [] l = true
          · refine (C3.out _).mono ?_
            intro e v3 h3
            unfold LoadIs at h3
            rw [if_pos hf] at h3
            obtain ⟨F3, b3, rfl, t3, x3, n3⟩ := h3
            have HS3 := hide (HS2.out.trans0 t3)
            have HL13 := hide (HL12.out.turn0 t3)
            have HL23 := hide (HL2.out.turn0 t3)
            have HX3 := hide x3
            clear t3 x3 n3
            go_wp2_with fail
            refine (C4.out _).mono ?_
            intro e v4 h4
            unfold RLoadIs at h4
            rw [if_pos hf] at h4
            obtain ⟨F4, b4, rfl, t4, x4, n4⟩ := h4
            have HS4 := hide (HS3.out.trans0 t4)
            have HL14 := hide (HL13.out.turn0 t4)
            have HL24 := hide (HL23.out.turn0 t4)
            have HPr : Hid (Pair v4 (F3 ++ F4) b3 b4 l) := hide ⟨F3, F4, rfl, HX3.out.turn0 t4, x4, fun k hk hk' => by have h1 := HX3.out.lt k hk; have h2 := n4 k hk'; omega, by simpa using rise_allFit l [] rise_nil hf⟩
            clear t4 x4 n4 hf C1 C2 C3 C4
            go_wp2_with fail
            refine (same_eq d1 d2 HL14.out HL24.out hlz).mono ?_
            rintro e v5 ⟨rfl, t5⟩
            have HPr5 := hide (HPr.out.turn0 t5)
            have HS5 := hide (HS4.out.trans0 t5)
            clear t5 HPr
            go_wp2_with fail
            refine (looks_any HPr5.out).mono ?_
            rintro e v6 ⟨rfl, t6⟩
            have HS6 := hide (HS5.out.trans0 t6)
            clear t6
            go_wp2_with fail
            exact ⟨⟨0 + 1, by omega, congrArg (Value.int .i64) (by omega), (by repeat first | exact Turn.refl _ _ | exact (show Hid (Turn [] _ _) by assumption).out | refine Turn.drew ?_ | refine Turn.drewN ?_ _ | refine Turn.alloc ?_ _)⟩, by simp [intOf] <;> omega⟩
          · refine (C3.out _).mono ?_
            intro e v3 h3
            unfold LoadIs at h3
            rw [if_neg hf] at h3
            obtain ⟨rfl, t3⟩ := h3
            have HS3 := hide (HS2.out.trans0 t3)
            have HL13 := hide (HL12.out.turn0 t3)
            have HL23 := hide (HL2.out.turn0 t3)
            clear t3
            go_wp2_with fail
            refine (C4.out _).mono ?_
            intro e v4 h4
            unfold RLoadIs at h4
            rw [if_neg hf] at h4
            obtain ⟨rfl, t4⟩ := h4
            have HS4 := hide (HS3.out.trans0 t4)
            have HL14 := hide (HL13.out.turn0 t4)
            have HL24 := hide (HL23.out.turn0 t4)
            clear t4 hf C1 C2 C3 C4
            go_wp2_with fail
            refine (same_eq d1 d2 HL14.out HL24.out hlz).mono ?_
            rintro e v5 ⟨rfl, t5⟩
            have HS5 := hide (HS4.out.trans0 t5)
            clear t5
            go_wp2_with fail
            exact ⟨⟨0 + 1, by omega, congrArg (Value.int .i64) (by omega), (by repeat first | exact Turn.refl _ _ | exact (show Hid (Turn [] _ _) by assumption).out | refine Turn.drew ?_ | refine Turn.drewN ?_ _ | refine Turn.alloc ?_ _)⟩, by simp [intOf] <;> omega⟩
        · refine (read_no _ s HSz.out hmod).mono ?_
          rintro e v1 ⟨A1, d1, rfl, t1, o1, _⟩
          have HS1 := hide (HTr.out.trans0 t1)
          have HL1 := hide (Reads.of_own o1)
          clear t1 o1
          have HM := hide hmod
          clear hmod
          go_wp2_with fail
          refine (rread_no _ s HSz.out HM.out).mono ?_
          rintro e v2 ⟨A2', d2, rfl, t2, o2, _⟩
          have HS2 := hide (HS1.out.trans0 t2)
          have HL2 := hide (Reads.of_own o2)
          have HL12 := hide (HL1.out.turn0 t2)
          clear t2 o2
          go_wp2_with fail
          refine (load_bad _ s HSz.out HM.out).mono ?_
          rintro e v3 ⟨rfl, t3⟩
          have HS3 := hide (HS2.out.trans0 t3)
          have HL13 := hide (HL12.out.turn0 t3)
          have HL23 := hide (HL2.out.turn0 t3)
          clear t3
          go_wp2_with fail
          refine (rload_bad _ s HSz.out HM.out).mono ?_
          rintro e v4 ⟨rfl, t4⟩
          have HS4 := hide (HS3.out.trans0 t4)
          have HL14 := hide (HL13.out.turn0 t4)
          have HL24 := hide (HL23.out.turn0 t4)
          clear t4
          go_wp2_with fail
          refine (same_eq (L := []) d1 d2 HL14.out HL24.out (by simp)).mono ?_
          rintro e v5 ⟨rfl, t5⟩
          have HS5 := hide (HS4.out.trans0 t5)
          clear t5
          go_wp2_with fail
          exact ⟨⟨0 + 1, by omega, congrArg (Value.int .i64) (by omega), (by repeat first | exact Turn.refl _ _ | exact (show Hid (Turn [] _ _) by assumption).out | refine Turn.drew ?_ | refine Turn.drewN ?_ _ | refine Turn.alloc ?_ _)⟩, by simp [intOf] <;> omega⟩
      · obtain ⟨i, rfl⟩ : ∃ i, j = i + 1 := ⟨j - 1, by omega⟩
        rw [show (((i + 1 : Nat) : Int) - 1) = (i : Int) by omega] at *
        have hil : i < T.length := by omega
        obtain ⟨g, off, rfl, hg, hx⟩ := reads_text (HR'.out.turn0 HTr.out) hil
        have HTi := hide (HT.out T[i] (List.getElem_mem _))
        obtain ⟨t, ht⟩ : ∃ t, t = T[i] := ⟨_, rfl⟩
        rw [← ht] at hx HTi
        clear ht
        go_wp2_with fail
        clear hx
        by_cases hmod : t.size % 16 = 0
        · obtain ⟨n, hn⟩ : ∃ n, t.size = 16 * n := ⟨t.size / 16, by omega⟩
          have hll := readL_length n t.data.toList
          have C1 : Hid (∀ wx, Calls Try.prog 23 #[.string t] wx (ReadIs (readL n t.data.toList) 0 wx)) := hide (fun wx => read_yes wx t n hn HTi.out)
          have C2 : Hid (∀ wx, Calls Try.prog 27 #[.string t] wx (ReadIs (readL n t.data.toList) 0 wx)) := hide (fun wx => rread_yes wx t n hn HTi.out)
          have C3 : Hid (∀ wx, Calls Try.prog 28 #[.string t] wx (LoadIs (readL n t.data.toList) wx)) := hide (fun wx => load_good wx t n hn HTi.out)
          have C4 : Hid (∀ wx, Calls Try.prog 29 #[.string t] wx (RLoadIs (readL n t.data.toList) wx)) := hide (fun wx => rload_good wx t n hn HTi.out)
          obtain ⟨l, hl⟩ : ∃ l, l = readL n t.data.toList := ⟨_, rfl⟩
          rw [← hl] at C1 C2 C3 C4 hll
          have hlz : l.length * 16 ≤ 140737488355328 := by have := HTi.out; omega
          clear hl hll hn hmod
          refine (C1.out _).mono ?_
          rintro e v1 ⟨A1, d1, rfl, t1, o1, _⟩
          have HS1 := hide (HTr.out.trans0 t1)
          have HL1 := hide (Reads.of_own o1)
          clear t1 o1
          go_wp2_with fail
          refine (C2.out _).mono ?_
          rintro e v2 ⟨A2', d2, rfl, t2, o2, _⟩
          have HS2 := hide (HS1.out.trans0 t2)
          have HL2 := hide (Reads.of_own o2)
          have HL12 := hide (HL1.out.turn0 t2)
          clear t2 o2
          go_wp2_with fail
          by_cases hf : allFit [] l = true
          · refine (C3.out _).mono ?_
            intro e v3 h3
            unfold LoadIs at h3
            rw [if_pos hf] at h3
            obtain ⟨F3, b3, rfl, t3, x3, n3⟩ := h3
            have HS3 := hide (HS2.out.trans0 t3)
            have HL13 := hide (HL12.out.turn0 t3)
            have HL23 := hide (HL2.out.turn0 t3)
            have HX3 := hide x3
            clear t3 x3 n3
            go_wp2_with fail
            refine (C4.out _).mono ?_
            intro e v4 h4
            unfold RLoadIs at h4
            rw [if_pos hf] at h4
            obtain ⟨F4, b4, rfl, t4, x4, n4⟩ := h4
            have HS4 := hide (HS3.out.trans0 t4)
            have HL14 := hide (HL13.out.turn0 t4)
            have HL24 := hide (HL23.out.turn0 t4)
            have HPr : Hid (Pair v4 (F3 ++ F4) b3 b4 l) := hide ⟨F3, F4, rfl, HX3.out.turn0 t4, x4, fun k hk hk' => by have h1 := HX3.out.lt k hk; have h2 := n4 k hk'; omega, by simpa using rise_allFit l [] rise_nil hf⟩
            clear t4 x4 n4 hf C1 C2 C3 C4
            go_wp2_with fail
            refine (same_eq d1 d2 HL14.out HL24.out hlz).mono ?_
            rintro e v5 ⟨rfl, t5⟩
            have HPr5 := hide (HPr.out.turn0 t5)
            have HS5 := hide (HS4.out.trans0 t5)
            clear t5 HPr
            go_wp2_with fail
            refine (looks_any HPr5.out).mono ?_
            rintro e v6 ⟨rfl, t6⟩
            have HS6 := hide (HS5.out.trans0 t6)
            clear t6
            go_wp2_with fail
            exact ⟨⟨(i + 1) + 1, by omega, congrArg (Value.int .i64) (by omega), (by repeat first | exact Turn.refl _ _ | exact (show Hid (Turn [] _ _) by assumption).out | refine Turn.drew ?_ | refine Turn.drewN ?_ _ | refine Turn.alloc ?_ _)⟩, by simp [intOf] <;> omega⟩
          · refine (C3.out _).mono ?_
            intro e v3 h3
            unfold LoadIs at h3
            rw [if_neg hf] at h3
            obtain ⟨rfl, t3⟩ := h3
            have HS3 := hide (HS2.out.trans0 t3)
            have HL13 := hide (HL12.out.turn0 t3)
            have HL23 := hide (HL2.out.turn0 t3)
            clear t3
            go_wp2_with fail
            refine (C4.out _).mono ?_
            intro e v4 h4
            unfold RLoadIs at h4
            rw [if_neg hf] at h4
            obtain ⟨rfl, t4⟩ := h4
            have HS4 := hide (HS3.out.trans0 t4)
            have HL14 := hide (HL13.out.turn0 t4)
            have HL24 := hide (HL23.out.turn0 t4)
            clear t4 hf C1 C2 C3 C4
            go_wp2_with fail
            refine (same_eq d1 d2 HL14.out HL24.out hlz).mono ?_
            rintro e v5 ⟨rfl, t5⟩
            have HS5 := hide (HS4.out.trans0 t5)
            clear t5
            go_wp2_with fail
            exact ⟨⟨(i + 1) + 1, by omega, congrArg (Value.int .i64) (by omega), (by repeat first | exact Turn.refl _ _ | exact (show Hid (Turn [] _ _) by assumption).out | refine Turn.drew ?_ | refine Turn.drewN ?_ _ | refine Turn.alloc ?_ _)⟩, by simp [intOf] <;> omega⟩
        · refine (read_no _ t HTi.out hmod).mono ?_
          rintro e v1 ⟨A1, d1, rfl, t1, o1, _⟩
          have HS1 := hide (HTr.out.trans0 t1)
          have HL1 := hide (Reads.of_own o1)
          clear t1 o1
          have HM := hide hmod
          clear hmod
          go_wp2_with fail
          refine (rread_no _ t HTi.out HM.out).mono ?_
          rintro e v2 ⟨A2', d2, rfl, t2, o2, _⟩
          have HS2 := hide (HS1.out.trans0 t2)
          have HL2 := hide (Reads.of_own o2)
          have HL12 := hide (HL1.out.turn0 t2)
          clear t2 o2
          go_wp2_with fail
          refine (load_bad _ t HTi.out HM.out).mono ?_
          rintro e v3 ⟨rfl, t3⟩
          have HS3 := hide (HS2.out.trans0 t3)
          have HL13 := hide (HL12.out.turn0 t3)
          have HL23 := hide (HL2.out.turn0 t3)
          clear t3
          go_wp2_with fail
          refine (rload_bad _ t HTi.out HM.out).mono ?_
          rintro e v4 ⟨rfl, t4⟩
          have HS4 := hide (HS3.out.trans0 t4)
          have HL14 := hide (HL13.out.turn0 t4)
          have HL24 := hide (HL23.out.turn0 t4)
          clear t4
          go_wp2_with fail
          refine (same_eq (L := []) d1 d2 HL14.out HL24.out (by simp)).mono ?_
          rintro e v5 ⟨rfl, t5⟩
          have HS5 := hide (HS4.out.trans0 t5)
          clear t5
          go_wp2_with fail
          exact ⟨⟨(i + 1) + 1, by omega, congrArg (Value.int .i64) (by omega), (by repeat first | exact Turn.refl _ _ | exact (show Hid (Turn [] _ _) by assumption).out | refine Turn.drew ?_ | refine Turn.drewN ?_ _ | refine Turn.alloc ?_ _)⟩, by simp [intOf] <;> omega⟩
    · obtain rfl : j = T.length + 1 := by omega
      have hj1 : ¬ (((T.length + 1 : Nat) : Int) - 1) < (T.length : Int) := by omega
      go_wp2_with fail
      go_ret
      exact ⟨rfl, HTr.out⟩
end Go.Proofs.Ytgjpaglkcpomnaa
