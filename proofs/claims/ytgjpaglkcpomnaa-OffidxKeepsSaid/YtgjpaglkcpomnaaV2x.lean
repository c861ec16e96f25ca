/- OffidxKeeps, walked. -/
import Derived.Test.YtgjpaglkcpomnaaPlain2
import Derived.Test.YtgjpaglkcpomnaaV0x
namespace Go.Proofs.Ytgjpaglkcpomnaa
set_option linter.unusedVariables false
set_option linter.unusedSimpArgs false
open Go.RowKit K

/-- what the two loops hold: two rows apart, of whatever contents; all else stands. -/
structure KRel (G : List Nat) (w0 : World) (A M : Option Addr) (na ca nm cm : Nat) (wr : World) : Prop where
  ra : Row wr A na ca
  rm : Row wr M nm cm
  ap : ∀ k ∈ blockOf A, k ∉ blockOf M
  ia : ∀ k ∈ blockOf A, k ∈ G ∨ w0.heap.size ≤ k
  im : ∀ k ∈ blockOf M, k ∈ G ∨ w0.heap.size ≤ k
  turn : Turn G w0 wr
theorem KRel.setA {G : List Nat} {w0 wr : World} {M : Option Addr} {g na ca nm cm : Nat} (h : KRel G w0 (some ⟨g, 0, none⟩) M na ca nm cm wr) (j : Nat) (u : Value) : KRel G w0 (some ⟨g, 0, none⟩) M na ca nm cm (wr.setCell ⟨g, j, none⟩ u) :=
  ⟨h.ra.set u, h.rm.turn (F := [g]) (turn_set wr g j u) (fun k hk hk' => by simp at hk'; subst hk'; exact h.ap k (by simp [blockOf]) hk), h.ap, h.ia, h.im, h.turn.setCell (h.ia g (by simp [blockOf])) u⟩
theorem KRel.setM {G : List Nat} {w0 wr : World} {A : Option Addr} {g na ca nm cm : Nat} (h : KRel G w0 A (some ⟨g, 0, none⟩) na ca nm cm wr) (j : Nat) (u : Value) : KRel G w0 A (some ⟨g, 0, none⟩) na ca nm cm (wr.setCell ⟨g, j, none⟩ u) :=
  ⟨h.ra.turn (F := [g]) (turn_set wr g j u) (fun k hk hk' => by simp at hk'; subst hk'; exact h.ap k hk (by simp [blockOf])), h.rm.set u, h.ap, h.ia, h.im, h.turn.setCell (h.im g (by simp [blockOf])) u⟩
theorem KRel.appA {G : List Nat} {w0 wr w1 : World} {A A1 M : Option Addr} {na ca nm cm n1 c1 : Nat} {ys : List Value} {o : Obj} (h : KRel G w0 A M na ca nm cm wr) (hg : (wr.alloc o).grownBy w1 (Value.slice A na ca).ownBlock) (ho : w1.ownsRow 0 30 2 (.slice A1 n1 c1) n1 ys)
    (hb : (Value.slice A1 n1 c1).ownBlock = (Value.slice A na ca).ownBlock ∨ (Value.slice A1 n1 c1).ownBlock = some (wr.heap.size + 1)) : KRel G w0 A1 M n1 c1 nm cm w1 := by
  have ht : Turn (blockOf A) wr w1 := ((Turn.refl _ _).alloc o).grown hg (fun g hg' => .inl (by rw [ownBlock_slice] at hg'; simp [blockOf, hg']))
  have h1 : ∀ k ∈ blockOf A1, k ∈ blockOf A ∨ k = wr.heap.size + 1 := by
    intro k hk
    have hk' : (Value.slice A1 n1 c1).ownBlock = some k := by rw [ownBlock_slice]; simpa [blockOf] using hk
    rcases hb with hb | hb
    · rw [hb, ownBlock_slice] at hk'; exact .inl (by simp [blockOf, hk'])
    · rw [hb] at hk'; injection hk' with hk'; exact .inr hk'.symm
  refine ⟨⟨ys, ho⟩, h.rm.turn ht (fun k hk hk' => h.ap k hk' hk), fun k hk hk' => ?_, fun k hk => ?_, h.im, h.turn.trans ht h.ia⟩
  · rcases h1 k hk with h2 | h2
    · exact h.ap k h2 hk'
    · have := h.rm.lt k hk'; omega
  · rcases h1 k hk with h2 | h2
    · exact h.ia k h2
    · have := h.turn.size; exact .inr (by omega)
theorem KRel.swap {G : List Nat} {w0 wr : World} {A M : Option Addr} {na ca nm cm : Nat} (h : KRel G w0 A M na ca nm cm wr) : KRel G w0 M A nm cm na ca wr :=
  ⟨h.rm, h.ra, fun k hk hk' => h.ap k hk' hk, h.im, h.ia, h.turn⟩

set_option maxHeartbeats 8000000 in
set_option maxRecDepth 1000000 in
theorem keeps_any (w : World) (A : Option Addr) (c : Nat) (L : List En) (hr : Reads w 2 A L.length (ents L)) (hsz : L.length * 16 ≤ 140737488351232) (hR : ∀ e ∈ L, inR e) :
    Calls Try.prog 7 #[.slice A L.length c] w (Same (.bool true) w) := by
  obtain ⟨i0, hi0, hz0, hz1, hz2⟩ := info_parts info30
  have HR := hide hr
  clear hr
  go_enter Try.func7, Try.ntmps7
  go_wp2_with fail
  refine (fixed_any _).mono ?_
  rintro e w1 ⟨rfl, ht1⟩
  have HB := hide (built_any w1 A c L (HR.out.turn0 ht1) hsz)
  go_wp2_with fail
  refine HB.out.mono ?_
  rintro e w2 ⟨b, A6, c6, F, rfl, hB⟩
  clear HB
  have hlen := builtL_length L
  have HIn : Hid (∀ e ∈ builtL L, inR e) := hide (fun e he => hR e (builtL_mem L e he))
  obtain ⟨l, hl⟩ : ∃ l, l = builtL L := ⟨_, rfl⟩
  rw [← hl] at hB hlen HIn ⊢
  clear hl hR
  have HT2 := hide (ht1.trans0 hB.turn)
  have HX := hide (fun wx (ht : Turn [] w2 wx) => hB.idx.turn0 ht)
  have HB := hide hB
  clear hB ht1
  go_wp2_with fail
  refine (entries_at (HX.out _ (Turn.refl _ _))).mono ?_
  rintro e w3 ⟨Aa, ca, rfl, ht3, ho3, hn3⟩
  go_wp2_with fail
  refine (entries_at (HX.out _ ht3)).mono ?_
  rintro e w4 ⟨Ab, cb, rfl, ht4, ho4, hn4⟩
  go_wp2_with fail
  refine (ibytes_at (HX.out _ (ht3.trans0 ht4))).mono ?_
  rintro e w5 ⟨rfl, ht5⟩
  go_wp2_with fail
  refine (read_yes w5 (strOf (putB l)) l.length (by rw [strOf_size, putB_length]; omega) (by rw [strOf_size, putB_length]; omega)).mono ?_
  rw [strOf_list, readL_putB l HIn.out]
  rintro e w6 ⟨Am, cm, rfl, ht6, ho6, hn6⟩
  have HOa := hide (own_turn ho3 ((ht4.trans0 ht5).trans0 ht6) (by simp))
  have HOb := hide (own_turn ho4 (ht5.trans0 ht6) (by simp))
  have HOm := hide ho6
  have HT26 := hide (((ht3.trans0 ht4).trans0 ht5).trans0 ht6)
  have hlt3 : ∀ k ∈ blockOf Aa, k < w3.heap.size := fun k hk => (ho3.lt k (by rw [ownBlock_slice]; simpa [blockOf] using hk)).2
  have hlt4 : ∀ k ∈ blockOf Ab, k < w4.heap.size := fun k hk => (ho4.lt k (by rw [ownBlock_slice]; simpa [blockOf] using hk)).2
  have hs4 := ht4.size
  have hs5 := ht5.size
  have HNa : Hid (∀ k ∈ blockOf Aa, w2.heap.size ≤ k ∧ k < w3.heap.size) := hide (fun k hk => ⟨hn3 k hk, hlt3 k hk⟩)
  have HNb : Hid (∀ k ∈ blockOf Ab, w3.heap.size ≤ k ∧ k < w5.heap.size) := hide (fun k hk => ⟨hn4 k hk, by have := hlt4 k hk; omega⟩)
  have HNm : Hid (∀ k ∈ blockOf Am, w5.heap.size ≤ k) := hide hn6
  have hs3 := ht3.size
  clear ht3 ht4 ht5 ht6 ho3 ho4 ho6 hn3 hn4 hn6 hlt3 hlt4
  have hrl : Hid (Reads w6 2 A6 l.length (ents l)) := hide ((Reads.of_own HB.out.own).turn0 HT26.out)
  go_wp2_with fail
  refine (same_eq _ _ (Reads.of_own HOa.out) hrl.out (by omega)).mono ?_
  rintro e w7 ⟨rfl, ht7⟩
  go_wp2_with fail
  refine (same_eq _ _ ((Reads.of_own HOm.out).turn0 ht7) (hrl.out.turn0 ht7) (by omega)).mono ?_
  rintro e w8 ⟨rfl, ht8⟩
  have ht68 := ht7.trans0 ht8
  have hs2 := HB.out.turn.size
  have hG : ∀ k ∈ blockOf Aa ++ blockOf Am, w2.heap.size ≤ k := by
    intro k hk
    simp only [List.mem_append] at hk
    rcases hk with hk | hk
    · exact (HNa.out k hk).1
    · have := HNm.out k hk; omega
  have HK : Hid (KRel (blockOf Aa ++ blockOf Am) w8 Aa Am l.length ca l.length cm w8) := hide ⟨⟨_, own_turn HOa.out ht68 (by simp)⟩, ⟨_, own_turn HOm.out ht68 (by simp)⟩, fun k hk hk' => by have := (HNa.out k hk).2; have := HNm.out k hk'; omega,
    fun k hk => .inl (by simp [hk]), fun k hk => .inl (by simp [hk]), Turn.refl _ _⟩
  have HT28 := hide (HT26.out.trans0 ht68)
  have HOb8 := hide (own_turn HOb.out ht68 (by simp))
  clear ht7 ht8 ht68 hs3 hs4 hs5 HOa HOm HOb HT26
  go_wp2_with fail
  go_loopw [10] (fun i wr => ∃ k : Nat, k ≤ l.length ∧ i = .int .i64 k ∧ KRel (blockOf Aa ++ blockOf Am) w8 Aa Am l.length ca l.length cm wr) (fun i _ => l.length - (intOf i).toNat)
  case atStart => exact ⟨0, Nat.zero_le _, rfl, HK.out⟩
  case round =>
    obtain ⟨k, hk, rfl, hkr⟩ := hrel
    by_cases hlt : k < l.length
    · obtain ⟨g, u0, u1, rfl, hg, hc0, hc1, hf0, hf1⟩ := hkr.ra.at_ hlt
      obtain ⟨g', v0, v1, rfl, hg', hd0, hd1, he0, he1⟩ := hkr.rm.at_ hlt
      have hgg : g ≠ g' := fun h => hkr.ap g (by simp [blockOf]) (by simp [blockOf, h])
      have hgg' : g' ≠ g := hgg.symm
      have hlt' : (k : Int) < (l.length : Int) := by omega
      have HKR := hide hkr
      clear hkr
      go_wp2_with fail
      exact ⟨⟨k + 1, by omega, by go_num, (((HKR.out.setA _ _).setA _ _).setM _ _).setM _ _⟩, by simp [intOf]; omega⟩
    · obtain rfl : k = l.length := by omega
      have HKR := hide hkr
      clear hkr
      go_wp2_with fail
      go_loopw [6, 8, 11] (fun va vm i wr => ∃ (j : Nat) (A M : Option Addr) (na ca nm cm : Nat), j ≤ 16 ∧ i = .int .i64 j ∧ va = .slice A na ca ∧ vm = .slice M nm cm ∧ na ≤ l.length + j ∧ nm ≤ l.length + j ∧ KRel (blockOf Aa ++ blockOf Am) w8 A M na ca nm cm wr) (fun _ _ i _ => 16 - (intOf i).toNat)
      case atStart => exact ⟨0, Aa, Am, l.length, ca, l.length, cm, Nat.zero_le _, rfl, rfl, rfl, Nat.le_refl _, Nat.le_refl _, HKR.out⟩
      case round =>
        obtain ⟨j, A2, M2, na, ca2, nm, cm2, hj, rfl, rfl, rfl, hna, hnm, hkr⟩ := hrel
        by_cases hlt : j < 16
        · have HK2 := hide hkr
          obtain ⟨xs, hxs⟩ := hkr.ra
          have HXS := hide hxs
          clear hkr hxs
          have hlt' : (j : Int) < 16 := by omega
          go_wp2_with (at_builtin; refine wpList_append_reads _ rfl (.tmp 60) (.tmp 62) 23 rfl 0 30 i0 _ 2 16 Try.underlying23 hi0 hz0 hz1 hz2 rfl (by decide) (.slice A2 na ca2) na xs rfl (own_turn HXS.out ((Turn.refl [] _).alloc _) (by simp)) (some ⟨_, 0, none⟩) 1 1 (ents [(-3, 0)]) rfl (reads_blk (Blk.new_at rfl 30 #[.int .i64 (-3), .int .i64 0]) rfl) (ents_oneCell _) (by unfold maxLen; omega) (by omega) (Nat.zero_le _) ?_)
          intro v9 w9 ho9 hg9 hb9 hn9
          obtain ⟨A9, c9, rfl⟩ := own_form ho9
          have HK9 := hide (HK2.out.appA hg9 ho9 (by simpa using hb9))
          clear ho9 hg9 hb9 hn9
          obtain ⟨ys, hys⟩ := HK9.out.rm
          have HYS := hide hys
          clear hys
          go_wp2_with (at_builtin; refine wpList_append_reads _ rfl (.tmp 64) (.tmp 66) 23 rfl 0 30 i0 _ 2 16 Try.underlying23 hi0 hz0 hz1 hz2 rfl (by decide) (.slice M2 nm cm2) nm ys rfl (own_turn HYS.out ((Turn.refl [] _).alloc _) (by simp)) (some ⟨_, 0, none⟩) 1 1 (ents [(-4, 0)]) rfl (reads_blk (Blk.new_at rfl 30 #[.int .i64 (-4), .int .i64 0]) rfl) (ents_oneCell _) (by unfold maxLen; omega) (by omega) (Nat.zero_le _) ?_)
          intro v10 w10 ho10 hg10 hb10 hn10
          obtain ⟨A10, c10, rfl⟩ := own_form ho10
          have HK10 := hide (HK9.out.swap.appA hg10 ho10 (by simpa using hb10)).swap
          clear ho10 hg10 hb10 hn10
          go_wp2_with fail
          exact ⟨⟨j + 1, A9, A10, na + 1, c9, nm + 1, c10, by omega, by go_num, rfl, rfl, by omega, by omega, HK10.out⟩, by simp [intOf]; omega⟩
        · have htr := hkr.turn
          have hIdx := (HX.out _ HT28.out).turn htr (fun k hk hk' => by have := HB.out.idx.lt k hk; have := hG k hk'; omega)
          have hRl := ((Reads.of_own HB.out.own).turn0 HT28.out).turn htr (fun k hk hk' => by have := (HB.out.own.lt k (by rw [ownBlock_slice]; simpa [blockOf] using hk)).2; have := hG k hk'; omega)
          have hRb := (Reads.of_own HOb8.out).turn htr (fun k hk hk' => by
            have h1 := HNb.out k hk
            simp only [List.mem_append] at hk'
            rcases hk' with hk' | hk'
            · have := (HNa.out k hk').2; omega
            · have := HNm.out k hk'; omega)
          have HFin := hide ((HT2.out.trans0 HT28.out).trans htr (fun k hk => .inr (Nat.le_trans HT2.out.size (hG k hk))))
          have HRl := hide hRl
          have HRb := hide hRb
          have HI := hide hIdx
          clear hkr htr hIdx hRl hRb hG
          have hlt' : ¬ (j : Int) < 16 := by omega
          go_wp2_with fail
          refine (same_eq _ _ HRb.out HRl.out (by omega)).mono ?_
          rintro e wa ⟨rfl, hta⟩
          go_wp2_with fail
          refine (entries_at (HI.out.turn0 hta)).mono ?_
          rintro e wb ⟨A7, c7, rfl, htb, hob, hnb⟩
          go_wp2_with fail
          refine (same_eq _ _ (Reads.of_own hob) ((HRl.out.turn0 hta).turn0 htb) (by omega)).mono ?_
          rintro e wc ⟨rfl, htc⟩
          have HE := hide (((HFin.out.trans0 hta).trans0 htb).trans0 htc)
          clear hta htb htc hob hnb
          go_wp2_with fail
          go_ret
          exact ⟨rfl, HE.out⟩
end Go.Proofs.Ytgjpaglkcpomnaa
