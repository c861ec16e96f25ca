/- An index's bytes, its cuts, its clones: walked. -/
import Derived.Test.YtgjpaglkcpomnaaW7x
namespace Go.Proofs.Ytgjpaglkcpomnaa
set_option linter.unusedVariables false
set_option linter.unusedSimpArgs false
open Go.RowKit K

set_option maxHeartbeats 400000 in
theorem tbytes_nil (w : World) : Calls Try.prog 45 #[.pointer none] w (Str [] w) := by
  go_enter Try.func45, Try.ntmps45
  go_wp2_with fail
  refine (tentries_nil _).mono ?_
  rintro e w1 ⟨A1, c1, rfl, ht, ho, hn⟩
  have HP := hide (put_reads c1 (Reads.of_own ho) (by simp))
  clear ho hn
  go_wp2_with (go_at_call 25; refine HP.out.mono ?_; rintro e w2 ⟨rfl, ht2⟩)
  go_ret
  exact ⟨rfl, ht.trans0 ht2⟩
set_option maxHeartbeats 400000 in
theorem tbytes_at {w : World} {F : List Nat} {b : Nat} {l : List En} (h : Idx w F b l) : Calls Try.prog 45 #[.pointer (some ⟨b, 0, none⟩)] w (Str (putB l) w) := by
  obtain ⟨_, _, _, _, hsz, _⟩ := h.cell
  have HC := hide (tentries_at h)
  clear h
  go_enter Try.func45, Try.ntmps45
  go_wp2_with fail
  refine HC.out.mono ?_
  rintro e w1 ⟨A1, c1, rfl, ht, ho, hn⟩
  have HP := hide (put_reads c1 (Reads.of_own ho) hsz)
  clear ho hn
  go_wp2_with (go_at_call 25; refine HP.out.mono ?_; rintro e w2 ⟨rfl, ht2⟩)
  go_ret
  exact ⟨rfl, ht.trans0 ht2⟩
set_option maxHeartbeats 400000 in
theorem ibytes_nil (w : World) : Calls Try.prog 21 #[.pointer none] w (Str [] w) := by
  go_enter Try.func21, Try.ntmps21
  go_wp2_with (first | (go_at_call 32; refine (under_nil _).mono ?_; rintro e w' ⟨rfl, rfl⟩) | (go_at_call 45; refine (tbytes_nil _).mono ?_; rintro e w1 ⟨rfl, ht⟩))
  go_ret
  exact ⟨rfl, ht⟩
set_option maxHeartbeats 400000 in
theorem ibytes_at {w : World} {F : List Nat} {b : Nat} {l : List En} (h : Idx w F b l) : Calls Try.prog 21 #[.pointer (some ⟨b, 0, none⟩)] w (Str (putB l) w) := by
  have HC := hide (tbytes_at h)
  clear h
  go_enter Try.func21, Try.ntmps21
  go_wp2_with (first | (go_at_call 32; refine (under_at _ _).mono ?_; rintro e w' ⟨rfl, rfl⟩) | (go_at_call 45; refine HC.out.mono ?_; rintro e w1 ⟨rfl, ht⟩))
  go_ret
  exact ⟨rfl, ht⟩

/-- what a cut answers, what it leaves. -/
def cutE (l : List En) (n : Int) : Int := if 0 ≤ n ∧ n ≤ l.length then 0 else 1
def cutL (l : List En) (n : Int) : List En := if 0 ≤ n ∧ n ≤ l.length then l.take n.toNat else l

set_option maxHeartbeats 400000 in
theorem tcut_nil (w : World) (n : Int) : Calls Try.prog 56 #[.pointer none, .int .i64 n] w fun e w' => e = .returned (.int .i64 (cutE [] n)) ∧ w = w' := by
  by_cases h0 : n < 0
  · have he : cutE [] n = 1 := by unfold cutE; rw [if_neg (by omega)]
    rw [he]
    go_enter Try.func56, Try.ntmps56
    go_wp2_with (go_at_call 33; refine (tlen_nil _).mono ?_; rintro e w' ⟨rfl, rfl⟩)
    go_ret
    exact ⟨rfl, rfl⟩
  · by_cases h1 : 0 < n
    · have he : cutE [] n = 1 := by unfold cutE; rw [if_neg (by simp; omega)]
      rw [he]
      go_enter Try.func56, Try.ntmps56
      go_wp2_with (go_at_call 33; refine (tlen_nil _).mono ?_; rintro e w' ⟨rfl, rfl⟩)
      go_ret
      exact ⟨rfl, rfl⟩
    · obtain rfl : n = 0 := by omega
      have he : cutE [] 0 = 0 := rfl
      rw [he]
      go_enter Try.func56, Try.ntmps56
      go_wp2_with (go_at_call 33; refine (tlen_nil _).mono ?_; rintro e w' ⟨rfl, rfl⟩)
      go_ret
      exact ⟨rfl, rfl⟩
def Cuts (E : Int) (L : List En) (F : List Nat) (b : Nat) (w : World) (e : Ending) (w' : World) : Prop := ∃ F', e = .returned (.int .i64 E) ∧ Turn F w w' ∧ Idx w' F' b L ∧ ∀ k ∈ F', k ∈ F
theorem own_cut {w : World} {base : Nat} {e : TypeId} {size n c k : Nat} {A : Option Addr} {xs : List Value} (h : w.ownsRow base e size (.slice A n c) n xs) (hk : k ≤ n) : w.ownsRow base e size (.slice A k c) k (xs.take (k * size)) := by
  have hle : k * size ≤ n * size := Nat.mul_le_mul_right _ hk
  refine ⟨by rw [List.length_take, h.1]; omega, ?_⟩
  rcases h.2 with ⟨hv, hn⟩ | ⟨g, cap, cur, hv, hb, hh, h1, h2, h3, h4⟩
  · subst hn
    obtain rfl : k = 0 := by omega
    injection hv with hA _ hc
    subst hA hc
    exact .inl ⟨rfl, rfl⟩
  · injection hv with hA _ hc
    subst hA hc
    exact .inr ⟨g, c, cur, rfl, hb, hh, by omega, h2, h3, by rw [← h4, List.take_take]; congr 1; omega⟩
theorem own_cap {w : World} {base : Nat} {e : TypeId} {size n c : Nat} {A : Option Addr} {xs : List Value} (h : w.ownsRow base e size (.slice A n c) n xs) : n ≤ c := by
  rcases h.2 with ⟨hv, hn⟩ | ⟨g, cap, cur, hv, hb, hh, h1, h2, h3, h4⟩
  · omega
  · injection hv with hA _ hc; omega
set_option maxHeartbeats 1600000 in
theorem tcut_at {w : World} {F : List Nat} {b : Nat} {l : List En} (h : Idx w F b l) (n : Int) : Calls Try.prog 56 #[.pointer (some ⟨b, 0, none⟩), .int .i64 n] w (Cuts (cutE l n) (cutL l n) F b w) := by
  have HT := hide (tlen_at h)
  by_cases hin : 0 ≤ n ∧ n ≤ l.length
  · have he : cutE l n = 0 ∧ cutL l n = l.take n.toNat := by unfold cutE cutL; rw [if_pos hin, if_pos hin]; exact ⟨rfl, rfl⟩
    rw [he.1, he.2]
    obtain ⟨k, rfl⟩ := Int.eq_ofNat_of_zero_le hin.1
    have hk : k ≤ l.length := by omega
    rw [show (k : Int).toNat = k from rfl]
    have hd1 : ¬ (k : Int) < 0 := by omega
    have hd2 : ¬ (l.length : Int) < (k : Int) := by omega
    obtain ⟨A, c, hF, hB, hO, hsz⟩ := h
    have hcap := own_cap hO
    have hc0 := hB.cell 0
    have hf0 := hB.frozen 0
    have hbl := hB.lt
    have hkc : (k : Int) ≤ (c : Int) := by omega
    have hne : (Value.slice A l.length c).ownBlock ≠ some b := own_blk_ne hO hB (by decide)
    have HB := hide hB
    have HO := hide (own_cut hO hk)
    have HF := hide hF
    have HN := hide hne
    clear hB hO hF hne he hin
    go_enter Try.func56, Try.ntmps56
    go_wp2_with (go_at_call 33; refine HT.out.mono ?_; rintro e w' ⟨rfl, rfl⟩)
    go_ret
    have hlen : (l.take k).length = k := by rw [List.length_take]; omega
    refine ⟨F, rfl, ?_, ⟨A, c, HF.out, ?_, ?_, by omega⟩, fun x hx => hx⟩
    · exact (Turn.refl _ _).setCell (.inl (by rw [HF.out]; simp)) _
    · rw [hlen]; simpa using HB.out.set_ 0 (.slice A k c)
    · rw [hlen, ← ents_take]
      exact own_turn HO.out (turn_set w b 0 _) (fun g hg => by
        have hne := HN.out
        rw [ownBlock_slice] at hg hne
        rw [hg] at hne
        simpa using hne)
  · have he : cutE l n = 1 ∧ cutL l n = l := by unfold cutE cutL; rw [if_neg hin, if_neg hin]; exact ⟨rfl, rfl⟩
    rw [he.1, he.2]
    have HX := hide h
    clear h
    rcases (show n < 0 ∨ (0 ≤ n ∧ (l.length : Int) < n) by omega) with h0 | ⟨h0, h1⟩
    all_goals
      clear hin he
      go_enter Try.func56, Try.ntmps56
      go_wp2_with (go_at_call 33; refine HT.out.mono ?_; rintro e w' ⟨rfl, rfl⟩)
      go_ret
      exact ⟨F, rfl, Turn.refl _ _, HX.out, fun k hk => hk⟩

set_option maxHeartbeats 400000 in
theorem icut_nil (w : World) (n : Int) : Calls Try.prog 30 #[.pointer none, .int .i64 n] w fun e w' => e = .returned (.int .i64 (cutE [] n)) ∧ w = w' := by
  go_enter Try.func30, Try.ntmps30
  go_wp2_with (first | (go_at_call 32; refine (under_nil _).mono ?_; rintro e w' ⟨rfl, rfl⟩) | (go_at_call 56; refine (tcut_nil _ _).mono ?_; rintro e w1 ⟨rfl, rfl⟩))
  go_ret
  exact ⟨rfl, rfl⟩
set_option maxHeartbeats 400000 in
theorem icut_at {w : World} {F : List Nat} {b : Nat} {l : List En} (h : Idx w F b l) (n : Int) : Calls Try.prog 30 #[.pointer (some ⟨b, 0, none⟩), .int .i64 n] w (Cuts (cutE l n) (cutL l n) F b w) := by
  have HC := hide (tcut_at h n)
  clear h
  go_enter Try.func30, Try.ntmps30
  go_wp2_with (first | (go_at_call 32; refine (under_at _ _).mono ?_; rintro e w' ⟨rfl, rfl⟩) | (go_at_call 56; refine HC.out.mono ?_; rintro e w1 ⟨F1, rfl, h1, h2, h3⟩))
  go_ret
  exact ⟨F1, rfl, h1, h2, h3⟩
theorem cutL_length (l : List En) (n : Int) : (cutL l n).length ≤ l.length := by unfold cutL; split <;> simp; omega

/-- a clone: another index with the same entries. -/
def Cloned (l : List En) (w : World) (e : Ending) (w' : World) : Prop := ∃ F b, e = .returned (.pointer (some ⟨b, 0, none⟩)) ∧ Turn [] w w' ∧ Idx w' F b l ∧ ∀ k ∈ F, w.heap.size ≤ k
set_option maxHeartbeats 400000 in
theorem iclone_nil (w : World) : Calls Try.prog 17 #[.pointer none] w fun e w' => e = .returned (.pointer none) ∧ w = w' := by
  go_enter Try.func17, Try.ntmps17
  go_wp2
  go_ret
  exact ⟨rfl, rfl⟩
set_option maxHeartbeats 400000 in
theorem iclone_at {w : World} {F : List Nat} {b : Nat} {l : List En} (h : Idx w F b l) : Calls Try.prog 17 #[.pointer (some ⟨b, 0, none⟩)] w (Cloned l w) := by
  obtain ⟨_, _, _, _, hsz, _⟩ := h.cell
  have HC := hide (entries_at h)
  clear h
  go_enter Try.func17, Try.ntmps17
  go_wp2_with (go_at_call 20; refine HC.out.mono ?_; rintro e w1 ⟨A1, c1, rfl, ht, ho, hn⟩; have HO := hide ho; have HT := hide ht; have HN := hide hn; clear ho ht hn)
  go_ret
  refine ⟨w1.heap.size :: blockOf A1, w1.heap.size, rfl, HT.out.alloc _, ⟨A1, c1, rfl, Blk.new _ _ _, own_turn HO.out ((Turn.refl [] _).alloc _) (by simp), hsz⟩, ?_⟩
  intro k hk
  simp only [List.mem_cons] at hk
  rcases hk with rfl | hk
  · exact HT.out.size
  · exact HN.out k hk

/-- the entries whose bytes these are. -/
def readL : Nat → List UInt8 → List En
  | 0, _ => []
  | n + 1, l => (Wire.rd8 (l.take 8), Wire.rd8 ((l.drop 8).take 8)) :: readL n (l.drop 16)
theorem readL_length (n : Nat) (l : List UInt8) : (readL n l).length = n := by
  induction n generalizing l with
  | zero => rfl
  | succ n ih => simp [readL, ih]
theorem readL_snoc (n : Nat) (l : List UInt8) : readL (n + 1) l = readL n l ++ [(Wire.rd8 ((l.drop (16 * n)).take 8), Wire.rd8 ((l.drop (16 * n + 8)).take 8))] := by
  induction n generalizing l with
  | zero => simp [readL]
  | succ n ih =>
    rw [readL, ih (l.drop 16)]
    simp only [readL, List.cons_append, List.drop_drop]
    rw [show 16 + 16 * n = 16 * (n + 1) by omega, show 16 + (16 * n + 8) = 16 * (n + 1) + 8 by omega]

def ReadIs (L : List En) (E : Int) (w : World) (e : Ending) (w' : World) : Prop :=
  ∃ A c, e = .returned (.tuple #[.slice A L.length c, .int .i64 E]) ∧ Turn [] w w' ∧ w'.ownsRow 0 30 2 (.slice A L.length c) L.length (ents L) ∧ ∀ k ∈ blockOf A, w.heap.size ≤ k
set_option maxHeartbeats 1600000 in
set_option maxRecDepth 100000 in
theorem read_no (w : World) (s : ByteArray) (hs : s.size ≤ 140737488351232) (h : s.size % 16 ≠ 0) : Calls Try.prog 23 #[.string s] w (ReadIs [] 29 w) := by
  have hm : ((s.size : Int) % 16 == 0) = false := by rw [beq_eq_false_iff_ne]; omega
  go_enter Try.func23, Try.ntmps23
  go_wp2_with fail
  go_ret2
  exact ⟨none, 0, rfl, Turn.refl _ _, World.ownsRow_nil _ _ _ _, by simp [blockOf]⟩

def rdAt (wr : World) (b : Nat) : Nat := (intOf ((wr.cell? ⟨b, 0, none⟩).getD .nilIface)).toNat
theorem rdAt_of {w : World} {b a : Nat} {s : ByteArray} (h : Wire.Rd w b s a) : rdAt w b = a := by
  have : w.cell? ⟨b, 0, none⟩ = some (.int .i64 a) := h.1.cell 0
  unfold rdAt
  rw [this]
  simp [intOf]
theorem HT34size {F : List Nat} {w w' : World} (h : Turn F w w') : w.heap.size ≤ w'.heap.size := h.size
set_option maxHeartbeats 4000000 in
set_option maxRecDepth 100000 in
theorem read_yes (w : World) (s : ByteArray) (n : Nat) (hn : s.size = 16 * n) (hs : s.size ≤ 140737488351232) : Calls Try.prog 23 #[.string s] w (ReadIs (readL n s.data.toList) 0 w) := by
  obtain ⟨i0, hi0, hz0, hz1, hz2⟩ := info_parts info30
  have hm : ((s.size : Int) % 16 == 0) = true := by rw [beq_iff_eq]; omega
  have hm2 : ((s.size : Int) % 16 != 0) = false := by rw [bne_eq_false_iff_eq]; omega
  have HN := hide hn
  clear hn
  go_enter Try.func23, Try.ntmps23
  go_wp2_with fail
  refine (Wire.newReader _ s (by omega)).mono ?_
  rintro e w1 ⟨rfl, ht, hr⟩
  have hbr : w.heap.size < w1.heap.size := hr.1.lt
  obtain ⟨br, hbr0⟩ : ∃ br, br = w.heap.size := ⟨_, rfl⟩
  rw [← hbr0] at hr hbr ⊢
  have HBR := hide hbr0
  have HT := hide ht
  have HR := hide hr
  clear hbr0 ht hr hm
  go_wp2_with fail
  go_loopw [4] (fun v wr => ∃ (k : Nat) (A : Option Addr) (c : Nat), k ≤ n ∧ v = .slice A k c ∧ wr.ownsRow 0 30 2 (.slice A k c) k (ents (readL k s.data.toList)) ∧ Wire.Rd wr br s (16 * k) ∧ Turn [] w wr ∧ ∀ x ∈ blockOf A, w.heap.size < x) (fun _ wr => s.size - rdAt wr br)
  case atStart => exact ⟨0, none, 0, Nat.zero_le _, rfl, World.ownsRow_nil _ _ _ _, HR.out, HT.out, by simp [blockOf]⟩
  case round =>
    obtain ⟨k, A, c, hk, rfl, ho, hrd, htw, hna⟩ := hrel
    have hsk := HN.out
    have hrk := rdAt_of hrd
    have HO := hide ho
    have HRD := hide hrd
    have HTW := hide htw
    have HNA := hide hna
    have HRK := hide hrk
    clear ho hrd htw hna hrk hsk
    by_cases hlt : k < n
    · have hl1 : (0 : Int) < ((s.size - 16 * k : Nat) : Int) := by have := HN.out; omega
      have hl2 : 0 < s.size - 16 * k := by have := HN.out; omega
      go_wp2_with fail
      refine (Wire.left_at HRD.out).mono ?_
      rintro e w2 ⟨rfl, nl, rfl⟩
      have HRD2 := hide (HRD.out.turn0 ((Turn.refl [] wr).drewN nl))
      go_wp2_with fail
      refine (Wire.readI64 HRD2.out (by have := HN.out; omega)).mono ?_
      rintro e w3 ⟨rfl, ht3, hr3⟩
      have HT3 := hide ht3
      have HR3 := hide hr3
      clear ht3 hr3
      go_wp2_with fail
      refine (Wire.readI64 HR3.out (by have := HN.out; omega)).mono ?_
      rintro e w4 ⟨rfl, ht4, hr4⟩
      have HT4 := hide ht4
      have HR4 := hide hr4
      clear ht4 hr4
      have hT34 : Turn [br] (wr.drewN nl) w4 := HT3.out.trans HT4.out (fun x hx => .inl hx)
      have hO4 := own_turn (own_turn HO.out ((Turn.refl [] wr).drewN nl) (by simp)) hT34 (fun g hg => by
        have := HNA.out g (by rw [ownBlock_slice] at hg; simp [blockOf, hg])
        have := HBR.out
        simp; omega)
      have HO4 := hide hO4
      have hsz4 := HT34size hT34
      have HT4w := hide ((HTW.out.drewN nl).trans hT34 (fun x hx => .inr (by have := HBR.out; simp at hx; omega)))
      have HS := hide (readL_snoc k s.data.toList)
      clear hO4 hT34
      obtain ⟨x, hx⟩ : ∃ x, x = wrap64 ↑(Wire.beVal (List.take 8 (List.drop (16 * k) s.data.toList))) := ⟨_, rfl⟩
      obtain ⟨y, hy⟩ : ∃ y, y = wrap64 ↑(Wire.beVal (List.take 8 (List.drop (16 * k + 8) s.data.toList))) := ⟨_, rfl⟩
      rw [← hx, ← hy]
      have HXY : Hid (readL (k + 1) s.data.toList = readL k s.data.toList ++ [(x, y)]) := hide (by rw [HS.out, hx, hy]; rfl)
      clear hx hy HS
      have hk8 : (k + 1) * 16 ≤ 140737488355328 := by have := HN.out; omega
      go_wp2_with (at_builtin; refine wpList_append_reads _ rfl (.tmp 29) (.tmp 33) 23 rfl 0 30 i0 _ 2 16 Try.underlying23 hi0 hz0 hz1 hz2 rfl (by decide) (.slice A k c) k (ents (readL k s.data.toList)) rfl (own_turn HO4.out ((Turn.refl [] _).alloc _) (by simp)) (some ⟨w4.heap.size, 0, none⟩) 1 1 (ents [(x, y)]) rfl (reads_blk (Blk.new_at rfl 30 #[.int .i64 x, .int .i64 y]) rfl) (ents_oneCell _) (by unfold maxLen; omega) (by omega) (Nat.zero_le _) ?_)
      intro v5 w5 ho5 hg5 hb5 hn5
      obtain ⟨A5, c5, rfl⟩ := own_form ho5
      have hA5 : ∀ x ∈ blockOf A5, w.heap.size < x := by
        intro x hx
        have hx' : (Value.slice A5 (k + 1) c5).ownBlock = some x := by rw [ownBlock_slice]; simpa [blockOf] using hx
        rcases hb5 with hb5 | hb5
        · rw [hb5, ownBlock_slice] at hx'
          exact HNA.out x (by simp [blockOf, hx'])
        · rw [hb5] at hx'
          have := HTW.out.size
          have := (HRD.out.1).lt
          have := HBR.out
          simp at hx' hsz4
          omega
      have ht45 : Turn (blockOf A) w4 w5 := ((Turn.refl _ _).alloc _).grown hg5 (fun g hg => .inl (by rw [ownBlock_slice] at hg; simp [blockOf, hg]))
      have hR5 := HR4.out.turn ht45 (fun hm => by have := HNA.out _ hm; have := HBR.out; omega)
      have hT5 := HT4w.out.trans ht45 (fun x hx => .inr (Nat.le_of_lt (HNA.out x hx)))
      have HR5 : Hid (Wire.Rd w5 br s (16 * (k + 1))) := hide (by rw [show 16 * (k + 1) = 16 * k + 8 + 8 by omega]; exact hR5)
      have HT5 := hide hT5
      have HO5 : Hid (w5.ownsRow 0 30 2 (.slice A5 (k + 1) c5) (k + 1) (ents (readL (k + 1) s.data.toList))) := hide (by rw [HXY.out, ents_append]; exact ho5)
      have HA5 := hide hA5
      clear ho5 hg5 hb5 hn5 hA5 ht45 hR5 hT5
      go_wp2_with fail
      refine ⟨⟨k + 1, A5, c5, by omega, rfl, HO5.out, HR5.out, HT5.out, HA5.out⟩, ?_⟩
      have h1 := rdAt_of HR5.out
      have h2 := HRK.out
      have h3 := HN.out
      omega
    · obtain rfl : k = n := by omega
      have hl1 : s.size - 16 * k = 0 := by have := HN.out; omega
      go_wp2_with fail
      refine (Wire.left_at HRD.out).mono ?_
      rintro e w2 ⟨rfl, nl, rfl⟩
      go_wp2_with fail
      go_ret2
      exact ⟨A, c, by rw [readL_length]; rfl, HTW.out.drewN _, by rw [readL_length]; exact HO.out, fun x hx => Nat.le_of_lt (HNA.out x hx)⟩
end Go.Proofs.Ytgjpaglkcpomnaa
