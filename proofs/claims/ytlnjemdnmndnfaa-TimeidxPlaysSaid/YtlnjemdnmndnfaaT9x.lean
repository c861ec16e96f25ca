/- Clones and reading, walked. -/
import Derived.Test.YtlnjemdnmndnfaaT8x
import Derived.Test.YtlnjemdnmndnfaaRead2
namespace Go.Proofs.Ytlnjemdnmndnfaa
set_option linter.unusedVariables false
set_option linter.unusedSimpArgs false
open Go.RowKit K

/-- a new list of entries. -/
def Fresh (L : List En) (w : World) (e : Ending) (w' : World) : Prop := ∃ A c, e = .returned (.slice A L.length c) ∧ OwnR w 29 2 A L.length c (ents L) w'
set_option maxHeartbeats 400000 in
set_option maxRecDepth 100000 in
theorem sclone_nil (w : World) (c : Nat) : Calls Try.prog 39 #[.slice none 0 c] w (Fresh [] w) := by
  have hq := fun (wx : World) => Lib.run_eql_slice_nil (P := Try.prog) wx 22 29 none 0 c 0 0 Try.underlying22
  go_enter Try.func39, Try.ntmps39
  go_wp2
  go_ret
  exact ⟨none, 0, rfl, OwnR.none_ _ _ _ (Turn.refl _ _)⟩
set_option maxHeartbeats 800000 in
set_option maxRecDepth 100000 in
theorem sclone_some {w : World} {a : Addr} {L : List En} (c : Nat) (hr : Reads w 2 (some a) L.length (ents L)) (hsz : L.length * 16 ≤ 140737488355328) : Calls Try.prog 39 #[.slice (some a) L.length c] w (Fresh L w) := by
  obtain ⟨i0, hi0, hz0, hz1, hz2⟩ := info_parts info29
  have hq := fun (wx : World) => Lib.run_eql_slice_nil (P := Try.prog) wx 22 29 (some a) L.length c 0 0 Try.underlying22
  have HR := hide hr
  clear hr
  have HO0 : Hid (OwnR w 29 2 (some ⟨w.heap.size, 0, none⟩) 0 0 [] (w.alloc (.cells #[] 29))) := hide ⟨⟨by simp, .inr ⟨w.heap.size, 0, #[], rfl, Nat.zero_le _, heap_alloc_new w _, Nat.le_refl _, by unfold maxLen; omega, rfl, rfl⟩⟩, by simp [blockOf], (by repeat first | exact Turn.refl _ _ | exact (show Hid (Turn [] _ _) by assumption).out | refine Turn.drew ?_ | refine Turn.drewN ?_ _ | refine Turn.alloc ?_ _)⟩
  go_enter Try.func39, Try.ntmps39
  go_wp2_with (at_builtin; refine wpList_append_reads _ rfl (.tmp 5) (.tmp 6) 22 rfl 0 29 i0 _ 2 16 Try.underlying22 hi0 hz0 hz1 hz2 rfl (by decide) (.slice (some ⟨w.heap.size, 0, none⟩) 0 0) 0 [] rfl HO0.out.own (some a) L.length c (ents L) rfl (HR.out.turn0 ((Turn.refl [] _).alloc _)) (ents_oneCell _) (by unfold maxLen; omega) (by omega) (Nat.zero_le _) ?_)
  intro v1 w1 ho hg hb hn
  obtain ⟨A1, c1, rfl, ho1, _⟩ := HO0.out.app (Turn.refl [] _) hg ho (by simpa using hb)
  have HO1 : Hid (OwnR w 29 2 A1 L.length c1 (ents L) w1) := hide (by simpa using ho1)
  clear ho hg hb hn ho1
  go_wp2
  go_ret
  exact ⟨A1, c1, by simp, HO1.out⟩
theorem sclone_any {w : World} {A : Option Addr} {L : List En} (c : Nat) (hr : Reads w 2 A L.length (ents L)) (hsz : L.length * 16 ≤ 140737488355328) : Calls Try.prog 39 #[.slice A L.length c] w (Fresh L w) := by
  cases A with
  | some a => exact sclone_some c hr hsz
  | none =>
    have h0 : L.length = 0 := by
      rcases Nat.eq_zero_or_pos L.length with h | h
      · exact h
      · obtain ⟨_, _, h2, _⟩ := hr.2 h; cases h2
    have := List.eq_nil_of_length_eq_zero h0
    subst this
    exact sclone_nil w c
def Cloned (l : List En) (w : World) (e : Ending) (w' : World) : Prop := ∃ F b, e = .returned (.pointer (some ⟨b, 0, none⟩)) ∧ Turn [] w w' ∧ Ix 45 w' F b l ∧ ∀ k ∈ F, w.heap.size ≤ k
set_option maxHeartbeats 400000 in
theorem clone_nil (w : World) : Calls Try.prog 23 #[.pointer none] w fun e w' => e = .returned (.pointer none) ∧ w = w' := by
  go_enter Try.func23, Try.ntmps23
  go_wp2_with fail
  go_ret
  exact ⟨rfl, rfl⟩
set_option maxHeartbeats 400000 in
theorem clone_at {w : World} {F : List Nat} {b : Nat} {l : List En} (h : Ix 45 w F b l) : Calls Try.prog 23 #[.pointer (some ⟨b, 0, none⟩)] w (Cloned l w) := by
  obtain ⟨A, c, hc0, hr, hsz, hb, _⟩ := h.cell
  have HC := hide (sclone_any c hr hsz)
  clear h hr
  go_enter Try.func23, Try.ntmps23
  go_wp2_with fail
  refine HC.out.mono ?_
  rintro e w1 ⟨A1, c1, rfl, ho⟩
  have HO := hide ho
  clear ho
  go_wp2_with fail
  go_ret
  refine ⟨w1.heap.size :: blockOf A1, w1.heap.size, rfl, HO.out.turn.alloc _, ⟨A1, c1, rfl, Blk.new _ _ _, own_turn0 HO.out.own (by repeat first | exact Turn.refl _ _ | exact (show Hid (Turn [] _ _) by assumption).out | refine Turn.drew ?_ | refine Turn.drewN ?_ _ | refine Turn.alloc ?_ _), hsz⟩, ?_⟩
  intro k hk
  rcases List.mem_cons.1 hk with rfl | hk
  · exact HO.out.turn.size
  · exact HO.out.new k hk

/-- the entries whose bytes these are. -/
def readL : Nat → List UInt8 → List En
  | 0, _ => []
  | n + 1, l => (Wire.rd8 (l.take 8), Wire.rd8 ((l.drop 8).take 8)) :: readL n (l.drop 16)
theorem readL_length (n : Nat) (l : List UInt8) : (readL n l).length = n := by
  induction n generalizing l with
  | zero => rfl
  | succ n ih => simp [readL, ih]
theorem readL_at (n : Nat) (l : List UInt8) (k : Nat) (hk : k < n) : (readL n l)[k]'(by rw [readL_length]; exact hk) = (Wire.rd8 ((l.drop (16 * k)).take 8), Wire.rd8 ((l.drop (16 * k + 8)).take 8)) := by
  induction n generalizing l k with
  | zero => omega
  | succ n ih =>
    cases k with
    | zero => simp [readL]
    | succ k =>
      have := ih (l.drop 16) k (by omega)
      simp only [readL, List.getElem_cons_succ, this, List.drop_drop]
      rw [show 16 + 16 * k = 16 * (k + 1) by omega, show 16 + (16 * k + 8) = 16 * (k + 1) + 8 by omega]
/-- entries laid one behind the other: all of them, or the first one's fault. -/
def loadOf : List En → List En → Option (List En) × Int
  | l, [] => (some l, 0)
  | l, e :: M => if appE l e = 0 then loadOf (l ++ [e]) M else (none, appE l e)
theorem appL_of {l : List En} {e : En} (h : appE l e = 0) : appL l e = l ++ [e] := by
  unfold appE at h
  unfold appL
  split at h
  · cases h
  · rename_i h1
    split at h
    · rename_i h2; rw [if_neg h1, if_pos h2]
    · cases h
def LoadYes (t : Nat) (L : List En) (w : World) (e : Ending) (w' : World) : Prop := ∃ F b, e = .returned (.tuple #[.pointer (some ⟨b, 0, none⟩), .int .i64 0]) ∧ Turn [] w w' ∧ Ix t w' F b L ∧ (∀ k ∈ F, w.heap.size ≤ k) ∧ Mono L
def LoadNo (E : Int) (w : World) (e : Ending) (w' : World) : Prop := e = .returned (.tuple #[.pointer none, .int .i64 E]) ∧ Turn [] w w'
/-- what a reading comes to. -/
def LoadIs (t : Nat) (r : Option (List En) × Int) (w : World) (e : Ending) (w' : World) : Prop := (∀ l, r.1 = some l → LoadYes t l w e w') ∧ (r.1 = none → LoadNo r.2 w e w')
theorem loadOf_step {L : List En} {k : Nat} (h : k < L.length) (hz : appE (L.take k) L[k] = 0) : loadOf (L.take k) (L.drop k) = loadOf (L.take (k + 1)) (L.drop (k + 1)) := by
  rw [List.drop_eq_getElem_cons h, loadOf, if_pos hz, List.take_succ_eq_append_getElem h]
theorem loadOf_no {L : List En} {k : Nat} (h : k < L.length) (hz : appE (L.take k) L[k] ≠ 0) : loadOf (L.take k) (L.drop k) = (none, appE (L.take k) L[k]) := by
  rw [List.drop_eq_getElem_cons h, loadOf, if_neg hz]
theorem turn_mid {w0 wr w1 : World} {F : List Nat} (h : Turn [] w0 wr) (ht : Turn F wr w1) (hF : ∀ k ∈ F, w0.heap.size ≤ k) : Turn [] w0 w1 := h.trans ht (fun x hx => .inr (hF x hx))
theorem rd8_eq (l : List UInt8) : Wire.rd8 l = wrap64 ((Wire.beVal l : Nat) : Int) := rfl

set_option maxHeartbeats 1600000 in
set_option maxRecDepth 100000 in
theorem read_no (w : World) (s : ByteArray) (hs : s.size ≤ 140737488351232) (h : s.size % 16 ≠ 0) : Calls Try.prog 24 #[.string s] w (LoadNo 29 w) := by
  have hm : ((s.size : Int) % 16 == 0) = false := by rw [beq_eq_false_iff_ne]; omega
  go_enter Try.func24, Try.ntmps24
  go_wp2_with fail
  go_ret2
  exact ⟨rfl, Turn.refl _ _⟩

set_option maxHeartbeats 1600000 in
set_option maxRecDepth 100000 in
theorem rread_no (w : World) (s : ByteArray) (hs : s.size ≤ 140737488351232) (h : s.size % 16 ≠ 0) : Calls Try.prog 25 #[.string s] w (LoadNo 29 w) := by
  have hm : ((s.size : Int) % 16 == 0) = false := by rw [beq_eq_false_iff_ne]; omega
  go_enter Try.func25, Try.ntmps25
  go_wp2_with fail
  go_ret2
  exact ⟨rfl, Turn.refl _ _⟩

def readPos (wr : World) (b : Nat) : Nat := (intOf ((wr.cell? ⟨b, 0, none⟩).getD .nilIface)).toNat
theorem readPos_of {w : World} {b a : Nat} {s : ByteArray} (h : Wire.Rd w b s a) : readPos w b = a := by
  have : w.cell? ⟨b, 0, none⟩ = some (.int .i64 a) := h.1.cell 0
  unfold readPos
  rw [this]
  simp [intOf]
set_option maxHeartbeats 8000000 in
set_option maxRecDepth 100000 in
theorem read_yes (w : World) (s : ByteArray) (n : Nat) (hn : s.size = 16 * n) (hs : s.size ≤ 140737488351232) : Calls Try.prog 24 #[.string s] w (LoadIs 45 (loadOf [] (readL n s.data.toList)) w) := by
  have hm : ((s.size : Int) % 16 == 0) = true := by rw [beq_iff_eq]; omega
  have hm2 : ((s.size : Int) % 16 != 0) = false := by rw [bne_eq_false_iff_eq]; omega
  have HN := hide hn
  have hl0 := readL_length n s.data.toList
  obtain ⟨L, hL⟩ : ∃ L, L = readL n s.data.toList := ⟨_, rfl⟩
  have HAt : Hid (∀ k (h : k < L.length), L[k] = (Wire.rd8 ((s.data.toList.drop (16 * k)).take 8), Wire.rd8 ((s.data.toList.drop (16 * k + 8)).take 8))) := hide (fun k h => by subst hL; exact readL_at n s.data.toList k (by rw [hl0] at h; exact h))
  rw [← hL] at hl0 ⊢
  clear hL
  have HL0 := hide hl0
  clear hl0 hn
  go_enter Try.func24, Try.ntmps24
  go_wp2_with fail
  refine (new_any _).mono ?_
  rintro e w1 ⟨b, rfl, hb, ht1, hx1⟩
  have HT1 := hide ht1
  have HX1 := hide hx1
  have HNb : Hid (w.heap.size ≤ b) := hide hb
  clear ht1 hx1 hb hm hm2
  go_wp2_with fail
  refine (Wire.newReader _ s (by omega)).mono ?_
  rintro e w2 ⟨rfl, ht2, hr2⟩
  obtain ⟨d, hd⟩ : ∃ d, d = w1.heap.size := ⟨_, rfl⟩
  rw [← hd] at hr2 ⊢
  have HDn : Hid (w.heap.size ≤ d) := hide (by rw [hd]; exact HT1.out.size)
  have HDb : Hid (∀ x ∈ [b], w.heap.size ≤ x ∧ x ≠ d) := hide (fun x hx => by
    have := HX1.out.lt x hx
    simp at hx
    subst hx
    exact ⟨HNb.out, by omega⟩)
  have HT2 := hide (HT1.out.trans0 ht2)
  have HX2 := hide (HX1.out.turn0 ht2)
  have HR2 := hide hr2
  clear ht2 hr2 hd HX1 HT1
  go_wp2_with fail
  go_loopw [6] (fun _ wr => ∃ (k : Nat) (F : List Nat), k ≤ n ∧ Ix 45 wr F b (L.take k) ∧ Wire.Rd wr d s (16 * k) ∧ Turn [] w wr ∧ (∀ x ∈ F, w.heap.size ≤ x ∧ x ≠ d) ∧ Mono (L.take k) ∧ loadOf [] L = loadOf (L.take k) (L.drop k)) (fun _ wr => s.size - readPos wr d)
  case atStart => exact ⟨0, [b], Nat.zero_le _, by simpa using HX2.out, HR2.out, HT2.out, HDb.out, by simpa using mono_nil, by simp⟩
  case round =>
    obtain ⟨k, F, hk, hx, hrd, htw, hF, hmo, hlo⟩ := hrel
    have HK := hide (readPos_of hrd)
    have HX := hide hx
    have HR := hide hrd
    have HT := hide htw
    have HF := hide hF
    have HM := hide hmo
    have HLo := hide hlo
    clear hx hrd htw hF hmo hlo
    by_cases hlt : k < n
    · have hl1 : (0 : Int) < ((s.size - 16 * k : Nat) : Int) := by have := HN.out; omega
      have hl2 : 0 < s.size - 16 * k := by have := HN.out; omega
      go_wp2_with fail
      refine (Wire.left_at HR.out).mono ?_
      rintro e w3 ⟨rfl, nl, rfl⟩
      have HR3 := hide (HR.out.turn0 ((Turn.refl [] wr).drewN nl))
      go_wp2_with fail
      refine (Wire.readI64 HR3.out (by have := HN.out; omega)).mono ?_
      rintro e w4 ⟨rfl, ht4, hr4⟩
      have HT4 := hide (((Turn.refl [] wr).drewN nl).mono (by simp) |>.trans ht4 (fun x hx => .inl hx))
      have HR4 := hide hr4
      clear ht4 hr4
      go_wp2_with fail
      refine (Wire.readI64 HR4.out (by have := HN.out; omega)).mono ?_
      rintro e w5 ⟨rfl, ht5, hr5⟩
      have HT5 : Hid (Turn [d] wr w5) := hide (HT4.out.trans ht5 (fun x hx => .inl hx))
      have HR5 : Hid (Wire.Rd w5 d s (16 * (k + 1))) := hide (by rw [show 16 * (k + 1) = 16 * k + 8 + 8 by omega]; exact hr5)
      have hkl : k < L.length := by rw [HL0.out]; exact hlt
      have HX5 : Hid (Ix 45 w5 F b (L.take k)) := hide (HX.out.turn HT5.out (fun x hx hd => (HF.out x hx).2 (by simpa using hd)))
      have HTw5 : Hid (Turn [] w w5) := hide (HT.out.trans HT5.out (fun x hx => .inr (by simp at hx; subst hx; exact HDn.out)))
      have HE : Hid (L[k] = (Wire.rd8 ((s.data.toList.drop (16 * k)).take 8), Wire.rd8 ((s.data.toList.drop (16 * k + 8)).take 8))) := hide (HAt.out k hkl)
      clear ht5 hr5 HT4
      simp only [← rd8_eq]
      obtain ⟨x, hx⟩ : ∃ x, x = Wire.rd8 ((s.data.toList.drop (16 * k)).take 8) := ⟨_, rfl⟩
      obtain ⟨y, hy⟩ : ∃ y, y = Wire.rd8 ((s.data.toList.drop (16 * k + 8)).take 8) := ⟨_, rfl⟩
      rw [← hx, ← hy] at HE
      rw [← hx, ← hy]
      clear hx hy
      go_wp2_with fail
      refine (app_at HX5.out x y (by rw [List.length_take]; have := HN.out; omega)).mono ?_
      rintro e w6 ⟨F6, rfl, ht6, hx6, hf6⟩
      have HT6 : Hid (Turn [] w w6) := hide (HTw5.out.trans ht6 (fun x hx => .inr (HF.out x hx).1))
      have HR6 : Hid (Wire.Rd w6 d s (16 * (k + 1))) := hide (HR5.out.turn ht6 (fun hd => (HF.out d hd).2 rfl))
      have HF6 : Hid (∀ x ∈ F6, w.heap.size ≤ x ∧ x ≠ d) := hide (fun x hx => by
        rcases hf6 x hx with h | h
        · exact HF.out x h
        · have h1 := HTw5.out.size
          have h2 := HR5.out.1.lt
          exact ⟨by omega, by omega⟩)
      by_cases hz : appE (L.take k) (x, y) = 0
      · have HX6 : Hid (Ix 45 w6 F6 b (L.take (k + 1))) := hide (by rw [List.take_succ_eq_append_getElem hkl, HE.out, ← appL_of hz]; exact hx6)
        have HM6 : Hid (Mono (L.take (k + 1))) := hide (by rw [List.take_succ_eq_append_getElem hkl, HE.out, ← appL_of hz]; exact mono_appL HM.out _)
        have HL6 : Hid (loadOf [] L = loadOf (L.take (k + 1)) (L.drop (k + 1))) := hide (by rw [HLo.out]; exact loadOf_step hkl (by rw [HE.out]; exact hz))
        rw [hz]
        clear ht6 hx6 hf6 hz
        go_wp2_with fail
        refine ⟨⟨k + 1, F6, by omega, HX6.out, HR6.out, HT6.out, HF6.out, HM6.out, HL6.out⟩, ?_⟩
        have h1 := readPos_of HR6.out
        have h2 := HK.out
        have h3 := HN.out
        omega
      · have HL6 : Hid (loadOf [] L = (none, appE (L.take k) (x, y))) := hide (by rw [HLo.out, loadOf_no hkl (by rw [HE.out]; exact hz), HE.out])
        clear ht6 hx6 hf6
        generalize appE (L.take k) (x, y) = E at *
        go_wp2_with fail
        go_ret2
        rw [HL6.out]
        exact ⟨fun l h => by simp at h, fun _ => ⟨rfl, HT6.out⟩⟩
    · obtain rfl : k = n := by omega
      have hl1 : s.size - 16 * k = 0 := by have := HN.out; omega
      have HL6 : Hid (loadOf [] L = (some L, 0)) := hide (by rw [HLo.out, List.take_of_length_le (by rw [HL0.out]; exact Nat.le_refl _), List.drop_of_length_le (by rw [HL0.out]; exact Nat.le_refl _)]; rfl)
      have HXk : Hid (Ix 45 wr F b L) := hide (by have := HX.out; rwa [List.take_of_length_le (by rw [HL0.out]; exact Nat.le_refl _)] at this)
      have HMk : Hid (Mono L) := hide (by have := HM.out; rwa [List.take_of_length_le (by rw [HL0.out]; exact Nat.le_refl _)] at this)
      go_wp2_with fail
      refine (Wire.left_at HR.out).mono ?_
      rintro e w2 ⟨rfl, nl, rfl⟩
      go_wp2_with fail
      go_ret2
      rw [HL6.out]
      refine ⟨fun l h => ?_, fun h => by simp at h⟩
      obtain rfl : L = l := by simpa using h
      exact ⟨F, b, rfl, HT.out.drewN _, HXk.out.turn0 ((Turn.refl [] _).drewN _), fun k hk => (HF.out k hk).1, HMk.out⟩

def rreadPos (wr : World) (b : Nat) : Nat := (intOf ((wr.cell? ⟨b, 1, none⟩).getD .nilIface)).toNat
theorem rreadPos_of {w : World} {b a : Nat} {s : ByteArray} (h : RR.Rd w b s a) : rreadPos w b = a := by
  have : w.cell? ⟨b, 1, none⟩ = some (.int .i64 a) := h.1.cell 1
  unfold rreadPos
  rw [this]
  simp [intOf]
set_option maxHeartbeats 8000000 in
set_option maxRecDepth 100000 in
theorem rread_yes (w : World) (s : ByteArray) (n : Nat) (hn : s.size = 16 * n) (hs : s.size ≤ 140737488351232) : Calls Try.prog 25 #[.string s] w (LoadIs 34 (loadOf [] (readL n s.data.toList)) w) := by
  have hm : ((s.size : Int) % 16 == 0) = true := by rw [beq_iff_eq]; omega
  have hm2 : ((s.size : Int) % 16 != 0) = false := by rw [bne_eq_false_iff_eq]; omega
  have HN := hide hn
  have hl0 := readL_length n s.data.toList
  obtain ⟨L, hL⟩ : ∃ L, L = readL n s.data.toList := ⟨_, rfl⟩
  have HAt : Hid (∀ k (h : k < L.length), L[k] = (Wire.rd8 ((s.data.toList.drop (16 * k)).take 8), Wire.rd8 ((s.data.toList.drop (16 * k + 8)).take 8))) := hide (fun k h => by subst hL; exact readL_at n s.data.toList k (by rw [hl0] at h; exact h))
  rw [← hL] at hl0 ⊢
  clear hL
  have HL0 := hide hl0
  clear hl0 hn
  go_enter Try.func25, Try.ntmps25
  go_wp2_with fail
  refine (rnew _).mono ?_
  rintro e w1 ⟨b, rfl, hb, ht1, hx1⟩
  have HT1 := hide ht1
  have HX1 := hide hx1
  have HNb : Hid (w.heap.size ≤ b) := hide hb
  clear ht1 hx1 hb hm hm2
  go_wp2_with fail
  refine (RR.new_any _ s (by omega)).mono ?_
  rintro e w2 ⟨rfl, ht2, hr2⟩
  obtain ⟨d, hd⟩ : ∃ d, d = w1.heap.size := ⟨_, rfl⟩
  rw [← hd] at hr2 ⊢
  have HDn : Hid (w.heap.size ≤ d) := hide (by rw [hd]; exact HT1.out.size)
  have HDb : Hid (∀ x ∈ [b], w.heap.size ≤ x ∧ x ≠ d) := hide (fun x hx => by
    have := HX1.out.lt x hx
    simp at hx
    subst hx
    exact ⟨HNb.out, by omega⟩)
  have HT2 := hide (HT1.out.trans0 ht2)
  have HX2 := hide (HX1.out.turn0 ht2)
  have HR2 := hide hr2
  clear ht2 hr2 hd HX1 HT1
  go_wp2_with fail
  go_loopw [6] (fun _ wr => ∃ (k : Nat) (F : List Nat), k ≤ n ∧ Ix 34 wr F b (L.take k) ∧ RR.Rd wr d s (16 * k) ∧ Turn [] w wr ∧ (∀ x ∈ F, w.heap.size ≤ x ∧ x ≠ d) ∧ Mono (L.take k) ∧ loadOf [] L = loadOf (L.take k) (L.drop k)) (fun _ wr => s.size - rreadPos wr d)
  case atStart => exact ⟨0, [b], Nat.zero_le _, by simpa using HX2.out, HR2.out, HT2.out, HDb.out, by simpa using mono_nil, by simp⟩
  case round =>
    obtain ⟨k, F, hk, hx, hrd, htw, hF, hmo, hlo⟩ := hrel
    have HK := hide (rreadPos_of hrd)
    have HX := hide hx
    have HR := hide hrd
    have HT := hide htw
    have HF := hide hF
    have HM := hide hmo
    have HLo := hide hlo
    clear hx hrd htw hF hmo hlo
    by_cases hlt : k < n
    · have hl1 : (0 : Int) < ((s.size - 16 * k : Nat) : Int) := by have := HN.out; omega
      have hl2 : 0 < s.size - 16 * k := by have := HN.out; omega
      go_wp2_with fail
      refine (RR.left_at HR.out).mono ?_
      rintro e w3 ⟨rfl, nl, rfl⟩
      have HR3 := hide (HR.out.turn0 ((Turn.refl [] wr).drewN nl))
      go_wp2_with fail
      refine (RR.i64_at HR3.out (by have := HN.out; omega)).mono ?_
      rintro e w4 ⟨rfl, ht4, hr4⟩
      have HT4 := hide (((Turn.refl [] wr).drewN nl).mono (by simp) |>.trans ht4 (fun x hx => .inl hx))
      have HR4 := hide hr4
      clear ht4 hr4
      go_wp2_with fail
      refine (RR.i64_at HR4.out (by have := HN.out; omega)).mono ?_
      rintro e w5 ⟨rfl, ht5, hr5⟩
      have HT5 : Hid (Turn [d] wr w5) := hide (HT4.out.trans ht5 (fun x hx => .inl hx))
      have HR5 : Hid (RR.Rd w5 d s (16 * (k + 1))) := hide (by rw [show 16 * (k + 1) = 16 * k + 8 + 8 by omega]; exact hr5)
      have hkl : k < L.length := by rw [HL0.out]; exact hlt
      have HX5 : Hid (Ix 34 w5 F b (L.take k)) := hide (HX.out.turn HT5.out (fun x hx hd => (HF.out x hx).2 (by simpa using hd)))
      have HTw5 : Hid (Turn [] w w5) := hide (HT.out.trans HT5.out (fun x hx => .inr (by simp at hx; subst hx; exact HDn.out)))
      have HE : Hid (L[k] = (Wire.rd8 ((s.data.toList.drop (16 * k)).take 8), Wire.rd8 ((s.data.toList.drop (16 * k + 8)).take 8))) := hide (HAt.out k hkl)
      clear ht5 hr5 HT4
      obtain ⟨x, hx⟩ : ∃ x, x = Wire.rd8 ((s.data.toList.drop (16 * k)).take 8) := ⟨_, rfl⟩
      obtain ⟨y, hy⟩ : ∃ y, y = Wire.rd8 ((s.data.toList.drop (16 * k + 8)).take 8) := ⟨_, rfl⟩
      rw [← hx, ← hy] at HE
      rw [← hx, ← hy]
      clear hx hy
      go_wp2_with fail
      refine (rapp HX5.out x y (by rw [List.length_take]; have := HN.out; omega)).mono ?_
      rintro e w6 ⟨F6, rfl, ht6, hx6, hf6⟩
      have HT6 : Hid (Turn [] w w6) := hide (HTw5.out.trans ht6 (fun x hx => .inr (HF.out x hx).1))
      have HR6 : Hid (RR.Rd w6 d s (16 * (k + 1))) := hide (HR5.out.turn ht6 (fun hd => (HF.out d hd).2 rfl))
      have HF6 : Hid (∀ x ∈ F6, w.heap.size ≤ x ∧ x ≠ d) := hide (fun x hx => by
        rcases hf6 x hx with h | h
        · exact HF.out x h
        · have h1 := HTw5.out.size
          have h2 := HR5.out.1.lt
          exact ⟨by omega, by omega⟩)
      by_cases hz : appE (L.take k) (x, y) = 0
      · have HX6 : Hid (Ix 34 w6 F6 b (L.take (k + 1))) := hide (by rw [List.take_succ_eq_append_getElem hkl, HE.out, ← appL_of hz]; exact hx6)
        have HM6 : Hid (Mono (L.take (k + 1))) := hide (by rw [List.take_succ_eq_append_getElem hkl, HE.out, ← appL_of hz]; exact mono_appL HM.out _)
        have HL6 : Hid (loadOf [] L = loadOf (L.take (k + 1)) (L.drop (k + 1))) := hide (by rw [HLo.out]; exact loadOf_step hkl (by rw [HE.out]; exact hz))
        rw [hz]
        clear ht6 hx6 hf6 hz
        go_wp2_with fail
        refine ⟨⟨k + 1, F6, by omega, HX6.out, HR6.out, HT6.out, HF6.out, HM6.out, HL6.out⟩, ?_⟩
        have h1 := rreadPos_of HR6.out
        have h2 := HK.out
        have h3 := HN.out
        omega
      · have HL6 : Hid (loadOf [] L = (none, appE (L.take k) (x, y))) := hide (by rw [HLo.out, loadOf_no hkl (by rw [HE.out]; exact hz), HE.out])
        clear ht6 hx6 hf6
        generalize appE (L.take k) (x, y) = E at *
        go_wp2_with fail
        go_ret2
        rw [HL6.out]
        exact ⟨fun l h => by simp at h, fun _ => ⟨rfl, HT6.out⟩⟩
    · obtain rfl : k = n := by omega
      have hl1 : s.size - 16 * k = 0 := by have := HN.out; omega
      have HL6 : Hid (loadOf [] L = (some L, 0)) := hide (by rw [HLo.out, List.take_of_length_le (by rw [HL0.out]; exact Nat.le_refl _), List.drop_of_length_le (by rw [HL0.out]; exact Nat.le_refl _)]; rfl)
      have HXk : Hid (Ix 34 wr F b L) := hide (by have := HX.out; rwa [List.take_of_length_le (by rw [HL0.out]; exact Nat.le_refl _)] at this)
      have HMk : Hid (Mono L) := hide (by have := HM.out; rwa [List.take_of_length_le (by rw [HL0.out]; exact Nat.le_refl _)] at this)
      go_wp2_with fail
      refine (RR.left_at HR.out).mono ?_
      rintro e w2 ⟨rfl, nl, rfl⟩
      go_wp2_with fail
      go_ret2
      rw [HL6.out]
      refine ⟨fun l h => ?_, fun h => by simp at h⟩
      obtain rfl : L = l := by simpa using h
      exact ⟨F, b, rfl, HT.out.drewN _, HXk.out.turn0 ((Turn.refl [] _).drewN _), fun k hk => (HF.out k hk).1, HMk.out⟩
end Go.Proofs.Ytlnjemdnmndnfaa
