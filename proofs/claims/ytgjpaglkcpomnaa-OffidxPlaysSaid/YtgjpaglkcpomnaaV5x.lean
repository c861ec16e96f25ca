/- The document's bytes of entries, walked: number, Put, Bytes. -/
import Derived.Test.YtgjpaglkcpomnaaV4x
namespace Go.Proofs.Ytgjpaglkcpomnaa
set_option linter.unusedVariables false
set_option linter.unusedSimpArgs false
open Go.RowKit K

theorem info5 : (Try.prog.info? 5).map (fun i => (i.zero, i.size, i.bytes)) = some (some (.int .u8 0), 1, 1) := by kernel_rfl
def Num (x : Int) (w : World) (e : Ending) (w' : World) : Prop := ∃ g, e = .returned (.slice (some ⟨g, 0, none⟩) 8 8) ∧ w.heap.size ≤ g ∧ Turn [] w w' ∧ Reads w' 1 (some ⟨g, 0, none⟩) 8 (bytesV (Wire.be8 x))
theorem shift8 (m k : Nat) (h : k ≤ 7) : m / 2 ^ (8 * (8 - (k + 1))) / 256 = m / 2 ^ (8 * (8 - k)) := by
  rw [Nat.div_div_eq_div_mul, show (256 : Nat) = 2 ^ 8 from rfl, ← Nat.pow_add]
  congr 2
  omega
set_option maxHeartbeats 800000 in
theorem rnumber (w : World) (x : Int) : Calls Try.prog 53 #[.int .i64 x] w (Num x w) := by
  obtain ⟨m, hm⟩ := Int.eq_ofNat_of_zero_le (Int.emod_nonneg x (show (18446744073709551616 : Int) ≠ 0 by omega))
  have hlt : m < 18446744073709551616 := by omega
  have hb : Hid (Wire.be8 x = Wire.beN 8 m) := hide (by unfold Wire.be8; rw [hm]; rfl)
  have hw : IntKind.u64.wrap x = (m : Int) := by rw [← hm]; rfl
  clear hm
  have hmk : ∀ u : World, (Instr.makeSlice 81 (.int .i64 8) (.int .i64 8)).run Try.prog u = .ok (.slice (some ⟨u.heap.size, 0, none⟩) 8 8) (u.alloc (.cells #[.int .u8 0, .int .u8 0, .int .u8 0, .int .u8 0, .int .u8 0, .int .u8 0, .int .u8 0, .int .u8 0] 5)) := fun _ => by kernel_rfl
  go_enter Try.func53, Try.ntmps53
  go_wp2_with fail
  clear hw hmk
  go_loopw [4, 5] (fun u i wr => ∃ (k : Nat) (cs : Array Value), k ≤ 8 ∧ i = .int .i64 ((k : Int) - 1) ∧ u = .int .u64 ((m / 2 ^ (8 * (8 - k)) : Nat) : Int) ∧ wr = w.alloc (.cells cs 5) ∧ cs.size = 8 ∧ ∀ j, k ≤ j → j < 8 → cs[j]? = some (.int .u8 (Wire.byteAt 8 m j))) (fun _ i _ => (intOf i + 1).toNat)
  case atStart => exact ⟨8, _, Nat.le_refl _, rfl, by simp, rfl, rfl, fun j h1 h2 => by omega⟩
  case round =>
    obtain ⟨k, cs, hk, rfl, rfl, rfl, hcs, hall⟩ := hrel
    have HA := hide hall
    clear hall
    rcases Nat.eq_zero_or_pos k with rfl | hpos
    · have hrd : Reads (w.alloc (.cells cs 5)) 1 (some ⟨w.heap.size, 0, none⟩) 8 (bytesV (Wire.beN 8 m)) := by
        refine ⟨by rw [bytesV_length, Wire.beN_length], fun _ => ⟨w.heap.size, 0, rfl, by simp, fun j u hu => ?_⟩⟩
        have hj : j < 8 := by
          have := (List.getElem?_eq_some_iff.1 hu).1
          rwa [bytesV_length, Wire.beN_length] at this
        rw [Nat.zero_add, (Blk.new w 5 cs).cell j, HA.out j (Nat.zero_le _) hj]
        simp [bytesV, Wire.beN, hj] at hu
        have hb : Wire.byteAt 8 m j < 256 := Nat.mod_lt _ (by omega)
        have e : ((Wire.byteAt 8 m j : Nat) : Int) % 256 = Wire.byteAt 8 m j := by omega
        rw [← hu, e]
      have HRd := hide hrd
      clear hrd
      go_wp2_with fail
      go_ret
      exact ⟨w.heap.size, rfl, Nat.le_refl _, (Turn.refl _ _).alloc _, by rw [hb.out]; exact HRd.out⟩
    · obtain ⟨i, rfl⟩ : ∃ i, k = i + 1 := ⟨k - 1, by omega⟩
      rw [show (((i + 1 : Nat) : Int) - 1) = (i : Int) by omega]
      have hi : i < 8 := by omega
      have hi' : (i : Int) < 8 := by omega
      have hc := (Blk.new w 5 cs).cell i
      have hc2 : cs[i]? = some cs[i] := Array.getElem?_eq_getElem (by omega)
      have hS : Hid (m / 2 ^ (8 * (8 - i)) = m / 2 ^ (8 * (8 - (i + 1))) / 256) := hide (shift8 m i (by omega)).symm
      have hB : Hid (Wire.byteAt 8 m i = m / 2 ^ (8 * (8 - (i + 1))) % 256) := hide (by unfold Wire.byteAt; rw [show 8 * (8 - 1 - i) = 8 * (8 - (i + 1)) by omega])
      have hle : m / 2 ^ (8 * (8 - (i + 1))) ≤ m := Nat.div_le_self _ _
      obtain ⟨v, hv⟩ : ∃ v, v = m / 2 ^ (8 * (8 - (i + 1))) := ⟨_, rfl⟩
      rw [← hv] at hS hB hle ⊢
      clear hv
      have hnew : ∀ j, i ≤ j → j < 8 → (cs.setIfInBounds i (.int .u8 ((v : Int) % 256)))[j]? = some (.int .u8 (Wire.byteAt 8 m j)) := by
        intro j h1 h2
        by_cases hjk : j = i
        · subst hjk
          rw [hB.out]
          simp [hcs, h2]
        · rw [Array.getElem?_setIfInBounds_ne (Ne.symm hjk)]
          exact HA.out j (by omega) h2
      have HN := hide hnew
      clear hnew
      go_wp2_with fail
      exact ⟨⟨i, _, by omega, rfl, by rw [hS.out]; go_num, rfl, by simpa using hcs, HN.out⟩, by simp [intOf]⟩

/-- the bytes so far, in a row of the call's own. -/
structure PutRel (w : World) (A : Option Addr) (c : Nat) (bs : List UInt8) (wr : World) : Prop where
  own : wr.ownsRow 0 5 1 (.slice A bs.length c) bs.length (bytesV bs)
  new : ∀ k ∈ blockOf A, w.heap.size ≤ k
  turn : Turn [] w wr
theorem PutRel.lt {w wr : World} {A : Option Addr} {c : Nat} {bs : List UInt8} (h : PutRel w A c bs wr) : ∀ k ∈ blockOf A, k < wr.heap.size := fun k hk => (h.own.lt k (by rw [ownBlock_slice]; simpa [blockOf] using hk)).2
theorem PutRel.turn0 {w wr w1 : World} {A : Option Addr} {c : Nat} {bs : List UInt8} (h : PutRel w A c bs wr) (ht : Turn [] wr w1) : PutRel w A c bs w1 := ⟨own_turn h.own ht (by simp), h.new, h.turn.trans0 ht⟩
theorem PutRel.app {w wr w1 : World} {A A1 : Option Addr} {c c1 : Nat} {bs cs : List UInt8} (h : PutRel w A c bs wr) (hg : wr.grownBy w1 (Value.slice A bs.length c).ownBlock)
    (ho : w1.ownsRow 0 5 1 (.slice A1 (bs.length + cs.length) c1) (bs.length + cs.length) (bytesV bs ++ bytesV cs))
    (hb : (Value.slice A1 (bs.length + cs.length) c1).ownBlock = (Value.slice A bs.length c).ownBlock ∨ (Value.slice A1 (bs.length + cs.length) c1).ownBlock = some wr.heap.size) :
    PutRel w A1 c1 (bs ++ cs) w1 ∧ Turn (blockOf A) wr w1 := by
  have hrow : ∀ g, (Value.slice A bs.length c).ownBlock = some g → g ∈ blockOf A := fun g hg' => by rw [ownBlock_slice] at hg'; simp [blockOf, hg']
  refine ⟨⟨by rw [List.length_append, bytesV_append]; exact ho, ?_, h.turn.grown hg (fun g hg' => .inr (h.new g (hrow g hg')))⟩, (Turn.refl _ _).grown hg (fun g hg' => .inl (hrow g hg'))⟩
  intro k hk
  have hk' : (Value.slice A1 (bs.length + cs.length) c1).ownBlock = some k := by rw [ownBlock_slice]; simpa [blockOf] using hk
  rcases hb with hb | hb
  · rw [hb] at hk'; exact h.new k (hrow k hk')
  · rw [hb] at hk'; injection hk' with hk'; have := h.turn.size; omega

set_option maxHeartbeats 1600000 in
set_option maxRecDepth 100000 in
theorem rput {w : World} {A : Option Addr} {L : List En} (c : Nat) (hr : Reads w 2 A L.length (ents L)) (hsz : L.length * 16 ≤ 140737488355328) : Calls Try.prog 26 #[.slice A L.length c] w (Str (putB L) w) := by
  obtain ⟨i0, hi0, hz0, hz1, hz2⟩ := info_parts info5
  have HR := hide hr
  clear hr
  go_enter Try.func26, Try.ntmps26
  go_wp2_with fail
  go_loopw [3, 4] (fun v i wr => ∃ (k : Nat) (A3 : Option Addr) (c3 : Nat), k ≤ L.length ∧ i = .int .i64 k ∧ v = .slice A3 (putB (L.take k)).length c3 ∧ PutRel w A3 c3 (putB (L.take k)) wr) (fun _ i _ => L.length - (intOf i).toNat)
  case atStart => exact ⟨0, none, 0, Nat.zero_le _, rfl, rfl, World.ownsRow_nil _ _ _ _, by simp [blockOf], Turn.refl _ _⟩
  case round =>
    obtain ⟨k, A3, c3, hk, rfl, rfl, hP⟩ := hrel
    by_cases hlt : k < L.length
    · obtain ⟨g, off, rfl, hg, hx, hy⟩ := reads_ent (HR.out.turn0 hP.turn) hlt
      have hstep : Hid (putB (L.take (k + 1)) = putB (L.take k) ++ Wire.be8 L[k].1 ++ Wire.be8 L[k].2) := hide (putB_take L k hlt)
      have hlen : (putB (L.take k)).length ≤ k * 16 := by rw [putB_length, List.length_take]; omega
      obtain ⟨bs, hbs⟩ : ∃ bs, bs = putB (L.take k) := ⟨_, rfl⟩
      rw [← hbs] at hstep hlen hP ⊢
      clear hbs
      obtain ⟨⟨x, y⟩, he⟩ : ∃ e, e = L[k] := ⟨_, rfl⟩
      rw [← he] at hx hy hstep
      clear he
      have HP := hide hP
      clear hP
      have hb1 : bs.length + 8 ≤ 140737488355328 := by omega
      have hb2 : bs.length + 8 + 8 ≤ 140737488355328 := by omega
      go_wp2_with fail
      refine (rnumber _ x).mono ?_
      rintro e w1 ⟨g1, rfl, hg1, ht1, hr1⟩
      have HT1 := hide ht1
      have HR1 := hide hr1
      have HP1 := hide (HP.out.turn0 ht1)
      have hy1 : w1.cell? ⟨g, off + k * 2 + 1, none⟩ = some (.int .i64 y) := (ht1.cell (by simpa using hg) (by simp)).trans hy
      clear ht1 hr1 hx hy
      go_wp2_with fail
      refine (rnumber _ y).mono ?_
      rintro e w2 ⟨g2, rfl, hg2, ht2, hr2⟩
      have HT2 := hide ht2
      have HR12 := hide (HR1.out.turn0 ht2)
      have HR2 := hide hr2
      have HP2 := hide (HP1.out.turn0 ht2)
      clear ht2 hr2 hy1
      go_wp2_with (at_builtin; refine wpList_append_reads _ rfl (.tmp 25) (.tmp 26) 81 rfl 0 5 i0 _ 1 1 Try.underlying81 hi0 hz0 hz1 hz2 rfl (by decide) (.slice A3 bs.length c3) bs.length (bytesV bs) rfl HP2.out.own (some ⟨g1, 0, none⟩) 8 8 (bytesV (Wire.be8 x)) rfl HR12.out (bytesV_oneCell _) (by unfold maxLen; omega) (by omega) (Nat.zero_le _) ?_)
      intro v3 w3 ho3 hgr3 hb3 hn3
      obtain ⟨A4, c4, rfl⟩ := own_form ho3
      obtain ⟨hP3, ht3⟩ := HP2.out.app (cs := Wire.be8 x) hgr3 (by rw [Wire.be8_length]; exact ho3) (by rw [Wire.be8_length]; simpa using hb3)
      have HP3 := hide hP3
      have HR23 := hide (HR2.out.turn ht3 (by
        intro z hz hz3
        simp [blockOf] at hz
        have h1 := HP.out.lt z hz3
        have h2 := HT1.out.size
        omega))
      have hlen3 : (bs ++ Wire.be8 x).length = bs.length + 8 := by rw [List.length_append, Wire.be8_length]
      have HLen3 := hide hlen3
      clear hP3 ht3 ho3 hgr3 hb3 hn3 hlen3
      go_wp2_with (at_builtin; refine wpList_append_reads _ rfl (.tmp 28) (.tmp 29) 81 rfl 0 5 i0 _ 1 1 Try.underlying81 hi0 hz0 hz1 hz2 rfl (by decide) (.slice A4 (bs.length + 8) c4) (bs.length + 8) (bytesV (bs ++ Wire.be8 x)) rfl (by have := HP3.out.own; rwa [HLen3.out] at this) (some ⟨g2, 0, none⟩) 8 8 (bytesV (Wire.be8 y)) rfl HR23.out (bytesV_oneCell _) (by unfold maxLen; omega) (by omega) (Nat.zero_le _) ?_)
      intro v4 w4 ho4 hgr4 hb4 hn4
      obtain ⟨A5, c5, rfl⟩ := own_form ho4
      obtain ⟨hP4, ht4⟩ := HP3.out.app (cs := Wire.be8 y) (by rw [HLen3.out]; exact hgr4) (by rw [HLen3.out, Wire.be8_length]; exact ho4) (by rw [HLen3.out, Wire.be8_length]; simpa using hb4)
      have HP4 := hide hP4
      clear hP4 ht4 ho4 hgr4 hb4 hn4
      go_wp2_with fail
      exact ⟨⟨k + 1, A5, c5, by omega, by go_num, by rw [hstep.out, List.length_append, HLen3.out, Wire.be8_length], by rw [hstep.out]; exact HP4.out⟩, by simp [intOf]; omega⟩
    · obtain rfl : k = L.length := by omega
      have hcv := run_str_of_bytes (P := Try.prog) wr 81 9 5 Try.underlying81 Try.underlying5 Try.underlying9 A3 _ c3 _ (Reads.of_own hP.own)
      have HT := hide hP.turn
      clear hP
      rw [List.take_length] at hcv ⊢
      go_wp2_with fail
      go_ret
      exact ⟨rfl, HT.out⟩
set_option maxHeartbeats 400000 in
theorem rbytes {w : World} {F : List Nat} {b : Nat} {l : List En} (h : RIdx w F b l) : Calls Try.prog 37 #[.pointer (some ⟨b, 0, none⟩)] w (Str (putB l) w) := by
  obtain ⟨A, c, hc0, hr, hm, hbw⟩ := h.cell
  have HC := hide (rput c hr hm)
  clear h hr
  go_enter Try.func37, Try.ntmps37
  go_wp2_with fail
  refine HC.out.mono ?_
  rintro e w1 ⟨rfl, ht⟩
  go_wp2_with fail
  go_ret
  exact ⟨rfl, ht⟩
end Go.Proofs.Ytgjpaglkcpomnaa
