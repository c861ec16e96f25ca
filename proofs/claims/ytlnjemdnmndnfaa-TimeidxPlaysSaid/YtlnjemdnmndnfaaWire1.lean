/- The writer of forms, walked: NewWriter, Raw, fixed, Bytes. Conditions: as each contract tells (the bytes fit). -/
import Derived.Test.YtlnjemdnmndnfaaProg
import Derived.Test.YtlnjemdnmndnfaaBytes
namespace Go.Proofs.Ytlnjemdnmndnfaa.Wire
set_option linter.unusedVariables false
set_option linter.unusedSimpArgs false
open Go.RowKit K

theorem infoU8 : (Try.prog.info? 5).map (fun i => (i.zero, i.size, i.bytes)) = some (some (.int .u8 0), 1, 1) := by kernel_rfl

/-- a writer in memory: its own block, its place's, its row; the bytes that are written. -/
def Wr (w : World) (F : List Nat) (b : Nat) (bs : List UInt8) : Prop :=
  ∃ p A c n, F = b :: p :: blockOf A ∧ Blk w b 105 #[.pointer (some ⟨p, 0, none⟩), .slice A bs.length c] ∧ Blk w p 92 #[.int .i64 n] ∧ w.ownsRow 0 5 1 (.slice A bs.length c) bs.length (bytesV bs)
theorem ownBlock_slice (A : Option Addr) (n c : Nat) : (Value.slice A n c).ownBlock = A.map Addr.block := by cases A <;> rfl
theorem Wr.lt {w : World} {F : List Nat} {b : Nat} {bs : List UInt8} (h : Wr w F b bs) : ∀ k ∈ F, k < w.heap.size := by
  obtain ⟨p, A, c, n, rfl, hb, hp, ho⟩ := h
  intro k hk
  simp only [List.mem_cons] at hk
  rcases hk with rfl | rfl | hk
  · exact hb.lt
  · exact hp.lt
  · refine (ho.lt k ?_).2
    rw [ownBlock_slice]
    simpa [blockOf] using hk
theorem Wr.turn {w w1 : World} {F G : List Nat} {b : Nat} {bs : List UInt8} (h : Wr w F b bs) (ht : Turn G w w1) (hd : ∀ k ∈ F, k ∉ G) : Wr w1 F b bs := by
  obtain ⟨p, A, c, n, rfl, hb, hp, ho⟩ := h
  refine ⟨p, A, c, n, rfl, hb.turn ht (hd _ (by simp)), hp.turn ht (hd _ (by simp)), own_turn ho ht ?_⟩
  intro g hg
  rw [ownBlock_slice] at hg
  exact hd g (by simp [blockOf, hg])
theorem Wr.turn0 {w w1 : World} {F : List Nat} {b : Nat} {bs : List UInt8} (h : Wr w F b bs) (ht : Turn [] w w1) : Wr w1 F b bs := h.turn ht (by simp)

def WNew (w : World) (e : Ending) (w' : World) : Prop := ∃ F b, e = .returned (.pointer (some ⟨b, 0, none⟩)) ∧ Turn [] w w' ∧ Wr w' F b [] ∧ ∀ k ∈ F, w.heap.size ≤ k
def Wrote (F : List Nat) (b : Nat) (bs : List UInt8) (w : World) (e : Ending) (w' : World) : Prop :=
  ∃ F', e = .returned (.tuple #[]) ∧ Turn F w w' ∧ Wr w' F' b bs ∧ ∀ k ∈ F', k ∈ F ∨ w.heap.size ≤ k

set_option maxHeartbeats 400000 in
theorem newWriter (w : World) : Calls Try.prog 46 #[] w (WNew w) := by
  go_enter Try.func46, Try.ntmps46
  go_wp2
  go_ret
  refine ⟨[w.heap.size + 1, w.heap.size], w.heap.size + 1, rfl, ((Turn.refl _ _).alloc _).alloc _, ⟨w.heap.size, none, 0, 0, rfl, ?_, ?_, World.ownsRow_nil _ _ _ _⟩, ?_⟩
  · exact Blk.new_at (by simp) _ _
  · exact (Blk.new _ _ _).alloc _
  · intro k hk
    simp at hk
    omega

set_option maxHeartbeats 400000 in
theorem bytes_at {w : World} {F : List Nat} {b : Nat} {bs : List UInt8} (h : Wr w F b bs) :
    Calls Try.prog 48 #[.pointer (some ⟨b, 0, none⟩)] w fun e w' => e = .returned (.string (strOf bs)) ∧ w = w' := by
  obtain ⟨p, A, c, n, rfl, hb, hp, ho⟩ := h
  have hcv := run_str_of_bytes (P := Try.prog) w 36 9 5 Try.underlying36 Try.underlying5 Try.underlying9 A bs.length c bs (Reads.of_own ho)
  have hc := hb.cell 1
  go_enter Try.func48, Try.ntmps48
  go_wp2
  go_ret
  exact ⟨rfl, rfl⟩

theorem raw_end {w w1 : World} {F : List Nat} {b p c c1 : Nat} {A A1 : Option Addr} {n m : Int} {bs cs : List UInt8} (hF : F = b :: p :: blockOf A)
    (hb : Blk w b 105 #[.pointer (some ⟨p, 0, none⟩), .slice A bs.length c]) (hp : Blk w p 92 #[.int .i64 n]) (ho : w.ownsRow 0 5 1 (.slice A bs.length c) bs.length (bytesV bs))
    (ho1 : w1.ownsRow 0 5 1 (.slice A1 (bs ++ cs).length c1) (bs ++ cs).length (bytesV (bs ++ cs))) (hg1 : w.grownBy w1 (Value.slice A bs.length c).ownBlock)
    (hb1 : (Value.slice A1 (bs ++ cs).length c1).ownBlock = (Value.slice A bs.length c).ownBlock ∨ (Value.slice A1 (bs ++ cs).length c1).ownBlock = some w.heap.size) :
    ∃ F', Turn F w (((w1.setCell ⟨b, 1, none⟩ (.slice A1 (bs ++ cs).length c1)).drew).setCell ⟨p, 0, none⟩ (.int .i64 m)) ∧ Wr (((w1.setCell ⟨b, 1, none⟩ (.slice A1 (bs ++ cs).length c1)).drew).setCell ⟨p, 0, none⟩ (.int .i64 m)) F' b (bs ++ cs) ∧ ∀ k ∈ F', k ∈ F ∨ w.heap.size ≤ k := by
  have hnb : (Value.slice A bs.length c).ownBlock ≠ some b := own_blk_ne ho hb (by decide)
  have hnp : (Value.slice A bs.length c).ownBlock ≠ some p := own_blk_ne ho hp (by decide)
  have hbp : b ≠ p := hb.ne_ hp (by decide)
  have kb := hb.grown hg1 hnb.symm
  have kp := hp.grown hg1 hnp.symm
  have hnb1 : (Value.slice A1 (bs ++ cs).length c1).ownBlock ≠ some b := own_blk_ne ho1 kb (by decide)
  have hnp1 : (Value.slice A1 (bs ++ cs).length c1).ownBlock ≠ some p := own_blk_ne ho1 kp (by decide)
  subst hF
  have t1 : Turn (b :: p :: blockOf A) w w1 := (Turn.refl _ _).grown hg1 (fun g hg' => .inl (by rw [ownBlock_slice] at hg'; simp [blockOf, hg']))
  have t2 : Turn [b, p] w1 (((w1.setCell ⟨b, 1, none⟩ (.slice A1 (bs ++ cs).length c1)).drew).setCell ⟨p, 0, none⟩ (.int .i64 m)) := (((Turn.refl _ _).setCell (.inl (by simp)) _).drew).setCell (.inl (by simp)) _
  refine ⟨b :: p :: blockOf A1, t1.trans t2 (fun x hx => .inl (by simp at hx ⊢; rcases hx with rfl | rfl <;> simp)), ⟨p, A1, c1, m, rfl, ?_, ?_, ?_⟩, ?_⟩
  · have := ((kb.set_ 1 (.slice A1 (bs ++ cs).length c1)).drew).far (p := ⟨p, 0, none⟩) hbp (.int .i64 m)
    simpa using this
  · have := ((kp.far (p := ⟨b, 1, none⟩) hbp.symm (.slice A1 (bs ++ cs).length c1)).drew).set_ 0 (.int .i64 m)
    simpa using this
  · refine own_turn ho1 t2 (fun g hg => ?_)
    rw [hg] at hnb1 hnp1
    simp at hnb1 hnp1 ⊢
    exact ⟨hnb1, hnp1⟩
  · intro k hk
    simp only [List.mem_cons] at hk ⊢
    rcases hk with rfl | rfl | hk
    · exact .inl (.inl rfl)
    · exact .inl (.inr (.inl rfl))
    · have hk' : (Value.slice A1 (bs ++ cs).length c1).ownBlock = some k := by rw [ownBlock_slice]; simpa [blockOf] using hk
      rcases hb1 with hb1 | hb1
      · rw [hb1, ownBlock_slice] at hk'
        exact .inl (.inr (.inr (by simp [blockOf, hk'])))
      · rw [hb1] at hk'
        injection hk' with hk'
        exact .inr (by omega)

set_option maxHeartbeats 1600000 in
set_option maxRecDepth 100000 in
theorem raw_at {w : World} {F : List Nat} {b : Nat} {bs : List UInt8} (h : Wr w F b bs) (s : ByteArray) (hsz : bs.length + s.size ≤ 140737488355328) :
    Calls Try.prog 64 #[.pointer (some ⟨b, 0, none⟩), .string s] w (Wrote F b (bs ++ s.data.toList) w) := by
  obtain ⟨i0, hi0, hz0, hz1, hz2⟩ := info_parts infoU8
  obtain ⟨p, A, c, n, hF, hb, hp, ho⟩ := h
  have hc0 := hb.cell 0
  have hc1 := hb.cell 1
  have hbw := hb.lt
  have hpw := hp.lt
  have HF := hide hF
  have HB := hide hb
  have HP := hide hp
  have HO := hide ho
  clear hF hb hp ho
  go_enter Try.func64, Try.ntmps64
  go_wp2_with (at_builtin; refine wpList_append_str _ rfl (.tmp 20) (.tmp 21) 36 9 rfl 0 5 i0 Try.underlying36 Try.underlying9 hi0 hz0 hz1 hz2 (.slice A bs.length c) bs.length (bytesV bs) rfl HO.out s rfl (by unfold maxLen; omega) (by omega) (Nat.zero_le _) ?_)
  intro v1 w1 ho1 hg1 hb1
  have hlen : bs.length + s.size = (bs ++ s.data.toList).length := by rw [List.length_append]; rfl
  rw [hlen, ← bytesV_append] at ho1
  obtain ⟨A1, c1, rfl⟩ := own_form ho1
  have hbp : b ≠ p := HB.out.ne_ HP.out (by decide)
  have kb := HB.out.grown hg1 (own_blk_ne HO.out HB.out (by decide)).symm
  have kp := HP.out.grown hg1 (own_blk_ne HO.out HP.out (by decide)).symm
  have k0 := kb.cell 0
  have k1 := kb.cell 1
  have kf := kb.frozen 1
  have q0 := kp.cell 0
  have qf := kp.frozen 0
  have R := hide (raw_end (m := ((bs ++ s.data.toList).length : Int)) HF.out HB.out HP.out HO.out ho1 hg1 hb1)
  clear hlen ho1 hg1 hb1 kb kp HF HB HP HO hc0 hc1
  obtain ⟨L, hL⟩ : ∃ L, L = (bs ++ s.data.toList).length := ⟨_, rfl⟩
  rw [← hL] at R ⊢
  clear hL
  go_wp2_with fail
  go_region
  all_goals (go_wp2; go_end0)
  all_goals (obtain ⟨F', h1, h2, h3⟩ := R.out; exact ⟨F', rfl, h1, h2, h3⟩)
end Go.Proofs.Ytlnjemdnmndnfaa.Wire
