/- TimeidxBounds, walked. -/
import Derived.Test.YtlnjemdnmndnfaaT6x
namespace Go.Proofs.Ytlnjemdnmndnfaa
set_option linter.unusedVariables false
set_option linter.unusedSimpArgs false
open Go.RowKit K

def u8sV (l : List UInt8) : List Value := l.map fun b => Value.int .u8 b.toNat
theorem reads_u8 {w : World} {A : Option Addr} {l : List UInt8} (h : Reads w 1 A l.length (u8sV l)) {k : Nat} (hk : k < l.length) :
    ∃ g off, A = some ⟨g, off, none⟩ ∧ g < w.heap.size ∧ w.cell? ⟨g, off + k, none⟩ = some (.int .u8 (l[k].toNat)) := by
  obtain ⟨g, off, hA, hg, hc⟩ := h.2 (by omega)
  exact ⟨g, off, hA, hg, hc k _ (by simp [u8sV, hk])⟩
def intsV (l : List Int) : List Value := l.map (Value.int .i64)
theorem reads_int {w : World} {A : Option Addr} {l : List Int} (h : Reads w 1 A l.length (intsV l)) {k : Nat} (hk : k < l.length) :
    ∃ g off, A = some ⟨g, off, none⟩ ∧ g < w.heap.size ∧ w.cell? ⟨g, off + k, none⟩ = some (.int .i64 l[k]) := by
  obtain ⟨g, off, hA, hg, hc⟩ := h.2 (by omega)
  exact ⟨g, off, hA, hg, hc k _ (by simp [intsV, hk])⟩
/-- the last entry is (key, at), or there is none. -/
def Ends (l : List En) (key at_ : Int) : Prop := (l = [] ∧ at_ = 0) ∨ ∃ h : 0 < l.length, l[l.length - 1] = (key, at_)
theorem ends_fits {l : List En} {key at_ k a : Int} (h : Ends l key at_) (hk : key ≤ k) (ha : at_ < a) (h0 : 0 ≤ a) : appE l (k, a) = 0 ∧ appL l (k, a) = l ++ [(k, a)] := by
  have hf : fits l (k, a) = true := by
    rcases h with ⟨rfl, _⟩ | ⟨hp, he⟩
    · exact fits_nil _
    · rw [fits_pos hp, he]; exact ⟨ha, hk⟩
  unfold appE appL
  rw [if_neg (by simp; omega), if_pos hf, if_neg (by simp; omega), if_pos hf]
  exact ⟨rfl, rfl⟩
theorem ends_snoc (l : List En) (k a : Int) : Ends (l ++ [(k, a)]) k a := .inr ⟨by simp, by simp⟩
/-- the loop's: the index and the list hold l. -/
structure BR (w0 : World) (b : Nat) (A : Option Addr) (c : Nat) (F : List Nat) (l : List En) (wr : World) : Prop where
  idx : Ix 45 wr F b l
  own : OwnR w0 29 2 A l.length c (ents l) wr
  new : ∀ k ∈ F, w0.heap.size ≤ k
  apart : ∀ k ∈ F, k ∉ blockOf A
  mono : Mono l
theorem BR.turn0 {w0 wr w1 : World} {b : Nat} {A : Option Addr} {c : Nat} {F : List Nat} {l : List En} (h : BR w0 b A c F l wr) (ht : Turn [] wr w1) : BR w0 b A c F l w1 :=
  ⟨h.idx.turn0 ht, h.own.turn0 ht, h.new, h.apart, h.mono⟩

set_option maxHeartbeats 8000000 in
set_option maxRecDepth 100000 in
theorem bounds_any (w : World) (A : Option Addr) (c : Nat) (L : List UInt8) (x t : Int) (hr : Reads w 1 A L.length (u8sV L)) (hsz : L.length ≤ 1048576) (hx0 : -9223372036854775808 ≤ x) (hx1 : x ≤ 9223372036854775807) :
    Calls Try.prog 4 #[.int .i64 x, .slice A L.length c, .int .i64 t] w (Same (.bool true) w) := by
  obtain ⟨i0, hi0, hz0, hz1, hz2⟩ := info_parts info29
  have HR := hide hr
  clear hr
  obtain ⟨k0, hk0, hk01, hk02⟩ : ∃ k0 : Int, k0 = x.tmod 1099511627776 ∧ -1099511627776 < k0 ∧ k0 < 1099511627776 := ⟨_, rfl, by have := Int.lt_tmod_of_pos x (show (0 : Int) < 1099511627776 by omega); omega, Int.tmod_lt_of_pos x (by omega)⟩
  go_enter Try.func4, Try.ntmps4
  go_wp2_with fail
  refine (finds_any _).mono ?_
  rintro e w1 ⟨rfl, ht1⟩
  have HT1 := hide ht1
  clear ht1
  go_wp2_with fail
  refine (new_any _).mono ?_
  rintro e w2 ⟨b, rfl, hb, ht2, hx2⟩
  have HB0 : Hid (BR w b none 0 [b] [] w2) := hide ⟨hx2, OwnR.none_ _ _ _ (HT1.out.trans0 ht2), by simp; have := HT1.out.size; omega, by simp [blockOf], mono_nil⟩
  clear ht2 hx2 hb HT1
  go_wp2_with fail
  rw [← hk0]
  have HK0 := hide hk0
  clear hk0
  go_loopw [8, 9, 10, 28] (fun ky aa v i wr => ∃ (k : Nat) (A' : Option Addr) (c' : Nat) (F : List Nat) (l : List En) (key at_ : Int), k ≤ L.length ∧ i = .int .i64 k ∧ ky = .int .i64 key ∧ aa = .int .i64 at_ ∧ v = .slice A' l.length c' ∧ BR w b A' c' F l wr ∧ Ends l key at_ ∧ l.length = k ∧ k0 ≤ key ∧ key ≤ k0 + 3 * k ∧ 0 ≤ at_ ∧ at_ ≤ 64 * k) (fun _ _ _ i _ => L.length - (intOf i).toNat)
  case atStart => exact ⟨0, none, 0, [b], [], k0, 0, Nat.zero_le _, rfl, rfl, rfl, rfl, HB0.out, .inl ⟨rfl, rfl⟩, rfl, by omega, by omega, by omega, by omega⟩
  case round =>
    clear HB0
    obtain ⟨k, A', c', F, l, key, at_, hk, rfl, rfl, rfl, rfl, hB, hE, hlk, hb1, hb2, hb3, hb4⟩ := hrel
    have HB := hide hB
    have HE := hide hE
    by_cases hlt : k < L.length
    · obtain ⟨g, off, rfl, hg, hx⟩ := reads_u8 (HR.out.turn0 hB.own.turn) hlt
      obtain ⟨s, hs⟩ : ∃ s, s = L[k].toNat := ⟨_, rfl⟩
      have hs2 : s < 256 := by rw [hs]; exact L[k].toNat_lt
      rw [← hs] at hx
      obtain ⟨key', hkey⟩ : ∃ key' : Int, key' = key + (s : Int) % 4 := ⟨_, rfl⟩
      obtain ⟨at', hat⟩ : ∃ at' : Int, at' = at_ + 1 + (s : Int) / 4 := ⟨_, rfl⟩
      have hE2 := ends_fits (k := key') (a := at') hE (by omega) (by omega) (by omega)
      have HE2 := hide hE2
      have HKey := hide hkey
      have HAt := hide hat
      have hs3 : (0 : Int) ≤ (s : Int) % 4 := by omega
      have hs4 : (s : Int) % 4 < 4 := by omega
      have hs5 : (0 : Int) ≤ (s : Int) / 4 := by omega
      have hs6 : (s : Int) / 4 < 64 := by omega
      have hkn : (k : Int) ≤ 1048576 := by omega
      have HLk := hide hlk
      have hlk2 : l.length ≤ 1048576 := by omega
      have hlen1 : (l.length : Int) + 1 ≤ 1048577 := by omega
      clear hs hB hE hE2 hkey hat hlk
      go_wp2_with (at_builtin; refine wpList_append_reads _ rfl (.tmp 43) (.tmp 47) 22 rfl 0 29 i0 _ 2 16 Try.underlying22 hi0 hz0 hz1 hz2 rfl (by decide) (.slice A' l.length c') l.length (ents l) rfl (HB.out.own.turn0 (by repeat first | exact Turn.refl _ _ | exact (show Hid (Turn [] _ _) by assumption).out | refine Turn.drew ?_ | refine Turn.drewN ?_ _ | refine Turn.alloc ?_ _)).own (some ⟨wr.heap.size, 0, none⟩) 1 1 (ents [(key + (s : Int) % 4, at_ + 1 + (s : Int) / 4)]) rfl (reads_blk (Blk.new_at rfl 29 #[.int .i64 (key + (s : Int) % 4), .int .i64 (at_ + 1 + (s : Int) / 4)]) rfl) (ents_oneCell _) (by unfold maxLen; omega) (by omega) (Nat.zero_le _) ?_)
      rw [← HKey.out, ← HAt.out]
      intro v5 w5 ho5 hg5 hb5 hn5
      obtain ⟨A5, c5, rfl, ho6, ht6⟩ := HB.out.own.app (by repeat first | exact Turn.refl _ _ | exact (show Hid (Turn [] _ _) by assumption).out | refine Turn.drew ?_ | refine Turn.drewN ?_ _ | refine Turn.alloc ?_ _) hg5 ho5 (by simpa using hb5)
      have HO6 := hide ho6
      have HX6 := hide (HB.out.idx.turn ht6 HB.out.apart)
      have hF6 : Hid (∀ x ∈ F, x ∉ blockOf A5) := hide (by
        intro x hx hx5
        rcases hb5 with h | h
        · exact HB.out.apart x hx (mem_blockOf.1 (h ▸ mem_blockOf.2 hx5))
        · have h1 := (mem_blockOf (n := l.length + 1) (c := c5)).2 hx5
          rw [h] at h1
          injection h1 with h1
          have := HB.out.idx.lt x hx
          omega)
      have HR6 := hide (by have := ho6.reads; rwa [← ents_append] at this : Reads w5 2 A5 (l.length + 1) (ents (l ++ [(key', at')])))
      clear ho5 hg5 hb5 hn5 ho6 ht6 hx
      obtain ⟨g5, off5, rfl, hg5, hx5, hy5⟩ := reads_ent (l := l ++ [(key', at')]) (by simpa using HR6.out) (k := l.length) (by simp)
      have hx5' : w5.cell? ⟨g5, off5 + l.length * 2, none⟩ = some (.int .i64 key') := by simpa using hx5
      have hy5' : w5.cell? ⟨g5, off5 + l.length * 2 + 1, none⟩ = some (.int .i64 at') := by simpa using hy5
      clear hx5 hy5
      go_wp2_with fail
      refine (app_at HX6.out key' at' (by omega)).mono ?_
      rw [HE2.out.1, HE2.out.2]
      rintro e w6 ⟨F6, rfl, ht7, hx7, hn7⟩
      have HB7 : Hid (BR w b (some ⟨g5, off5, none⟩) c5 F6 (l ++ [(key', at')]) w6) := hide ⟨hx7, by
        have := HO6.out.far ht7 (fun k hk hk' => hF6.out k hk' hk) HB.out.new
        simpa [ents_append] using this, fun x hx => by
          rcases hn7 x hx with h | h
          · exact HB.out.new x h
          · have := HO6.out.turn.size; omega, fun x hx hx5 => by
          rcases hn7 x hx with h | h
          · exact hF6.out x h hx5
          · have := HO6.out.lt x hx5; omega, by
          have := mono_appL HB.out.mono (key', at')
          rwa [HE2.out.2] at this⟩
      clear ht7 hx7 hn7 hx5' hy5'
      go_wp2_with fail
      refine ⟨⟨k + 1, _, c5, F6, l ++ [(key', at')], key', at', by omega, by go_num, rfl, rfl, by simp, HB7.out, ends_snoc _ _ _, by have := HLk.out; simp; omega, ?_, ?_, ?_, ?_⟩, by simp [intOf] <;> omega⟩
      all_goals (have h1 := HKey.out; have h2 := HAt.out; omega)
    · obtain rfl : k = L.length := by omega
      have HLk := hide hlk
      have hll : l.length ≤ 1048576 := by omega
      have hkb1 : -1099511627776 < key := by omega
      have hkb2 : key < 1099515000000 := by omega
      clear hlk hB hE hb1 hb2 hb3 hb4
      go_wp2_with fail
      go_loopw [13, 14] (fun a m wx => ∃ s : Nat, s ≤ 64 ∧ a = .int .i64 s ∧ m = .int .i64 ((l.length / 2 ^ s : Nat) : Int) ∧ wx = wr) (fun _ m _ => (intOf m).toNat)
      case atStart => exact ⟨0, by omega, rfl, by simp, rfl⟩
      case round =>
        rename_i wq
        obtain ⟨s, hs, rfl, rfl, rfl⟩ := hrel
        by_cases hgt : 0 < l.length / 2 ^ s
        · have hs64 : s < 64 := by
            rcases Nat.lt_or_ge s 64 with h | h
            · exact h
            · have h2 := Nat.pow_le_pow_right (n := 2) (by omega) h
              have h3 : l.length / 2 ^ s = 0 := Nat.div_eq_of_lt (by omega)
              omega
          have hd : Hid (l.length / 2 ^ (s + 1) = l.length / 2 ^ s / 2) := hide (by rw [Nat.pow_succ, Nat.div_div_eq_div_mul])
          have hle : l.length / 2 ^ s ≤ 1048576 := Nat.le_trans (Nat.div_le_self _ _) hll
          obtain ⟨m, hm⟩ : ∃ m, m = l.length / 2 ^ s := ⟨_, rfl⟩
          rw [← hm] at hgt hd hle ⊢
          clear hm
          go_wp2_with fail
          refine ⟨⟨s + 1, by omega, by go_num, ?_, by trivial⟩, by simp [intOf] <;> omega⟩
          rw [hd.out]
          go_num
        · have hlt2 : l.length < 2 ^ s := by
            have h1 : l.length / 2 ^ s = 0 := Nat.eq_zero_of_not_pos hgt
            rcases Nat.lt_or_ge l.length (2 ^ s) with h | h
            · exact h
            · have := Nat.div_pos h (Nat.two_pow_pos s); omega
          have HMost : Hid (∀ t, (looksOf l t : Int) ≤ (s : Int)) := hide (fun t => by
            rcases looks_was l t HB.out.mono (by omega) with h | h
            · omega
            · have h4 : looksOf l t - 1 < s := (Nat.pow_lt_pow_iff_right (by omega)).1 (Nat.lt_of_le_of_lt h hlt2)
              omega)
          have h0 : l.length / 2 ^ s = 0 := Nat.eq_zero_of_not_pos hgt
          rw [h0, show ((0 : Nat) : Int) = 0 from rfl]
          clear hlt2 hgt h0
          have hq1 : (key + 1 : Int) ≤ 9223372036854775807 := by omega
          go_wp2_with fail
          obtain ⟨vs, hvs⟩ : ∃ vs : List Int, vs = [t, x.tmod 1099511627776, key, key + 1, wrap64 ((wrap64 (x.tmod 1099511627776 + key)).tdiv 2)] := ⟨_, rfl⟩
          have hvl : vs.length = 5 := by rw [hvs]; rfl
          have HV : Hid (Reads (wr.alloc (.cells #[.int .i64 t, .int .i64 (x.tmod 1099511627776), .int .i64 key, .int .i64 (key + 1), .int .i64 (wrap64 ((wrap64 (x.tmod 1099511627776 + key)).tdiv 2))] 2)) 1 (some ⟨wr.heap.size, 0, none⟩) vs.length (intsV vs)) := hide (by
            rw [hvl]
            have := reads_blk (Blk.new_at (w := wr) rfl 2 #[.int .i64 t, .int .i64 (x.tmod 1099511627776), .int .i64 key, .int .i64 (key + 1), .int .i64 (wrap64 ((wrap64 (x.tmod 1099511627776 + key)).tdiv 2))]) (size := 1) (n := 5) rfl
            rw [hvs]
            exact this)
          have HBw := hide (HB.out.turn0 ((Turn.refl [] wr).alloc (.cells #[.int .i64 t, .int .i64 (x.tmod 1099511627776), .int .i64 key, .int .i64 (key + 1), .int .i64 (wrap64 ((wrap64 (x.tmod 1099511627776 + key)).tdiv 2))] 2)))
          obtain ⟨nb, hnb⟩ : ∃ nb, nb = wr.heap.size := ⟨_, rfl⟩
          rw [← hnb] at HV ⊢
          have HVl := hide hvl
          clear hvs hnb hvl
          generalize wr.alloc (.cells #[.int .i64 t, .int .i64 (x.tmod 1099511627776), .int .i64 key, .int .i64 (key + 1), .int .i64 (wrap64 ((wrap64 (x.tmod 1099511627776 + key)).tdiv 2))] 2) = W at *
          clear HB HR
          go_loopw [80] (fun a wx => ∃ j : Nat, j ≤ 5 ∧ a = .int .i64 j ∧ Turn [] W wx) (fun a _ => 5 - (intOf a).toNat)
          case atStart => exact ⟨0, by omega, rfl, Turn.refl _ _⟩
          case round =>
            rename_i wq2 wq3
            obtain ⟨j, hj, rfl, htx⟩ := hrel
            have HTx := hide htx
            clear htx
            by_cases hj5 : j < 5
            · obtain ⟨g, off, he, hg, hx⟩ := reads_int (HV.out.turn0 HTx.out) (k := j) (by have := HVl.out; omega)
              obtain ⟨rfl, rfl⟩ : g = nb ∧ off = 0 := by injection he with he; injection he with h1 h2; exact ⟨h1.symm, h2.symm⟩
              obtain ⟨tv, htv⟩ : ∃ tv, tv = vs[j]'(by have := HVl.out; omega) := ⟨_, rfl⟩
              rw [← htv] at hx
              rw [Nat.zero_add] at hx
              clear htv he
              have hj5' : (j : Int) < 5 := by omega
              obtain ⟨⟨⟨p, q⟩, ok⟩, hfr⟩ : ∃ r, findOf l tv = r := ⟨_, rfl⟩
              have HFd : Hid (∀ wx, Turn [] W wx → Calls Try.prog 15 #[.pointer (some ⟨b, 0, none⟩), .int .i64 tv] wx fun e w' => e = .returned (.tuple #[.agg #[.int .i64 p, .int .i64 q], .int .i64 (looksOf l tv), .bool ok]) ∧ Turn [] wx w') := hide (fun wx ht => (find_at (HBw.out.idx.turn0 ht) HBw.out.mono tv).mono fun e w' h => by unfold Finds at h; rw [hfr] at h; exact ⟨h.1, h.2.1⟩)
              have HFr := hide hfr
              have hkl := HMost.out tv
              have hk0 : l.length = 0 → looksOf l tv = 0 := fun h0 => by
                have := List.eq_nil_of_length_eq_zero h0
                subst this
                exact kOf_end _ _ _ _
              obtain ⟨kk, hkk⟩ : ∃ kk, kk = looksOf l tv := ⟨_, rfl⟩
              rw [← hkk] at HFd hkl hk0
              have HK0' := hide hk0
              clear hfr hkk hk0
              go_wp2_with fail
              refine (HFd.out _ (by repeat first | exact Turn.refl _ _ | exact (show Hid (Turn [] _ _) by assumption).out | refine Turn.drew ?_ | refine Turn.drewN ?_ _ | refine Turn.alloc ?_ _)).mono ?_
              rintro e w7 ⟨rfl, ht7⟩
              have HT7 := hide (Turn.pre (w := W) (by repeat first | exact Turn.refl _ _ | exact (show Hid (Turn [] _ _) by assumption).out | refine Turn.drew ?_ | refine Turn.drewN ?_ _ | refine Turn.alloc ?_ _) ht7)
              clear ht7
              have hkn : ¬ (kk : Int) < 0 := by omega
              have hkm : (kk : Int) ≤ (s : Int) + 1 := by omega
              have hk1 : ¬ (s : Int) + 1 < (kk : Int) := by omega
              rcases (show (l.length = 0 ∧ kk = 0) ∨ (0 < l.length ∧ kk = 0) ∨ (0 < l.length ∧ 0 < kk) by have := HK0'.out; omega) with ⟨hl0, rfl⟩ | ⟨hl0, rfl⟩ | ⟨hl0, hkp⟩
              · have hle0 : ((l.length : Int) == 0) = true := by rw [hl0]; rfl
                clear hl0 hkn hkm hk1 hkl HK0' HFd
                go_wp2_with fail
                generalize hW8 : w7.alloc (.cells #[.int .i64 p, .int .i64 q] 29) = w8 at *
                have HB8 : Hid (Blk w8 w7.heap.size 29 #[.int .i64 p, .int .i64 q]) := hide (by rw [← hW8]; exact Blk.new _ _ _)
                have HT8 : Hid (Turn [] W w8) := hide (by rw [← hW8]; exact HT7.out.alloc _)
                have hc8a : w8.cell? ⟨w7.heap.size, 0, none⟩ = some (.int .i64 p) := HB8.out.cell 0
                have hc8b : w8.cell? ⟨w7.heap.size, 1, none⟩ = some (.int .i64 q) := HB8.out.cell 1
                obtain ⟨n7, hn7⟩ : ∃ n7, n7 = w7.heap.size := ⟨_, rfl⟩
                rw [← hn7] at HB8 hc8a hc8b ⊢
                clear hW8 hn7 hx
                have HL8 := hide (HBw.out.own.turn0 HT8.out).reads
                go_loopw [20] (fun a wx => ∃ i : Nat, i ≤ l.length ∧ a = .int .i64 i ∧ (∀ m (h : m < l.length), m < i → l[m].1 < tv) ∧ wx = w8) (fun a _ => l.length - (intOf a).toNat)
                case atStart => exact ⟨0, Nat.zero_le _, rfl, fun m h1 h2 => by omega, rfl⟩
                case round =>
                  rename_i wq4 wq5
                  obtain ⟨i, hi, rfl, hall, rfl⟩ := hrel
                  have HAll := hide hall
                  clear hall
                  have hpi : (0 : Int) ≤ (i : Int) := by omega
                  by_cases hil : i < l.length
                  · obtain ⟨g9, off9, rfl, hg9, hx9, hy9⟩ := reads_ent HL8.out hil
                    by_cases hlt9 : l[i].1 < tv
                    · go_wp2_with fail
                      refine ⟨⟨i + 1, by omega, by go_num, fun m h1 h2 => ?_, by trivial⟩, by simp [intOf] <;> omega⟩
                      rcases Nat.eq_or_lt_of_le (Nat.le_of_lt_succ h2) with rfl | h3
                      · exact hlt9
                      · exact HAll.out m h1 h3
                    · have hge9 : tv ≤ l[i].1 := by omega
                      have HGe : Hid (∀ m (h : m < l.length), i ≤ m → tv ≤ l[m].1) := hide (fun m h1 h2 => by
                        rcases Nat.eq_or_lt_of_le h2 with rfl | h3
                        · exact hge9
                        · have := HBw.out.mono i m h1 h3; omega)
                      clear hlt9 hy9
                      go_wp2_with fail
                      clear hge9 hx9
                      rcases Nat.eq_zero_or_pos i with rfl | hip
                      · have hr := HFr.out
                        rw [findOf_none (fun m h => HGe.out m h (Nat.zero_le _))] at hr
                        injection hr with hr hr3
                        injection hr with hr1 hr2
                        subst hr1 hr2 hr3
                        rw [show ((0 : Nat) : Int) = 0 from rfl]
                        go_quiet (fail)
                        go_wp2_with fail
                        exact ⟨⟨j + 1, by omega, by go_num, HT8.out.drewN _⟩, by simp [intOf] <;> omega⟩
                      · obtain ⟨m, rfl⟩ : ∃ m, i = m + 1 := ⟨i - 1, by omega⟩
                        have hml : m < l.length := by omega
                        have hr := HFr.out
                        rw [findOf_some hml (HAll.out m hml (by omega)) (fun m' h1 h2 => HGe.out m' h1 (by omega))] at hr
                        injection hr with hr hr3
                        subst hr3
                        obtain ⟨g8, off8, he8, hg8, hx8, hy8⟩ := reads_ent HL8.out hml
                        rw [hr] at hx8 hy8
                        rw [show (((m + 1 : Nat) : Int)) = (m : Int) + 1 by omega]
                        have hw8 : IntKind.i64.wrap ((m : Int) + 1 - 1) = (m : Int) := by rw [IntKind.wrap_i64]; omega
                        have hm0 : (0 : Int) ≤ (m : Int) := by omega
                        have hm1 : (m : Int) < (l.length : Int) := by omega
                        have hm2 : decide ((0 : Int) < (m : Int) + 1) = true := by rw [decide_eq_true_eq]; omega
                        first | subst he8 | (injection he8 with he8; injection he8 with he8a he8b; subst he8a he8b)
                        go_quiet (fail)
                        go_wp2_with fail
                        exact ⟨⟨j + 1, by omega, by go_num, HT8.out.drewN _⟩, by simp [intOf] <;> omega⟩
                  · have HGe : Hid (∀ m (h : m < l.length), i ≤ m → tv ≤ l[m].1) := hide (fun m h1 h2 => by omega)
                    obtain hil2 : i = l.length := by omega
                    have hil3 : ¬ (i : Int) < (l.length : Int) := by omega
                    have HI2 := hide hil2
                    clear hil2
                    go_wp2_with fail
                    clear hil3
                    rcases Nat.eq_zero_or_pos i with rfl | hip
                    · have hr := HFr.out
                      rw [findOf_none (fun m h => HGe.out m h (Nat.zero_le _))] at hr
                      injection hr with hr hr3
                      injection hr with hr1 hr2
                      subst hr1 hr2 hr3
                      rw [show ((0 : Nat) : Int) = 0 from rfl]
                      go_quiet (fail)
                      go_wp2_with fail
                      exact ⟨⟨j + 1, by omega, by go_num, HT8.out.drewN _⟩, by simp [intOf] <;> omega⟩
                    · obtain ⟨m, rfl⟩ : ∃ m, i = m + 1 := ⟨i - 1, by omega⟩
                      have hml : m < l.length := by omega
                      have hr := HFr.out
                      rw [findOf_some hml (HAll.out m hml (by omega)) (fun m' h1 h2 => HGe.out m' h1 (by omega))] at hr
                      injection hr with hr hr3
                      subst hr3
                      obtain ⟨g8, off8, he8, hg8, hx8, hy8⟩ := reads_ent HL8.out hml
                      rw [hr] at hx8 hy8
                      rw [show (((m + 1 : Nat) : Int)) = (m : Int) + 1 by omega]
                      have hw8 : IntKind.i64.wrap ((m : Int) + 1 - 1) = (m : Int) := by rw [IntKind.wrap_i64]; omega
                      have hm0 : (0 : Int) ≤ (m : Int) := by omega
                      have hm1 : (m : Int) < (l.length : Int) := by omega
                      have hm2 : decide ((0 : Int) < (m : Int) + 1) = true := by rw [decide_eq_true_eq]; omega
                      first | subst he8 | (injection he8 with he8; injection he8 with he8a he8b; subst he8a he8b)
                      go_quiet (fail)
                      go_wp2_with fail
                      exact ⟨⟨j + 1, by omega, by go_num, HT8.out.drewN _⟩, by simp [intOf] <;> omega⟩
              · have hle0 : ((l.length : Int) == 0) = false := by rw [beq_eq_false_iff_ne]; omega
                clear hkn hkm hk1 hkl HK0' HFd
                go_wp2_with fail
                generalize hW8 : w7.alloc (.cells #[.int .i64 p, .int .i64 q] 29) = w8 at *
                have HB8 : Hid (Blk w8 w7.heap.size 29 #[.int .i64 p, .int .i64 q]) := hide (by rw [← hW8]; exact Blk.new _ _ _)
                have HT8 : Hid (Turn [] W w8) := hide (by rw [← hW8]; exact HT7.out.alloc _)
                have hc8a : w8.cell? ⟨w7.heap.size, 0, none⟩ = some (.int .i64 p) := HB8.out.cell 0
                have hc8b : w8.cell? ⟨w7.heap.size, 1, none⟩ = some (.int .i64 q) := HB8.out.cell 1
                obtain ⟨n7, hn7⟩ : ∃ n7, n7 = w7.heap.size := ⟨_, rfl⟩
                rw [← hn7] at HB8 hc8a hc8b ⊢
                clear hW8 hn7 hx
                have HL8 := hide (HBw.out.own.turn0 HT8.out).reads
                go_loopw [20] (fun a wx => ∃ i : Nat, i ≤ l.length ∧ a = .int .i64 i ∧ (∀ m (h : m < l.length), m < i → l[m].1 < tv) ∧ wx = w8) (fun a _ => l.length - (intOf a).toNat)
                case atStart => exact ⟨0, Nat.zero_le _, rfl, fun m h1 h2 => by omega, rfl⟩
                case round =>
                  rename_i wq4 wq5
                  obtain ⟨i, hi, rfl, hall, rfl⟩ := hrel
                  have HAll := hide hall
                  clear hall
                  have hpi : (0 : Int) ≤ (i : Int) := by omega
                  by_cases hil : i < l.length
                  · obtain ⟨g9, off9, rfl, hg9, hx9, hy9⟩ := reads_ent HL8.out hil
                    by_cases hlt9 : l[i].1 < tv
                    · go_wp2_with fail
                      refine ⟨⟨i + 1, by omega, by go_num, fun m h1 h2 => ?_, by trivial⟩, by simp [intOf] <;> omega⟩
                      rcases Nat.eq_or_lt_of_le (Nat.le_of_lt_succ h2) with rfl | h3
                      · exact hlt9
                      · exact HAll.out m h1 h3
                    · have hge9 : tv ≤ l[i].1 := by omega
                      have HGe : Hid (∀ m (h : m < l.length), i ≤ m → tv ≤ l[m].1) := hide (fun m h1 h2 => by
                        rcases Nat.eq_or_lt_of_le h2 with rfl | h3
                        · exact hge9
                        · have := HBw.out.mono i m h1 h3; omega)
                      clear hlt9 hy9
                      go_wp2_with fail
                      clear hge9 hx9
                      rcases Nat.eq_zero_or_pos i with rfl | hip
                      · have hr := HFr.out
                        rw [findOf_none (fun m h => HGe.out m h (Nat.zero_le _))] at hr
                        injection hr with hr hr3
                        injection hr with hr1 hr2
                        subst hr1 hr2 hr3
                        rw [show ((0 : Nat) : Int) = 0 from rfl]
                        go_quiet (fail)
                        go_wp2_with fail
                        exact ⟨⟨j + 1, by omega, by go_num, HT8.out.drewN _⟩, by simp [intOf] <;> omega⟩
                      · obtain ⟨m, rfl⟩ : ∃ m, i = m + 1 := ⟨i - 1, by omega⟩
                        have hml : m < l.length := by omega
                        have hr := HFr.out
                        rw [findOf_some hml (HAll.out m hml (by omega)) (fun m' h1 h2 => HGe.out m' h1 (by omega))] at hr
                        injection hr with hr hr3
                        subst hr3
                        obtain ⟨g8, off8, he8, hg8, hx8, hy8⟩ := reads_ent HL8.out hml
                        rw [hr] at hx8 hy8
                        rw [show (((m + 1 : Nat) : Int)) = (m : Int) + 1 by omega]
                        have hw8 : IntKind.i64.wrap ((m : Int) + 1 - 1) = (m : Int) := by rw [IntKind.wrap_i64]; omega
                        have hm0 : (0 : Int) ≤ (m : Int) := by omega
                        have hm1 : (m : Int) < (l.length : Int) := by omega
                        have hm2 : decide ((0 : Int) < (m : Int) + 1) = true := by rw [decide_eq_true_eq]; omega
                        first | subst he8 | (injection he8 with he8; injection he8 with he8a he8b; subst he8a he8b)
                        go_quiet (fail)
                        go_wp2_with fail
                        exact ⟨⟨j + 1, by omega, by go_num, HT8.out.drewN _⟩, by simp [intOf] <;> omega⟩
                  · have HGe : Hid (∀ m (h : m < l.length), i ≤ m → tv ≤ l[m].1) := hide (fun m h1 h2 => by omega)
                    obtain hil2 : i = l.length := by omega
                    have hil3 : ¬ (i : Int) < (l.length : Int) := by omega
                    have HI2 := hide hil2
                    clear hil2
                    go_wp2_with fail
                    clear hil3
                    rcases Nat.eq_zero_or_pos i with rfl | hip
                    · have hr := HFr.out
                      rw [findOf_none (fun m h => HGe.out m h (Nat.zero_le _))] at hr
                      injection hr with hr hr3
                      injection hr with hr1 hr2
                      subst hr1 hr2 hr3
                      rw [show ((0 : Nat) : Int) = 0 from rfl]
                      go_quiet (fail)
                      go_wp2_with fail
                      exact ⟨⟨j + 1, by omega, by go_num, HT8.out.drewN _⟩, by simp [intOf] <;> omega⟩
                    · obtain ⟨m, rfl⟩ : ∃ m, i = m + 1 := ⟨i - 1, by omega⟩
                      have hml : m < l.length := by omega
                      have hr := HFr.out
                      rw [findOf_some hml (HAll.out m hml (by omega)) (fun m' h1 h2 => HGe.out m' h1 (by omega))] at hr
                      injection hr with hr hr3
                      subst hr3
                      obtain ⟨g8, off8, he8, hg8, hx8, hy8⟩ := reads_ent HL8.out hml
                      rw [hr] at hx8 hy8
                      rw [show (((m + 1 : Nat) : Int)) = (m : Int) + 1 by omega]
                      have hw8 : IntKind.i64.wrap ((m : Int) + 1 - 1) = (m : Int) := by rw [IntKind.wrap_i64]; omega
                      have hm0 : (0 : Int) ≤ (m : Int) := by omega
                      have hm1 : (m : Int) < (l.length : Int) := by omega
                      have hm2 : decide ((0 : Int) < (m : Int) + 1) = true := by rw [decide_eq_true_eq]; omega
                      first | subst he8 | (injection he8 with he8; injection he8 with he8a he8b; subst he8a he8b)
                      go_quiet (fail)
                      go_wp2_with fail
                      exact ⟨⟨j + 1, by omega, by go_num, HT8.out.drewN _⟩, by simp [intOf] <;> omega⟩
              · have hle0 : ((l.length : Int) == 0) = false := by rw [beq_eq_false_iff_ne]; omega
                have hkp2 : (0 : Int) < (kk : Int) := by omega
                clear HK0' HFd
                go_wp2_with fail
                generalize hW8 : w7.alloc (.cells #[.int .i64 p, .int .i64 q] 29) = w8 at *
                have HB8 : Hid (Blk w8 w7.heap.size 29 #[.int .i64 p, .int .i64 q]) := hide (by rw [← hW8]; exact Blk.new _ _ _)
                have HT8 : Hid (Turn [] W w8) := hide (by rw [← hW8]; exact HT7.out.alloc _)
                have hc8a : w8.cell? ⟨w7.heap.size, 0, none⟩ = some (.int .i64 p) := HB8.out.cell 0
                have hc8b : w8.cell? ⟨w7.heap.size, 1, none⟩ = some (.int .i64 q) := HB8.out.cell 1
                obtain ⟨n7, hn7⟩ : ∃ n7, n7 = w7.heap.size := ⟨_, rfl⟩
                rw [← hn7] at HB8 hc8a hc8b ⊢
                clear hW8 hn7 hx
                have HL8 := hide (HBw.out.own.turn0 HT8.out).reads
                go_loopw [20] (fun a wx => ∃ i : Nat, i ≤ l.length ∧ a = .int .i64 i ∧ (∀ m (h : m < l.length), m < i → l[m].1 < tv) ∧ wx = w8) (fun a _ => l.length - (intOf a).toNat)
                case atStart => exact ⟨0, Nat.zero_le _, rfl, fun m h1 h2 => by omega, rfl⟩
                case round =>
                  rename_i wq4 wq5
                  obtain ⟨i, hi, rfl, hall, rfl⟩ := hrel
                  have HAll := hide hall
                  clear hall
                  have hpi : (0 : Int) ≤ (i : Int) := by omega
                  by_cases hil : i < l.length
                  · obtain ⟨g9, off9, rfl, hg9, hx9, hy9⟩ := reads_ent HL8.out hil
                    by_cases hlt9 : l[i].1 < tv
                    · go_wp2_with fail
                      refine ⟨⟨i + 1, by omega, by go_num, fun m h1 h2 => ?_, by trivial⟩, by simp [intOf] <;> omega⟩
                      rcases Nat.eq_or_lt_of_le (Nat.le_of_lt_succ h2) with rfl | h3
                      · exact hlt9
                      · exact HAll.out m h1 h3
                    · have hge9 : tv ≤ l[i].1 := by omega
                      have HGe : Hid (∀ m (h : m < l.length), i ≤ m → tv ≤ l[m].1) := hide (fun m h1 h2 => by
                        rcases Nat.eq_or_lt_of_le h2 with rfl | h3
                        · exact hge9
                        · have := HBw.out.mono i m h1 h3; omega)
                      clear hlt9 hy9
                      go_wp2_with fail
                      clear hge9 hx9
                      rcases Nat.eq_zero_or_pos i with rfl | hip
                      · have hr := HFr.out
                        rw [findOf_none (fun m h => HGe.out m h (Nat.zero_le _))] at hr
                        injection hr with hr hr3
                        injection hr with hr1 hr2
                        subst hr1 hr2 hr3
                        rw [show ((0 : Nat) : Int) = 0 from rfl]
                        go_quiet (fail)
                        go_wp2_with fail
                        exact ⟨⟨j + 1, by omega, by go_num, HT8.out.drewN _⟩, by simp [intOf] <;> omega⟩
                      · obtain ⟨m, rfl⟩ : ∃ m, i = m + 1 := ⟨i - 1, by omega⟩
                        have hml : m < l.length := by omega
                        have hr := HFr.out
                        rw [findOf_some hml (HAll.out m hml (by omega)) (fun m' h1 h2 => HGe.out m' h1 (by omega))] at hr
                        injection hr with hr hr3
                        subst hr3
                        obtain ⟨g8, off8, he8, hg8, hx8, hy8⟩ := reads_ent HL8.out hml
                        rw [hr] at hx8 hy8
                        rw [show (((m + 1 : Nat) : Int)) = (m : Int) + 1 by omega]
                        have hw8 : IntKind.i64.wrap ((m : Int) + 1 - 1) = (m : Int) := by rw [IntKind.wrap_i64]; omega
                        have hm0 : (0 : Int) ≤ (m : Int) := by omega
                        have hm1 : (m : Int) < (l.length : Int) := by omega
                        have hm2 : decide ((0 : Int) < (m : Int) + 1) = true := by rw [decide_eq_true_eq]; omega
                        first | subst he8 | (injection he8 with he8; injection he8 with he8a he8b; subst he8a he8b)
                        go_quiet (fail)
                        go_wp2_with fail
                        exact ⟨⟨j + 1, by omega, by go_num, HT8.out.drewN _⟩, by simp [intOf] <;> omega⟩
                  · have HGe : Hid (∀ m (h : m < l.length), i ≤ m → tv ≤ l[m].1) := hide (fun m h1 h2 => by omega)
                    obtain hil2 : i = l.length := by omega
                    have hil3 : ¬ (i : Int) < (l.length : Int) := by omega
                    have HI2 := hide hil2
                    clear hil2
                    go_wp2_with fail
                    clear hil3
                    rcases Nat.eq_zero_or_pos i with rfl | hip
                    · have hr := HFr.out
                      rw [findOf_none (fun m h => HGe.out m h (Nat.zero_le _))] at hr
                      injection hr with hr hr3
                      injection hr with hr1 hr2
                      subst hr1 hr2 hr3
                      rw [show ((0 : Nat) : Int) = 0 from rfl]
                      go_quiet (fail)
                      go_wp2_with fail
                      exact ⟨⟨j + 1, by omega, by go_num, HT8.out.drewN _⟩, by simp [intOf] <;> omega⟩
                    · obtain ⟨m, rfl⟩ : ∃ m, i = m + 1 := ⟨i - 1, by omega⟩
                      have hml : m < l.length := by omega
                      have hr := HFr.out
                      rw [findOf_some hml (HAll.out m hml (by omega)) (fun m' h1 h2 => HGe.out m' h1 (by omega))] at hr
                      injection hr with hr hr3
                      subst hr3
                      obtain ⟨g8, off8, he8, hg8, hx8, hy8⟩ := reads_ent HL8.out hml
                      rw [hr] at hx8 hy8
                      rw [show (((m + 1 : Nat) : Int)) = (m : Int) + 1 by omega]
                      have hw8 : IntKind.i64.wrap ((m : Int) + 1 - 1) = (m : Int) := by rw [IntKind.wrap_i64]; omega
                      have hm0 : (0 : Int) ≤ (m : Int) := by omega
                      have hm1 : (m : Int) < (l.length : Int) := by omega
                      have hm2 : decide ((0 : Int) < (m : Int) + 1) = true := by rw [decide_eq_true_eq]; omega
                      first | subst he8 | (injection he8 with he8; injection he8 with he8a he8b; subst he8a he8b)
                      go_quiet (fail)
                      go_wp2_with fail
                      exact ⟨⟨j + 1, by omega, by go_num, HT8.out.drewN _⟩, by simp [intOf] <;> omega⟩
            · obtain rfl : j = 5 := by omega
              have HE2 := hide (HBw.out.own.turn.trans0 HTx.out)
              go_wp2_with fail
              go_ret
              exact ⟨rfl, HE2.out⟩
end Go.Proofs.Ytlnjemdnmndnfaa
