/- The reader's I64, walked where nothing fails: the deferred closure finds nothing to recover. -/
import Derived.Test.YtlnjemdnmndnfaaRead1
namespace Go.Proofs.Ytlnjemdnmndnfaa.Wire
set_option linter.unusedVariables false
set_option linter.unusedSimpArgs false
open Go.RowKit K

set_option maxHeartbeats 400000 in
theorem i64_one {w : World} {b a : Nat} {s : ByteArray} (h : Rd w b s a) (hn : a + 8 ≤ s.size) :
    Calls Try.prog 55 #[.pointer (some ⟨b, 0, none⟩)] w fun e w' => e = .returned (.int .i64 (wrap64 (beVal ((s.data.toList.drop a).take 8)))) ∧ Turn [b] w w' ∧ Rd w' b s (a + 8) := by
  have HC := hide (number_at h 8 hn (by omega))
  clear h
  go_enter Try.func55, Try.ntmps55
  go_wp2_with (go_at_call 56; refine HC.out.mono ?_; rintro e w1 ⟨rfl, ht, hr⟩; have HR := hide hr; have HT := hide ht; clear hr ht)
  go_ret
  exact ⟨rfl, HT.out, HR.out⟩

theorem try_idle (a0 a1 a2 a3 : Addr) (w : World) :
    CallsD Try.prog 61 #[.pointer (some a0), .pointer (some a1), .pointer (some a2), .pointer (some a3)] .returning w fun e u' w' => e = .returned (.tuple #[]) ∧ u' = .returning ∧ w' = w := by
  refine callsD_of_wpS Try.func61 rfl fun c₀ cs hu => ?_
  apply wpS_seq
  apply wpS_region
  simp [wpOpsS, go_sem, recoverD, hu, Try.ntmps61, Exit.thenS]
  apply wpS_seq
  apply wpS_region
  simp [wpOpsS, go_sem, Exit.thenS]
  refine wpS_cond (t := false) (by simp [Act.eval, Array.replicate]) ?_
  simp only [Bool.false_eq_true, if_false]
  refine wpS_of_wp (wp_skip ?_)
  cases c₀
  simp_all [bodyPostS, results, Try.results61]

def GotI (v : Int) (b : Nat) (s : ByteArray) (a : Nat) (w : World) (e : Ending) (w' : World) : Prop := e = .returned (.tuple #[.int .i64 v, .int .i64 0]) ∧ Turn [b] w w' ∧ Rd w' b s a

set_option maxHeartbeats 1600000 in
set_option maxRecDepth 100000 in
theorem try_i64 {w : World} {b a : Nat} {s : ByteArray} (h : Rd w b s a) (hn : a + 8 ≤ s.size) :
    Calls Try.prog 54 #[.pointer (some ⟨b, 0, none⟩), .func (.func 55) #[] #[]] w (GotI (wrap64 (beVal ((s.data.toList.drop a).take 8))) b s (a + 8) w) := by
  have hmf : ∀ (fn : Fn) (first cap : Array Value) (w : World), (Instr.makeFunc fn first cap).run Try.prog w = .ok (.func fn first cap) w := fun _ _ _ _ => rfl
  have hbw := h.1.lt
  have hbw1 : b < w.heap.size + 1 := by omega
  have hbw2 : b < w.heap.size + 1 + 1 := by omega
  have hbw3 : b < w.heap.size + 1 + 1 + 1 := by omega
  have hc0 : w.cell? ⟨b, 0, none⟩ = some (.int .i64 a) := h.1.cell 0
  have hc2 : w.cell? ⟨b, 2, none⟩ = some (.int .i64 0) := h.1.cell 2
  have HR := hide (fun wx (ht : Turn [] w wx) => i64_one (h.turn0 ht) hn)
  clear h
  go_enter_defers Try.func54, Try.ntmps54
  go_wp2_with fail
  refine (HR.out _ (by repeat first | exact Turn.refl _ _ | refine Turn.alloc ?_ _ | refine Turn.drew ?_)).mono ?_
  rintro e w1 ⟨rfl, ht, hr⟩
  have B1 := (((Blk.new_at (w := w.alloc (.cells #[.pointer (some ⟨b, 0, none⟩)] 77)) (g := w.heap.size + 1) (by simp) 2 #[.int .i64 0]).alloc (.cells #[.int .i64 0] 30)).alloc (.cells #[.int .i64 a] 3)).turn ht (by simp; omega)
  have B2 := ((Blk.new_at (w := (w.alloc (.cells #[.pointer (some ⟨b, 0, none⟩)] 77)).alloc (.cells #[.int .i64 0] 2)) (g := w.heap.size + 1 + 1) (by simp) 30 #[.int .i64 0]).alloc (.cells #[.int .i64 a] 3)).turn ht (by simp; omega)
  have c1 : w1.cell? ⟨w.heap.size + 1, 0, none⟩ = some (.int .i64 0) := B1.cell 0
  have c2 : w1.cell? ⟨w.heap.size + 1 + 1, 0, none⟩ = some (.int .i64 0) := B2.cell 0
  have f1 := B1.frozen 0
  have f2 := B2.frozen 0
  have HT := hide (Turn.pre (w := w) (by repeat first | exact Turn.refl _ _ | refine Turn.alloc ?_ _) ht)
  have HD := hide hr
  have hz : w.heap.size + 1 + 1 < w1.heap.size := B2.lt
  clear ht hr B1 B2
  generalize wrap64 ↑(beVal (List.take 8 (List.drop a s.data.toList))) = v at *
  go_wp2
  have hcc1 : ((w1.setCell ⟨w.heap.size + 1, 0, none⟩ (.int .i64 v)).setCell ⟨w.heap.size + 1 + 1, 0, none⟩ (.int .i64 0)).cell? ⟨w.heap.size + 1, 0, none⟩ = some (.int .i64 v) := by simp [go_sem, c1]
  have hcc2 : ((w1.setCell ⟨w.heap.size + 1, 0, none⟩ (.int .i64 v)).setCell ⟨w.heap.size + 1 + 1, 0, none⟩ (.int .i64 0)).cell? ⟨w.heap.size + 1 + 1, 0, none⟩ = some (.int .i64 0) := by simp [go_sem, c2]
  have hT : Turn [b] w ((w1.setCell ⟨w.heap.size + 1, 0, none⟩ (.int .i64 v)).setCell ⟨w.heap.size + 1 + 1, 0, none⟩ (.int .i64 0)) := (HT.out.setCell (.inr (by simp)) _).setCell (.inr (by simp; omega)) _
  have hR : Rd ((w1.setCell ⟨w.heap.size + 1, 0, none⟩ (.int .i64 v)).setCell ⟨w.heap.size + 1 + 1, 0, none⟩ (.int .i64 0)) b s (a + 8) :=
    HD.out.turn (F := [w.heap.size + 1, w.heap.size + 1 + 1]) (((Turn.refl _ _).setCell (.inl (by simp)) _).setCell (.inl (by simp)) _) (by simp; omega)
  have HTT := hide hT
  have HRR := hide hR
  clear HT HD hR hT c1 c2 f1 f2 hz HR
  generalize ((w1.setCell ⟨w.heap.size + 1, 0, none⟩ (.int .i64 v)).setCell ⟨w.heap.size + 1 + 1, 0, none⟩ (.int .i64 0)) = w2 at *
  refine leaves_cons (f := 61) (args := #[.pointer (some ⟨w.heap.size + 1 + 1 + 1, 0, none⟩), .pointer (some ⟨w.heap.size, 0, none⟩), .pointer (some ⟨w.heap.size + 1, 0, none⟩), .pointer (some ⟨w.heap.size + 1 + 1, 0, none⟩)]) (by simp) (by simp [go_sem]) ?_
  refine (try_idle _ _ _ _ _).mono ?_
  rintro e u' w3 ⟨rfl, rfl, rfl⟩
  simp [Leaves, settle, results, Try.results54, go_sem, hcc1, hcc2]
  exact ⟨rfl, HTT.out, HRR.out⟩

set_option maxHeartbeats 400000 in
theorem readI64 {w : World} {b a : Nat} {s : ByteArray} (h : Rd w b s a) (hn : a + 8 ≤ s.size) :
    Calls Try.prog 42 #[.pointer (some ⟨b, 0, none⟩)] w (GotI (wrap64 (beVal ((s.data.toList.drop a).take 8))) b s (a + 8) w) := by
  have HC := hide (try_i64 h hn)
  clear h
  go_enter Try.func42, Try.ntmps42
  go_wp2_with (go_at_call 54; refine HC.out.mono ?_; rintro e w1 ⟨rfl, ht, hr⟩; have HR := hide hr; have HT := hide ht; clear hr ht)
  go_ret2
  exact ⟨rfl, HT.out, HR.out⟩
end Go.Proofs.Ytlnjemdnmndnfaa.Wire
