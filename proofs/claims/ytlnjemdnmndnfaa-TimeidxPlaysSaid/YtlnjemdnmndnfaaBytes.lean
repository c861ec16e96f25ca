/- Words on bytes of my own, over any program: a row of bytes, a string laid behind it, a string made of it. -/
import Derived.Test.YtlnjemdnmndnfaaKit
import Derived.Lib.AppendStr
import Derived.Lib.ConvBytes
import Derived.Laws.BytesString
import Derived.Laws.BytesArg
namespace Go.Proofs.Ytlnjemdnmndnfaa.K
set_option linter.unusedVariables false
set_option linter.unusedSimpArgs false
open Go.RowKit

def bytesV (bs : List UInt8) : List Value := bs.map fun b => Value.int .u8 b.toNat
def strOf (bs : List UInt8) : ByteArray := ⟨bs.toArray⟩
theorem bytesV_append (a b : List UInt8) : bytesV (a ++ b) = bytesV a ++ bytesV b := by simp [bytesV]
theorem bytesV_length (a : List UInt8) : (bytesV a).length = a.length := by simp [bytesV]
theorem bytesV_oneCell (a : List UInt8) : ∀ u ∈ bytesV a, u.oneCell' = true := by
  intro u hu
  simp only [bytesV, List.mem_map] at hu
  obtain ⟨b, _, rfl⟩ := hu
  rfl
theorem strCells_eq (s : ByteArray) : Lib.strCells s = bytesV s.data.toList := rfl
theorem strOf_size (bs : List UInt8) : (strOf bs).size = bs.length := by simp [strOf, ByteArray.size]
theorem strOf_list (bs : List UInt8) : (strOf bs).data.toList = bs := rfl
theorem strOf_self (s : ByteArray) : strOf s.data.toList = s := by
  obtain ⟨d⟩ := s
  simp [strOf]
theorem str_ext {s t : ByteArray} (h : s.data.toList = t.data.toList) : s = t := by
  rw [← strOf_self s, ← strOf_self t, h]

section
variable {P : Program} (w : World)
theorem run_append_str (base : Nat) (t u ty e : TypeId) (i : TypeInfo) (ht : P.underlying t = some (.slice e)) (hu : P.underlying u = some .string) (hi : P.info? e = some i) (hz : i.zero = some (.int .u8 0))
    (hsize : i.size = 1) (hby : i.bytes = 1)
    (v : Value) (n : Nat) (xs : List Value) (hown : w.ownsRow base e 1 v n xs) (s : ByteArray)
    (h63 : n + s.size ≤ maxLen) (hbytes : n + s.size ≤ 140737488355328) (hbase : base ≤ w.heap.size) :
    ∃ v' w', (Builtin.append_ #[t, u] ty #[v, .string s]).run P w = .ok v' w' ∧ w'.ownsRow base e 1 v' (n + s.size) (xs ++ bytesV s.data.toList) ∧ w.grownBy w' v.ownBlock ∧
      (v'.ownBlock = v.ownBlock ∨ v'.ownBlock = some w.heap.size) := by
  obtain ⟨v', w', hr, h2, h3, h4⟩ := Lib.run_append_own_string (P := P) w base t u ty e i ht hu hi hz hsize hby v n xs hown s h63 hbytes hbase
  refine ⟨v', w', hr, h2, h3, ?_⟩
  have hm : n + s.size ≤ 9223372036854775807 := by simp only [maxLen] at h63; omega
  rcases hown.2 with ⟨rfl, rfl⟩ | ⟨g, cap, cur, rfl, hbg, hg, hnc, hcm, hcs, htake⟩
  · by_cases h0 : s.size = 0
    · left
      rw [h4.2 ⟨rfl, h0⟩]
    · right
      have hr' := run_append_nil_string (P := P) w t u ty e i (.int .u8 0) ht hu hi hz s (by omega) (by omega) (by rw [hby]; omega)
      rw [hr] at hr'
      injection hr' with hv _
      rw [hv]; rfl
  · by_cases hroom : n + s.size ≤ cap
    · left
      have hcs' : cur.size = cap := by simpa using hcs
      have hr' := Lib.run_append_room_string (P := P) w t u ty e i ht hu hi hsize g n cap cur hg s hroom (by omega)
      rw [hr] at hr'
      injection hr' with hv _
      rw [hv]; rfl
    · right
      have hxl : xs.length = n := by simpa using hown.1
      have hr' := Lib.run_append_grow_string (P := P) w t u ty e i (.int .u8 0) ht hu hi hz ⟨g, 0, none⟩ n cap xs (by rw [hsize]; simpa using hxl) (hown.cells (g := g) rfl) s (by omega) (by omega) (by rw [hby]; exact growslice_fits (by omega) (by omega))
      rw [hr] at hr'
      injection hr' with hv _
      rw [hv]; rfl
theorem wpList_append_str {ops : Array Oper} {rest : List Oper} {o : Oper} {a : Act} {Q : Exit → Act → World → Prop} (hgd : o.guard = none) (sl x : Operand) (t u : TypeId)
    (ho : o.op = .call { callee := .builtin .append, args := #[sl, x], argTypes := #[t, u] })
    (base : Nat) (e : TypeId) (i : TypeInfo) (ht : P.underlying t = some (.slice e)) (hu : P.underlying u = some .string) (hi : P.info? e = some i) (hz : i.zero = some (.int .u8 0))
    (hsize : i.size = 1) (hby : i.bytes = 1)
    (v : Value) (n : Nat) (xs : List Value) (hs : a.eval sl = v) (hown : w.ownsRow base e 1 v n xs) (s : ByteArray) (hx : a.eval x = .string s)
    (h63 : n + s.size ≤ maxLen) (hbytes : n + s.size ≤ 140737488355328) (hbase : base ≤ w.heap.size)
    (h : ∀ v' w', w'.ownsRow base e 1 v' (n + s.size) (xs ++ bytesV s.data.toList) → w.grownBy w' v.ownBlock → (v'.ownBlock = v.ownBlock ∨ v'.ownBlock = some w.heap.size) → wpList P ops Q rest (a.put o.dst v') w') : wpList P ops Q (o :: rest) a w := by
  refine wpList_plain hgd fun K hK => ?_
  obtain ⟨v', w', hr, h2, h3, h4⟩ := run_append_str (P := P) w base t u o.type e i ht hu hi hz hsize hby v n xs hown s h63 hbytes hbase
  unfold Oper.wp execOp
  simp only [ho, resolve, invoke, builtin, Sem.run_bind, Sem.run_pure, Result.andThen_ok, List.map_toArray, List.map_cons, List.map_nil, hs, hx, hr]
  exact hK _ _ (h v' w' h2 h3 h4)

/-- 'arr[:k]' of an array that lies in memory. -/
theorem run_slice_arr (t e : TypeId) (n : Nat) (i : TypeInfo) (ht : P.underlying t = some (.array n e)) (hi : P.info? e = some i) (k : Nat) (hk : k ≤ n) (a : Addr) :
    (Instr.sliceAt t (.pointer (some a)) none (some (.int .i64 (k : Int))) none).run P w = .ok (.slice (some a) k n) w := by
  have hk' : (k : Int) ≤ (n : Int) := by omega
  simp [Instr.sliceAt, Instr.sureAddr, run_underlying ht, Instr.sliceBounds, run_sliceBound, sizeOf, typeInfo, hi, hk', Addr.add]
/-- A string made of bytes. -/
theorem run_str_of_bytes (src dst e : TypeId) (hs : P.underlying src = some (.slice e)) (he : P.underlying e = some (.int .u8)) (hd : P.underlying dst = some .string) (A : Option Addr) (n c : Nat) (bs : List UInt8) (hr : Reads w 1 A n (bytesV bs)) :
    (convert src dst (.slice A n c)).run P w = .ok (.string (strOf bs)) w := by
  have hn : bs.length = n := by have := hr.1; rw [bytesV_length] at this; omega
  subst hn
  rcases Nat.eq_zero_or_pos bs.length with h0 | h0
  · have : bs = [] := List.eq_nil_of_length_eq_zero h0
    subst this
    cases A with
    | none => exact run_convert_bytes_nil w src e hs he _ c dst hd
    | some a =>
      obtain ⟨g, off, spot⟩ := a
      have hl : (loadCells ⟨g, off, spot⟩ ([] : List UInt8).length).run P w = .ok (([] : List Int).map (Value.int .u8)).toArray w := by
        simpa using run_loadCells_list (P := P) w ⟨g, off, spot⟩ [] (fun j v hj => by simp at hj)
      rw [run_convert_bytes_string w src dst e _ _ c hs he hd, run_bytesToString w _ _ c [] hl]
      rfl
  · obtain ⟨g, off, rfl, hg, hc⟩ := hr.2 h0
    have := run_convert_bytes_arg (P := P) w src e hs he g off bs.length c (bs.map fun b => (b.toNat : Int)) (by simp) (fun i hi => by
      rw [hc i _ (by simp [bytesV, hi]; rfl)]
      simp [List.getD, hi]) dst hd
    rw [this]
    congr 2
    apply str_ext
    rw [strOfNums_data, strOf_list, List.map_map]
    conv => rhs; rw [← List.map_id bs]
    exact List.map_congr_left fun b _ => by simp
end
end Go.Proofs.Ytlnjemdnmndnfaa.K
