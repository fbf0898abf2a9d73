/- Contracts of the package dgram. -/
import Derived.Test.YtgdfjkdcdfmifaaRest
import Derived.Test.YtgdfjkdcdfmifaaRing
namespace Go.Proofs.Ytgdfjkdcdfmifaa
open Go.RowKit
set_option linter.unusedVariables false

/-- a datagram -/
structure Gm where
  fa : Int
  fp : Int
  ta : Int
  tp : Int
  b : ByteArray
def gcells (x : Gm) : List Value := [.int .u32 x.fa, .int .i64 x.fp, .int .u32 x.ta, .int .i64 x.tp, .string x.b]
theorem gcells_len (x : Gm) : (gcells x).length = 5 := rfl
def zeroG : Gm := ⟨0, 0, 0, 0, ⟨#[]⟩⟩
def queue (Rs : List Gm) (f n : Nat) (lost : Int) : List Value := Rs.flatMap gcells ++ [.int .i64 f, .int .i64 n, .int .i64 lost]
abbrev QueueAt (w : World) (g : Nat) (Rs : List Gm) (f n : Nat) (lost : Int) : Prop := At w g 97 (queue Rs f n lost)
section
variable {w : World} {g : Nat} {Rs : List Gm} {f n : Nat} {lost : Int} (hQ : QueueAt w g Rs f n lost) (hl : Rs.length = 16)
include hQ hl
theorem QueueAt.first : w.cell? ⟨g, 80, none⟩ = some (.int .i64 f) := by
  rw [hQ.cell 80]; have := rows_tail gcells 5 gcells_len Rs [.int .i64 f, .int .i64 n, .int .i64 lost] 0; rw [hl] at this; exact this
theorem QueueAt.many : w.cell? ⟨g, 81, none⟩ = some (.int .i64 n) := by
  rw [hQ.cell 81]; have := rows_tail gcells 5 gcells_len Rs [.int .i64 f, .int .i64 n, .int .i64 lost] 1; rw [hl] at this; exact this
theorem QueueAt.lost_ : w.cell? ⟨g, 82, none⟩ = some (.int .i64 lost) := by
  rw [hQ.cell 82]; have := rows_tail gcells 5 gcells_len Rs [.int .i64 f, .int .i64 n, .int .i64 lost] 2; rw [hl] at this; exact this
theorem QueueAt.slot (i c : Nat) (hi : i < 16) (hc : c < 5) : w.cell? ⟨g, i * 5 + c, none⟩ = (gcells (Rs[i]'(by omega)))[c]? := by
  rw [hQ.cell]; exact rows_get gcells 5 gcells_len Rs _ i c (by omega) hc
end
theorem queue_first (Rs : List Gm) (f n : Nat) (lost : Int) (hl : Rs.length = 16) (f' : Nat) : (queue Rs f n lost).set 80 (.int .i64 f') = queue Rs f' n lost := by
  unfold queue
  have := rows_len gcells 5 gcells_len Rs
  rw [List.set_append_right _ _ (by omega), this, hl]; rfl
theorem queue_many (Rs : List Gm) (f n : Nat) (lost : Int) (hl : Rs.length = 16) (n' : Nat) : (queue Rs f n lost).set 81 (.int .i64 n') = queue Rs f n' lost := by
  unfold queue
  have := rows_len gcells 5 gcells_len Rs
  rw [List.set_append_right _ _ (by omega), this, hl]; rfl
theorem queue_lost (Rs : List Gm) (f n : Nat) (lost : Int) (hl : Rs.length = 16) (l' : Int) : (queue Rs f n lost).set 82 (.int .i64 l') = queue Rs f n l' := by
  unfold queue
  have := rows_len gcells 5 gcells_len Rs
  rw [List.set_append_right _ _ (by omega), this, hl]; rfl

set_option maxRecDepth 100000 in
theorem dgNew_any (w : World) : Calls Try.prog 21 #[] w fun e w' => e = .returned (.pointer (some ⟨w.heap.size, 0, none⟩)) ∧ QueueAt w' w.heap.size (List.replicate 16 zeroG) 0 0 0 ∧ Below w.heap.size w w' := by
  have hz : ∀ W : World, (zeroValue 97).run Try.prog W = .ok (.agg (queue (List.replicate 16 zeroG) 0 0 0).toArray) W := fun _ => by kernel_rfl
  obtain ⟨q, hq⟩ : ∃ q, queue (List.replicate 16 zeroG) 0 0 0 = q := ⟨_, rfl⟩
  rw [hq] at hz
  unfold QueueAt
  rw [hq]
  clear hq
  go_enter Try.func21, Try.ntmps21
  go_wp2
  go_ret
  exact ⟨rfl, At.new_ _ _ _, below_ca (Below.refl _ _) _⟩
theorem Waits_any (g : Nat) (Rs : List Gm) (f n : Nat) (lost : Int) (w : World) (hQ : QueueAt w g Rs f n lost) (hl : Rs.length = 16) :
    Calls Try.prog 23 #[.pointer (some ⟨g, 0, none⟩)] w fun e w' => e = .returned (.int .i64 n) ∧ w = w' := by
  have c := hQ.many hl
  go_enter Try.func23, Try.ntmps23
  go_wp2
  go_ret
  exact ⟨rfl, rfl⟩
theorem Lost_is (g : Nat) (Rs : List Gm) (f n : Nat) (lost : Int) (w : World) (hQ : QueueAt w g Rs f n lost) (hl : Rs.length = 16) :
    Calls Try.prog 25 #[.pointer (some ⟨g, 0, none⟩)] w fun e w' => e = .returned (.int .i64 lost) ∧ w = w' := by
  have c := hQ.lost_ hl
  go_enter Try.func25, Try.ntmps25
  go_wp2
  go_ret
  exact ⟨rfl, rfl⟩
set_option maxRecDepth 100000 in
set_option maxHeartbeats 1000000 in
theorem Put_no (g : Nat) (Rs : List Gm) (f : Nat) (lost : Int) (x : Gm) (w : World) (hQ : QueueAt w g Rs f 16 lost) (hl : Rs.length = 16) (h1 : 0 ≤ lost) (h2 : lost ≤ 4611686018427387904) :
    Calls Try.prog 22 #[.pointer (some ⟨g, 0, none⟩), .agg (gcells x).toArray] w fun e w' => e = .returned (.bool false) ∧ QueueAt w' g Rs f 16 (lost + 1) ∧ w.grownBy w' (some g) := by
  have c := hQ.many hl
  have c2 := hQ.lost_ hl
  have fz := hQ.free 82
  have hlt := hQ.lt
  unfold gcells
  go_enter Try.func22, Try.ntmps22
  go_wp2
  go_ret
  refine ⟨rfl, ?_, ?_⟩
  · exact ((hQ.set_ 82 _).alloc _).conv (queue_lost _ _ _ _ hl _)
  · repeat' (first | with_reducible exact only_refl _ _ | with_reducible assumption | with_reducible refine only_drew ?_ | with_reducible refine only_dn ?_ _ | with_reducible refine only_alloc ?_ _ | with_reducible refine only_set ?_ (.inl rfl) _ | with_reducible refine only_set ?_ (.inr (by simp)) _ | (refine only_below ?_ (by with_reducible assumption)) | (refine only_trans ?_ (by with_reducible assumption)))
set_option maxRecDepth 100000 in
set_option maxHeartbeats 1000000 in
theorem Put_yes (g : Nat) (Rs : List Gm) (f n : Nat) (lost : Int) (x : Gm) (w : World) (hQ : QueueAt w g Rs f n lost) (hl : Rs.length = 16) (hf : f < 16) (hn : n < 16) :
    Calls Try.prog 22 #[.pointer (some ⟨g, 0, none⟩), .agg (gcells x).toArray] w fun e w' => e = .returned (.bool true) ∧ QueueAt w' g (Rs.set ((f + n) % 16) x) f (n + 1) lost ∧ w.grownBy w' (some g) := by
  have c := hQ.many hl
  have c1 := hQ.first hl
  have f1 := hQ.free 81
  have hlt := hQ.lt
  have hne : ((n : Int) == 16) = false := by simp; omega
  obtain ⟨K, hK⟩ : ∃ K, (f + n) % 16 = K := ⟨_, rfl⟩
  have hKi : ((f : Int) + (n : Int)) % 16 = (K : Int) := by omega
  have hK16 : K < 16 := by omega
  have s0 := hQ.slot hl K 0 hK16 (by omega)
  have s1 := hQ.slot hl K 1 hK16 (by omega)
  have s2 := hQ.slot hl K 2 hK16 (by omega)
  have s3 := hQ.slot hl K 3 hK16 (by omega)
  have s4 := hQ.slot hl K 4 hK16 (by omega)
  have z0 := hQ.free (K * 5)
  have z1 := hQ.free (K * 5 + 1)
  have z2 := hQ.free (K * 5 + 2)
  have z3 := hQ.free (K * 5 + 3)
  have z4 := hQ.free (K * 5 + 4)
  have k0 : (0 : Int) ≤ (K : Int) := by omega
  have k1 : (K : Int) < 16 := by omega
  unfold gcells at s0 s1 s2 s3 s4 ⊢
  simp at s0 s1 s2 s3 s4
  have HK := Lib.hid hK
  clear hK
  go_enter Try.func22, Try.ntmps22
  go_wp2_with fail
  go_region
  go_wp2
  go_ret
  have hKl : K < Rs.length := by omega
  have e : ((((((queue Rs f n lost).set (K * 5) (.int .u32 x.fa)).set (K * 5 + 1) (.int .i64 x.fp)).set (K * 5 + 2) (.int .u32 x.ta)).set (K * 5 + 3) (.int .i64 x.tp)).set (K * 5 + 4) (.string x.b)).set 81 (.int .i64 ((n : Int) + 1)) = queue (Rs.set ((f + n) % 16) x) f (n + 1) lost := by
    rw [HK.out]
    have h5 := rows_set gcells 5 gcells_len Rs [.int .i64 f, .int .i64 n, .int .i64 lost] K x hKl
    have h6 := queue_many (Rs.set K x) f n lost (by simpa using hl) (n + 1)
    rw [← h6]
    exact congrArg (fun l => List.set l 81 (Value.int .i64 ((n : Int) + 1))) h5
  refine ⟨rfl, ?_, ?_⟩
  · refine At.drew (At.alloc ?_ _)
    refine At.conv ?_ e
    iterate 6 (with_reducible apply At.set_)
    exact hQ
  · repeat' (first | with_reducible exact only_refl _ _ | with_reducible assumption | with_reducible refine only_drew ?_ | with_reducible refine only_dn ?_ _ | with_reducible refine only_alloc ?_ _ | with_reducible refine only_set ?_ (.inl rfl) _ | with_reducible refine only_set ?_ (.inr (by simp)) _ | (refine only_below ?_ (by with_reducible assumption)) | (refine only_trans ?_ (by with_reducible assumption)))

theorem slice_len (b : ByteArray) (m : Nat) (h : m ≤ b.size) : (b.extract 0 m).size = m := by rw [ByteArray.size_extract]; omega
/-- the value that Peek and Take tell -/
def gval (x : Gm) : Value := .agg (gcells x).toArray
set_option maxRecDepth 100000 in
set_option maxHeartbeats 1000000 in
theorem Peek_no (g : Nat) (Rs : List Gm) (f : Nat) (lost : Int) (w : World) (hQ : QueueAt w g Rs f 0 lost) (hl : Rs.length = 16) :
    Calls Try.prog 47 #[.pointer (some ⟨g, 0, none⟩)] w fun e w' => e = .returned (.tuple #[gval zeroG, .bool false]) ∧ Below w.heap.size w w' := by
  have c := hQ.many hl
  have hlt := hQ.lt
  unfold gval gcells zeroG
  go_enter Try.func47, Try.ntmps47
  go_wp2
  exact bodyPost_ret (v := .tuple #[.agg #[.int .u32 0, .int .i64 0, .int .u32 0, .int .i64 0, .string ⟨#[]⟩], .bool false]) (by simp [results, Try.results47, go_sem]) rfl ⟨rfl, below_ca (Below.refl _ _) _⟩
set_option maxRecDepth 100000 in
set_option maxHeartbeats 1000000 in
theorem Peek_yes (g : Nat) (Rs : List Gm) (f n : Nat) (lost : Int) (x : Gm) (w : World) (hQ : QueueAt w g Rs f n lost) (hl : Rs.length = 16) (hf : f < 16) (hx : Rs[f]? = some x) (hn : 0 < n) (hn' : n ≤ 16) :
    Calls Try.prog 47 #[.pointer (some ⟨g, 0, none⟩)] w fun e w' => e = .returned (.tuple #[gval x, .bool true]) ∧ Below w.heap.size w w' := by
  have c := hQ.many hl
  have c1 := hQ.first hl
  have hlt := hQ.lt
  have hne : ((n : Int) == 0) = false := by simp; omega
  obtain rfl : Rs[f] = x := by rw [List.getElem?_eq_getElem (by omega)] at hx; exact Option.some.inj hx
  have s0 := hQ.slot hl f 0 hf (by omega)
  have s1 := hQ.slot hl f 1 hf (by omega)
  have s2 := hQ.slot hl f 2 hf (by omega)
  have s3 := hQ.slot hl f 3 hf (by omega)
  have s4 := hQ.slot hl f 4 hf (by omega)
  unfold gval
  generalize Rs[f] = x at *
  unfold gcells at s0 s1 s2 s3 s4 ⊢
  simp at s0 s1 s2 s3 s4
  have k0 : (0 : Int) ≤ (f : Int) := by omega
  have k1 : (f : Int) < 16 := by omega
  clear hx
  go_enter Try.func47, Try.ntmps47
  go_wp2_with fail
  go_region
  go_wp2
  exact bodyPost_ret (v := .tuple #[.agg #[.int .u32 x.fa, .int .i64 x.fp, .int .u32 x.ta, .int .i64 x.tp, .string x.b], .bool true]) (by simp [results, Try.results47, go_sem]) rfl ⟨rfl, (below_ca (Below.refl _ _) _).drew⟩

/-- the datagram that Take tells: the body cut -/
def cutG (x : Gm) (most : Int) : Gm := { x with b := x.b.extract 0 (if (if 0 < most then most else 0) < (x.b.size : Int) then (if 0 < most then most else 0) else (x.b.size : Int)).toNat }
set_option maxRecDepth 100000 in
set_option maxHeartbeats 1000000 in
theorem Take_no (g : Nat) (Rs : List Gm) (f : Nat) (lost most : Int) (w : World) (hQ : QueueAt w g Rs f 0 lost) (hl : Rs.length = 16) :
    Calls Try.prog 24 #[.pointer (some ⟨g, 0, none⟩), .int .i64 most] w fun e w' => e = .returned (.tuple #[gval zeroG, .int .i64 0, .bool false]) ∧ Below w.heap.size w w' := by
  have hlt := hQ.lt
  go_enter Try.func24, Try.ntmps24
  go_wp2_with fail
  refine calls_gen (fun W => Below w.heap.size w W ∧ At W w.heap.size 36 (gcells zeroG)) ⟨below_ca (Below.refl _ _) _, At.new_ _ _ _⟩ ?_
  rintro W ⟨hB, hZ⟩
  refine (Peek_no _ _ _ _ _ (hQ.kept hB) hl).mono ?_
  rintro e w2 ⟨rfl, hB2⟩
  have hZ2 := hZ.kept hB2
  have hB3 := below_c hB hB2
  have hlz := hZ2.lt
  have z0 := hZ2.cell 0
  have z1 := hZ2.cell 1
  have z2 := hZ2.cell 2
  have z3 := hZ2.cell 3
  have z4 := hZ2.cell 4
  have y0 := hZ2.free 0
  have y1 := hZ2.free 1
  have y2 := hZ2.free 2
  have y3 := hZ2.free 3
  have y4 := hZ2.free 4
  unfold gval gcells zeroG at *
  simp at z0 z1 z2 z3 z4
  clear hZ hB hB2 hZ2 hQ
  go_wp2_with fail
  refine bodyPost_ret (v := .tuple #[.agg #[.int .u32 0, .int .i64 0, .int .u32 0, .int .i64 0, .string ⟨#[]⟩], .int .i64 0, .bool false]) (by simp [results, Try.results24, go_sem, z0, z1, z2, z3, z4, hlz]) rfl ⟨rfl, ?_⟩
  repeat' (first | with_reducible exact Below.refl _ _ | with_reducible assumption | with_reducible refine Below.drew ?_ | with_reducible refine below_dn ?_ _ | with_reducible refine below_ca ?_ _ | with_reducible refine Below.setCell ?_ ?_ _ | (refine below_c ?_ (by with_reducible assumption)) | (simp <;> omega) | omega)

theorem extract_zero (b : ByteArray) : b.extract 0 0 = ByteArray.empty := by
  have : (b.extract 0 0).data.toList = [] := by rw [ByteArray.data_extract]; simp
  have h2 : (b.extract 0 0).data = #[] := by simp
  exact congrArg ByteArray.mk h2
theorem extract_all (b : ByteArray) : b.extract 0 b.size = b := by
  have : (b.extract 0 b.size).data = b.data := by rw [ByteArray.data_extract]; exact Array.extract_size
  exact congrArg ByteArray.mk this
set_option maxRecDepth 100000 in
set_option maxHeartbeats 2000000 in
theorem Take_neg (g : Nat) (Rs : List Gm) (f n : Nat) (lost most : Int) (x : Gm) (w : World) (hQ : QueueAt w g Rs f n lost) (hl : Rs.length = 16) (hf : f < 16) (hx : Rs[f]? = some x) (hn : 0 < n) (hn' : n ≤ 16)
    (hm1 : -9223372036854775808 ≤ most) (hm2 : most ≤ 9223372036854775807) (hb : x.b.size ≤ 9223372036854775807)
    (h : most < 0) :
    Calls Try.prog 24 #[.pointer (some ⟨g, 0, none⟩), .int .i64 most] w fun e w' => e = .returned (.tuple #[gval { x with b := ByteArray.empty }, .int .i64 x.b.size, .bool true]) ∧ QueueAt w' g (Rs.set f zeroG) ((f + 1) % 16) (n - 1) lost ∧ w.grownBy w' (some g) := by
  have hlt := hQ.lt
  go_enter Try.func24, Try.ntmps24
  go_wp2_with fail
  refine calls_gen (fun W => Below w.heap.size w W ∧ At W w.heap.size 36 (gcells zeroG)) ⟨below_ca (Below.refl _ _) _, At.new_ _ _ _⟩ ?_
  rintro W ⟨hB, hZ⟩
  refine (Peek_yes _ _ _ _ _ x _ (hQ.kept hB) hl hf hx hn hn').mono ?_
  rintro e w2 ⟨rfl, hB2⟩
  have hZ2 := hZ.kept hB2
  have hB3 := below_c hB hB2
  have hQ2 : QueueAt w2 g Rs f n lost := hQ.kept hB3
  have hO2 : w.grownBy w2 (some g) := only_below (only_refl _ _) hB3
  have hlz := hZ2.lt
  have hgw : g < w2.heap.size := by omega
  have z0 := hZ2.cell 0
  have z1 := hZ2.cell 1
  have z2 := hZ2.cell 2
  have z3 := hZ2.cell 3
  have z4 := hZ2.cell 4
  have y0 := hZ2.free 0
  have y1 := hZ2.free 1
  have y2 := hZ2.free 2
  have y3 := hZ2.free 3
  have y4 := hZ2.free 4
  have c := hQ2.many hl
  have c1 := hQ2.first hl
  have f0 := hQ2.free 80
  have f1 := hQ2.free 81
  obtain hx' : Rs[f] = x := by rw [List.getElem?_eq_getElem (by omega)] at hx; exact Option.some.inj hx
  have s0 := hQ2.slot hl f 0 hf (by omega)
  have s1 := hQ2.slot hl f 1 hf (by omega)
  have s2 := hQ2.slot hl f 2 hf (by omega)
  have s3 := hQ2.slot hl f 3 hf (by omega)
  have s4 := hQ2.slot hl f 4 hf (by omega)
  have t0 := hQ2.free (f * 5)
  have t1 := hQ2.free (f * 5 + 1)
  have t2 := hQ2.free (f * 5 + 2)
  have t3 := hQ2.free (f * 5 + 3)
  have t4 := hQ2.free (f * 5 + 4)
  rw [hx'] at s0 s1 s2 s3 s4
  unfold gval gcells zeroG at *
  simp at z0 z1 z2 z3 z4 s0 s1 s2 s3 s4
  have k0 : (0 : Int) ≤ (f : Int) := by omega
  have k1 : (f : Int) < 16 := by omega
  have HX := Lib.hid hx
  have HQ2 := Lib.hid hQ2
  have HO2 := Lib.hid hO2
  clear hZ hB hB2 hZ2 hQ hB3 hx hx' hQ2 hO2
  go_wp2_with fail
  go_region
  go_wp2
  have hfl : f < Rs.length := by omega
  have e : (((((((queue Rs f n lost).set (f * 5) (.int .u32 0)).set (f * 5 + 1) (.int .i64 0)).set (f * 5 + 2) (.int .u32 0)).set (f * 5 + 3) (.int .i64 0)).set (f * 5 + 4) (.string ⟨#[]⟩)).set 80 (.int .i64 (((f : Int) + 1) % 16))).set 81 (.int .i64 ((n : Int) - 1)) = queue (Rs.set f zeroG) ((f + 1) % 16) (n - 1) lost := by
    have h5 := rows_set gcells 5 gcells_len Rs [.int .i64 f, .int .i64 n, .int .i64 lost] f zeroG hfl
    have h6 := queue_first (Rs.set f zeroG) f n lost (by simpa using hl) ((f + 1) % 16)
    have h7 := queue_many (Rs.set f zeroG) ((f + 1) % 16) n lost (by simpa using hl) (n - 1)
    rw [← h7, ← h6, show (((f + 1) % 16 : Nat) : Int) = ((f : Int) + 1) % 16 by omega, show ((n - 1 : Nat) : Int) = (n : Int) - 1 by omega]
    exact congrArg (fun l => List.set (List.set l 80 (Value.int .i64 (((f : Int) + 1) % 16))) 81 (Value.int .i64 ((n : Int) - 1))) h5
  refine bodyPost_ret (v := .tuple #[.agg #[.int .u32 x.fa, .int .i64 x.fp, .int .u32 x.ta, .int .i64 x.tp, .string ByteArray.empty], .int .i64 x.b.size, .bool true]) (by simp [results, Try.results24, go_sem, z0, z1, z2, z3, z4, hlz]) rfl ⟨rfl, ?_, ?_⟩
  · refine At.drew (At.alloc ?_ _)
    refine At.conv ?_ e
    iterate 5 (with_reducible refine At.far ?_ (show g ≠ w.heap.size by omega) _)
    iterate 7 (with_reducible apply At.set_)
    exact HQ2.out
  · have HO := HO2.out
    repeat' (first | with_reducible exact only_refl _ _ | with_reducible assumption | with_reducible refine only_drew ?_ | with_reducible refine only_dn ?_ _ | with_reducible refine only_alloc ?_ _ | with_reducible refine only_set ?_ (.inl rfl) _ | with_reducible refine only_set ?_ (.inr (by simp)) _ | (refine only_below ?_ (by with_reducible assumption)) | (refine only_trans ?_ (by with_reducible assumption)))
set_option maxRecDepth 100000 in
set_option maxHeartbeats 2000000 in
theorem Take_zero (g : Nat) (Rs : List Gm) (f n : Nat) (lost most : Int) (x : Gm) (w : World) (hQ : QueueAt w g Rs f n lost) (hl : Rs.length = 16) (hf : f < 16) (hx : Rs[f]? = some x) (hn : 0 < n) (hn' : n ≤ 16)
    (hm1 : -9223372036854775808 ≤ most) (hm2 : most ≤ 9223372036854775807) (hb : x.b.size ≤ 9223372036854775807)
    (h : most = 0) :
    Calls Try.prog 24 #[.pointer (some ⟨g, 0, none⟩), .int .i64 most] w fun e w' => e = .returned (.tuple #[gval { x with b := ByteArray.empty }, .int .i64 x.b.size, .bool true]) ∧ QueueAt w' g (Rs.set f zeroG) ((f + 1) % 16) (n - 1) lost ∧ w.grownBy w' (some g) := by
  subst h
  have hlt := hQ.lt
  go_enter Try.func24, Try.ntmps24
  go_wp2_with fail
  refine calls_gen (fun W => Below w.heap.size w W ∧ At W w.heap.size 36 (gcells zeroG)) ⟨below_ca (Below.refl _ _) _, At.new_ _ _ _⟩ ?_
  rintro W ⟨hB, hZ⟩
  refine (Peek_yes _ _ _ _ _ x _ (hQ.kept hB) hl hf hx hn hn').mono ?_
  rintro e w2 ⟨rfl, hB2⟩
  have hZ2 := hZ.kept hB2
  have hB3 := below_c hB hB2
  have hQ2 : QueueAt w2 g Rs f n lost := hQ.kept hB3
  have hO2 : w.grownBy w2 (some g) := only_below (only_refl _ _) hB3
  have hlz := hZ2.lt
  have hgw : g < w2.heap.size := by omega
  have z0 := hZ2.cell 0
  have z1 := hZ2.cell 1
  have z2 := hZ2.cell 2
  have z3 := hZ2.cell 3
  have z4 := hZ2.cell 4
  have y0 := hZ2.free 0
  have y1 := hZ2.free 1
  have y2 := hZ2.free 2
  have y3 := hZ2.free 3
  have y4 := hZ2.free 4
  have c := hQ2.many hl
  have c1 := hQ2.first hl
  have f0 := hQ2.free 80
  have f1 := hQ2.free 81
  obtain hx' : Rs[f] = x := by rw [List.getElem?_eq_getElem (by omega)] at hx; exact Option.some.inj hx
  have s0 := hQ2.slot hl f 0 hf (by omega)
  have s1 := hQ2.slot hl f 1 hf (by omega)
  have s2 := hQ2.slot hl f 2 hf (by omega)
  have s3 := hQ2.slot hl f 3 hf (by omega)
  have s4 := hQ2.slot hl f 4 hf (by omega)
  have t0 := hQ2.free (f * 5)
  have t1 := hQ2.free (f * 5 + 1)
  have t2 := hQ2.free (f * 5 + 2)
  have t3 := hQ2.free (f * 5 + 3)
  have t4 := hQ2.free (f * 5 + 4)
  rw [hx'] at s0 s1 s2 s3 s4
  unfold gval gcells zeroG at *
  simp at z0 z1 z2 z3 z4 s0 s1 s2 s3 s4
  have k0 : (0 : Int) ≤ (f : Int) := by omega
  have k1 : (f : Int) < 16 := by omega
  have HX := Lib.hid hx
  have HQ2 := Lib.hid hQ2
  have HO2 := Lib.hid hO2
  clear hZ hB hB2 hZ2 hQ hB3 hx hx' hQ2 hO2
  go_wp2_with fail
  go_region
  go_wp2
  have hfl : f < Rs.length := by omega
  have e : (((((((queue Rs f n lost).set (f * 5) (.int .u32 0)).set (f * 5 + 1) (.int .i64 0)).set (f * 5 + 2) (.int .u32 0)).set (f * 5 + 3) (.int .i64 0)).set (f * 5 + 4) (.string ⟨#[]⟩)).set 80 (.int .i64 (((f : Int) + 1) % 16))).set 81 (.int .i64 ((n : Int) - 1)) = queue (Rs.set f zeroG) ((f + 1) % 16) (n - 1) lost := by
    have h5 := rows_set gcells 5 gcells_len Rs [.int .i64 f, .int .i64 n, .int .i64 lost] f zeroG hfl
    have h6 := queue_first (Rs.set f zeroG) f n lost (by simpa using hl) ((f + 1) % 16)
    have h7 := queue_many (Rs.set f zeroG) ((f + 1) % 16) n lost (by simpa using hl) (n - 1)
    rw [← h7, ← h6, show (((f + 1) % 16 : Nat) : Int) = ((f : Int) + 1) % 16 by omega, show ((n - 1 : Nat) : Int) = (n : Int) - 1 by omega]
    exact congrArg (fun l => List.set (List.set l 80 (Value.int .i64 (((f : Int) + 1) % 16))) 81 (Value.int .i64 ((n : Int) - 1))) h5
  refine bodyPost_ret (v := .tuple #[.agg #[.int .u32 x.fa, .int .i64 x.fp, .int .u32 x.ta, .int .i64 x.tp, .string ByteArray.empty], .int .i64 x.b.size, .bool true]) (by simp [results, Try.results24, go_sem, z0, z1, z2, z3, z4, hlz]) rfl ⟨rfl, ?_, ?_⟩
  · refine At.drew (At.alloc ?_ _)
    refine At.conv ?_ e
    iterate 5 (with_reducible refine At.far ?_ (show g ≠ w.heap.size by omega) _)
    iterate 7 (with_reducible apply At.set_)
    exact HQ2.out
  · have HO := HO2.out
    repeat' (first | with_reducible exact only_refl _ _ | with_reducible assumption | with_reducible refine only_drew ?_ | with_reducible refine only_dn ?_ _ | with_reducible refine only_alloc ?_ _ | with_reducible refine only_set ?_ (.inl rfl) _ | with_reducible refine only_set ?_ (.inr (by simp)) _ | (refine only_below ?_ (by with_reducible assumption)) | (refine only_trans ?_ (by with_reducible assumption)))
set_option maxRecDepth 100000 in
set_option maxHeartbeats 2000000 in
theorem Take_part (g : Nat) (Rs : List Gm) (f n : Nat) (lost most : Int) (x : Gm) (w : World) (hQ : QueueAt w g Rs f n lost) (hl : Rs.length = 16) (hf : f < 16) (hx : Rs[f]? = some x) (hn : 0 < n) (hn' : n ≤ 16)
    (hm1 : -9223372036854775808 ≤ most) (hm2 : most ≤ 9223372036854775807) (hb : x.b.size ≤ 9223372036854775807)
    (h : 0 < most) (h2 : most < (x.b.size : Int)) :
    Calls Try.prog 24 #[.pointer (some ⟨g, 0, none⟩), .int .i64 most] w fun e w' => e = .returned (.tuple #[gval { x with b := (x.b.extract 0 most.toNat) }, .int .i64 x.b.size, .bool true]) ∧ QueueAt w' g (Rs.set f zeroG) ((f + 1) % 16) (n - 1) lost ∧ w.grownBy w' (some g) := by
  obtain ⟨mm, rfl⟩ := Int.eq_ofNat_of_zero_le (Int.le_of_lt h)
  rw [Int.toNat_natCast]
  have hlt := hQ.lt
  go_enter Try.func24, Try.ntmps24
  go_wp2_with fail
  refine calls_gen (fun W => Below w.heap.size w W ∧ At W w.heap.size 36 (gcells zeroG)) ⟨below_ca (Below.refl _ _) _, At.new_ _ _ _⟩ ?_
  rintro W ⟨hB, hZ⟩
  refine (Peek_yes _ _ _ _ _ x _ (hQ.kept hB) hl hf hx hn hn').mono ?_
  rintro e w2 ⟨rfl, hB2⟩
  have hZ2 := hZ.kept hB2
  have hB3 := below_c hB hB2
  have hQ2 : QueueAt w2 g Rs f n lost := hQ.kept hB3
  have hO2 : w.grownBy w2 (some g) := only_below (only_refl _ _) hB3
  have hlz := hZ2.lt
  have hgw : g < w2.heap.size := by omega
  have z0 := hZ2.cell 0
  have z1 := hZ2.cell 1
  have z2 := hZ2.cell 2
  have z3 := hZ2.cell 3
  have z4 := hZ2.cell 4
  have y0 := hZ2.free 0
  have y1 := hZ2.free 1
  have y2 := hZ2.free 2
  have y3 := hZ2.free 3
  have y4 := hZ2.free 4
  have c := hQ2.many hl
  have c1 := hQ2.first hl
  have f0 := hQ2.free 80
  have f1 := hQ2.free 81
  obtain hx' : Rs[f] = x := by rw [List.getElem?_eq_getElem (by omega)] at hx; exact Option.some.inj hx
  have s0 := hQ2.slot hl f 0 hf (by omega)
  have s1 := hQ2.slot hl f 1 hf (by omega)
  have s2 := hQ2.slot hl f 2 hf (by omega)
  have s3 := hQ2.slot hl f 3 hf (by omega)
  have s4 := hQ2.slot hl f 4 hf (by omega)
  have t0 := hQ2.free (f * 5)
  have t1 := hQ2.free (f * 5 + 1)
  have t2 := hQ2.free (f * 5 + 2)
  have t3 := hQ2.free (f * 5 + 3)
  have t4 := hQ2.free (f * 5 + 4)
  rw [hx'] at s0 s1 s2 s3 s4
  unfold gval gcells zeroG at *
  simp at z0 z1 z2 z3 z4 s0 s1 s2 s3 s4
  have k0 : (0 : Int) ≤ (f : Int) := by omega
  have k1 : (f : Int) < 16 := by omega
  have HX := Lib.hid hx
  have HQ2 := Lib.hid hQ2
  have HO2 := Lib.hid hO2
  clear hZ hB hB2 hZ2 hQ hB3 hx hx' hQ2 hO2
  go_wp2_with fail
  go_region
  go_wp2
  have hfl : f < Rs.length := by omega
  have e : (((((((queue Rs f n lost).set (f * 5) (.int .u32 0)).set (f * 5 + 1) (.int .i64 0)).set (f * 5 + 2) (.int .u32 0)).set (f * 5 + 3) (.int .i64 0)).set (f * 5 + 4) (.string ⟨#[]⟩)).set 80 (.int .i64 (((f : Int) + 1) % 16))).set 81 (.int .i64 ((n : Int) - 1)) = queue (Rs.set f zeroG) ((f + 1) % 16) (n - 1) lost := by
    have h5 := rows_set gcells 5 gcells_len Rs [.int .i64 f, .int .i64 n, .int .i64 lost] f zeroG hfl
    have h6 := queue_first (Rs.set f zeroG) f n lost (by simpa using hl) ((f + 1) % 16)
    have h7 := queue_many (Rs.set f zeroG) ((f + 1) % 16) n lost (by simpa using hl) (n - 1)
    rw [← h7, ← h6, show (((f + 1) % 16 : Nat) : Int) = ((f : Int) + 1) % 16 by omega, show ((n - 1 : Nat) : Int) = (n : Int) - 1 by omega]
    exact congrArg (fun l => List.set (List.set l 80 (Value.int .i64 (((f : Int) + 1) % 16))) 81 (Value.int .i64 ((n : Int) - 1))) h5
  refine bodyPost_ret (v := .tuple #[.agg #[.int .u32 x.fa, .int .i64 x.fp, .int .u32 x.ta, .int .i64 x.tp, .string (x.b.extract 0 mm)], .int .i64 x.b.size, .bool true]) (by simp [results, Try.results24, go_sem, z0, z1, z2, z3, z4, hlz]) rfl ⟨rfl, ?_, ?_⟩
  · refine At.drew (At.alloc ?_ _)
    refine At.conv ?_ e
    iterate 5 (with_reducible refine At.far ?_ (show g ≠ w.heap.size by omega) _)
    iterate 7 (with_reducible apply At.set_)
    exact HQ2.out
  · have HO := HO2.out
    repeat' (first | with_reducible exact only_refl _ _ | with_reducible assumption | with_reducible refine only_drew ?_ | with_reducible refine only_dn ?_ _ | with_reducible refine only_alloc ?_ _ | with_reducible refine only_set ?_ (.inl rfl) _ | with_reducible refine only_set ?_ (.inr (by simp)) _ | (refine only_below ?_ (by with_reducible assumption)) | (refine only_trans ?_ (by with_reducible assumption)))
set_option maxRecDepth 100000 in
set_option maxHeartbeats 2000000 in
theorem Take_all (g : Nat) (Rs : List Gm) (f n : Nat) (lost most : Int) (x : Gm) (w : World) (hQ : QueueAt w g Rs f n lost) (hl : Rs.length = 16) (hf : f < 16) (hx : Rs[f]? = some x) (hn : 0 < n) (hn' : n ≤ 16)
    (hm1 : -9223372036854775808 ≤ most) (hm2 : most ≤ 9223372036854775807) (hb : x.b.size ≤ 9223372036854775807)
    (h : 0 < most) (h2 : (x.b.size : Int) < most) :
    Calls Try.prog 24 #[.pointer (some ⟨g, 0, none⟩), .int .i64 most] w fun e w' => e = .returned (.tuple #[gval { x with b := x.b }, .int .i64 x.b.size, .bool true]) ∧ QueueAt w' g (Rs.set f zeroG) ((f + 1) % 16) (n - 1) lost ∧ w.grownBy w' (some g) := by
  have hlt := hQ.lt
  go_enter Try.func24, Try.ntmps24
  go_wp2_with fail
  refine calls_gen (fun W => Below w.heap.size w W ∧ At W w.heap.size 36 (gcells zeroG)) ⟨below_ca (Below.refl _ _) _, At.new_ _ _ _⟩ ?_
  rintro W ⟨hB, hZ⟩
  refine (Peek_yes _ _ _ _ _ x _ (hQ.kept hB) hl hf hx hn hn').mono ?_
  rintro e w2 ⟨rfl, hB2⟩
  have hZ2 := hZ.kept hB2
  have hB3 := below_c hB hB2
  have hQ2 : QueueAt w2 g Rs f n lost := hQ.kept hB3
  have hO2 : w.grownBy w2 (some g) := only_below (only_refl _ _) hB3
  have hlz := hZ2.lt
  have hgw : g < w2.heap.size := by omega
  have z0 := hZ2.cell 0
  have z1 := hZ2.cell 1
  have z2 := hZ2.cell 2
  have z3 := hZ2.cell 3
  have z4 := hZ2.cell 4
  have y0 := hZ2.free 0
  have y1 := hZ2.free 1
  have y2 := hZ2.free 2
  have y3 := hZ2.free 3
  have y4 := hZ2.free 4
  have c := hQ2.many hl
  have c1 := hQ2.first hl
  have f0 := hQ2.free 80
  have f1 := hQ2.free 81
  obtain hx' : Rs[f] = x := by rw [List.getElem?_eq_getElem (by omega)] at hx; exact Option.some.inj hx
  have s0 := hQ2.slot hl f 0 hf (by omega)
  have s1 := hQ2.slot hl f 1 hf (by omega)
  have s2 := hQ2.slot hl f 2 hf (by omega)
  have s3 := hQ2.slot hl f 3 hf (by omega)
  have s4 := hQ2.slot hl f 4 hf (by omega)
  have t0 := hQ2.free (f * 5)
  have t1 := hQ2.free (f * 5 + 1)
  have t2 := hQ2.free (f * 5 + 2)
  have t3 := hQ2.free (f * 5 + 3)
  have t4 := hQ2.free (f * 5 + 4)
  rw [hx'] at s0 s1 s2 s3 s4
  unfold gval gcells zeroG at *
  simp at z0 z1 z2 z3 z4 s0 s1 s2 s3 s4
  have k0 : (0 : Int) ≤ (f : Int) := by omega
  have k1 : (f : Int) < 16 := by omega
  have HX := Lib.hid hx
  have HQ2 := Lib.hid hQ2
  have HO2 := Lib.hid hO2
  clear hZ hB hB2 hZ2 hQ hB3 hx hx' hQ2 hO2
  go_wp2_with fail
  go_region
  go_wp2
  have hfl : f < Rs.length := by omega
  have e : (((((((queue Rs f n lost).set (f * 5) (.int .u32 0)).set (f * 5 + 1) (.int .i64 0)).set (f * 5 + 2) (.int .u32 0)).set (f * 5 + 3) (.int .i64 0)).set (f * 5 + 4) (.string ⟨#[]⟩)).set 80 (.int .i64 (((f : Int) + 1) % 16))).set 81 (.int .i64 ((n : Int) - 1)) = queue (Rs.set f zeroG) ((f + 1) % 16) (n - 1) lost := by
    have h5 := rows_set gcells 5 gcells_len Rs [.int .i64 f, .int .i64 n, .int .i64 lost] f zeroG hfl
    have h6 := queue_first (Rs.set f zeroG) f n lost (by simpa using hl) ((f + 1) % 16)
    have h7 := queue_many (Rs.set f zeroG) ((f + 1) % 16) n lost (by simpa using hl) (n - 1)
    rw [← h7, ← h6, show (((f + 1) % 16 : Nat) : Int) = ((f : Int) + 1) % 16 by omega, show ((n - 1 : Nat) : Int) = (n : Int) - 1 by omega]
    exact congrArg (fun l => List.set (List.set l 80 (Value.int .i64 (((f : Int) + 1) % 16))) 81 (Value.int .i64 ((n : Int) - 1))) h5
  refine bodyPost_ret (v := .tuple #[.agg #[.int .u32 x.fa, .int .i64 x.fp, .int .u32 x.ta, .int .i64 x.tp, .string x.b], .int .i64 x.b.size, .bool true]) (by simp [results, Try.results24, go_sem, z0, z1, z2, z3, z4, hlz]) rfl ⟨rfl, ?_, ?_⟩
  · refine At.drew (At.alloc ?_ _)
    refine At.conv ?_ e
    iterate 5 (with_reducible refine At.far ?_ (show g ≠ w.heap.size by omega) _)
    iterate 7 (with_reducible apply At.set_)
    exact HQ2.out
  · have HO := HO2.out
    repeat' (first | with_reducible exact only_refl _ _ | with_reducible assumption | with_reducible refine only_drew ?_ | with_reducible refine only_dn ?_ _ | with_reducible refine only_alloc ?_ _ | with_reducible refine only_set ?_ (.inl rfl) _ | with_reducible refine only_set ?_ (.inr (by simp)) _ | (refine only_below ?_ (by with_reducible assumption)) | (refine only_trans ?_ (by with_reducible assumption)))
set_option maxRecDepth 100000 in
set_option maxHeartbeats 2000000 in
theorem Take_same (g : Nat) (Rs : List Gm) (f n : Nat) (lost most : Int) (x : Gm) (w : World) (hQ : QueueAt w g Rs f n lost) (hl : Rs.length = 16) (hf : f < 16) (hx : Rs[f]? = some x) (hn : 0 < n) (hn' : n ≤ 16)
    (hm1 : -9223372036854775808 ≤ most) (hm2 : most ≤ 9223372036854775807) (hb : x.b.size ≤ 9223372036854775807)
    (h : 0 < most) (h2 : most = (x.b.size : Int)) :
    Calls Try.prog 24 #[.pointer (some ⟨g, 0, none⟩), .int .i64 most] w fun e w' => e = .returned (.tuple #[gval { x with b := x.b }, .int .i64 x.b.size, .bool true]) ∧ QueueAt w' g (Rs.set f zeroG) ((f + 1) % 16) (n - 1) lost ∧ w.grownBy w' (some g) := by
  subst h2
  have hlt := hQ.lt
  go_enter Try.func24, Try.ntmps24
  go_wp2_with fail
  refine calls_gen (fun W => Below w.heap.size w W ∧ At W w.heap.size 36 (gcells zeroG)) ⟨below_ca (Below.refl _ _) _, At.new_ _ _ _⟩ ?_
  rintro W ⟨hB, hZ⟩
  refine (Peek_yes _ _ _ _ _ x _ (hQ.kept hB) hl hf hx hn hn').mono ?_
  rintro e w2 ⟨rfl, hB2⟩
  have hZ2 := hZ.kept hB2
  have hB3 := below_c hB hB2
  have hQ2 : QueueAt w2 g Rs f n lost := hQ.kept hB3
  have hO2 : w.grownBy w2 (some g) := only_below (only_refl _ _) hB3
  have hlz := hZ2.lt
  have hgw : g < w2.heap.size := by omega
  have z0 := hZ2.cell 0
  have z1 := hZ2.cell 1
  have z2 := hZ2.cell 2
  have z3 := hZ2.cell 3
  have z4 := hZ2.cell 4
  have y0 := hZ2.free 0
  have y1 := hZ2.free 1
  have y2 := hZ2.free 2
  have y3 := hZ2.free 3
  have y4 := hZ2.free 4
  have c := hQ2.many hl
  have c1 := hQ2.first hl
  have f0 := hQ2.free 80
  have f1 := hQ2.free 81
  obtain hx' : Rs[f] = x := by rw [List.getElem?_eq_getElem (by omega)] at hx; exact Option.some.inj hx
  have s0 := hQ2.slot hl f 0 hf (by omega)
  have s1 := hQ2.slot hl f 1 hf (by omega)
  have s2 := hQ2.slot hl f 2 hf (by omega)
  have s3 := hQ2.slot hl f 3 hf (by omega)
  have s4 := hQ2.slot hl f 4 hf (by omega)
  have t0 := hQ2.free (f * 5)
  have t1 := hQ2.free (f * 5 + 1)
  have t2 := hQ2.free (f * 5 + 2)
  have t3 := hQ2.free (f * 5 + 3)
  have t4 := hQ2.free (f * 5 + 4)
  rw [hx'] at s0 s1 s2 s3 s4
  unfold gval gcells zeroG at *
  simp at z0 z1 z2 z3 z4 s0 s1 s2 s3 s4
  have k0 : (0 : Int) ≤ (f : Int) := by omega
  have k1 : (f : Int) < 16 := by omega
  have HX := Lib.hid hx
  have HQ2 := Lib.hid hQ2
  have HO2 := Lib.hid hO2
  clear hZ hB hB2 hZ2 hQ hB3 hx hx' hQ2 hO2
  go_wp2_with fail
  go_region
  go_wp2
  have hfl : f < Rs.length := by omega
  have e : (((((((queue Rs f n lost).set (f * 5) (.int .u32 0)).set (f * 5 + 1) (.int .i64 0)).set (f * 5 + 2) (.int .u32 0)).set (f * 5 + 3) (.int .i64 0)).set (f * 5 + 4) (.string ⟨#[]⟩)).set 80 (.int .i64 (((f : Int) + 1) % 16))).set 81 (.int .i64 ((n : Int) - 1)) = queue (Rs.set f zeroG) ((f + 1) % 16) (n - 1) lost := by
    have h5 := rows_set gcells 5 gcells_len Rs [.int .i64 f, .int .i64 n, .int .i64 lost] f zeroG hfl
    have h6 := queue_first (Rs.set f zeroG) f n lost (by simpa using hl) ((f + 1) % 16)
    have h7 := queue_many (Rs.set f zeroG) ((f + 1) % 16) n lost (by simpa using hl) (n - 1)
    rw [← h7, ← h6, show (((f + 1) % 16 : Nat) : Int) = ((f : Int) + 1) % 16 by omega, show ((n - 1 : Nat) : Int) = (n : Int) - 1 by omega]
    exact congrArg (fun l => List.set (List.set l 80 (Value.int .i64 (((f : Int) + 1) % 16))) 81 (Value.int .i64 ((n : Int) - 1))) h5
  refine bodyPost_ret (v := .tuple #[.agg #[.int .u32 x.fa, .int .i64 x.fp, .int .u32 x.ta, .int .i64 x.tp, .string x.b], .int .i64 x.b.size, .bool true]) (by simp [results, Try.results24, go_sem, z0, z1, z2, z3, z4, hlz]) rfl ⟨rfl, ?_, ?_⟩
  · refine At.drew (At.alloc ?_ _)
    refine At.conv ?_ e
    iterate 5 (with_reducible refine At.far ?_ (show g ≠ w.heap.size by omega) _)
    iterate 7 (with_reducible apply At.set_)
    exact HQ2.out
  · have HO := HO2.out
    repeat' (first | with_reducible exact only_refl _ _ | with_reducible assumption | with_reducible refine only_drew ?_ | with_reducible refine only_dn ?_ _ | with_reducible refine only_alloc ?_ _ | with_reducible refine only_set ?_ (.inl rfl) _ | with_reducible refine only_set ?_ (.inr (by simp)) _ | (refine only_below ?_ (by with_reducible assumption)) | (refine only_trans ?_ (by with_reducible assumption)))
theorem Take_yes (g : Nat) (Rs : List Gm) (f n : Nat) (lost most : Int) (x : Gm) (w : World) (hQ : QueueAt w g Rs f n lost) (hl : Rs.length = 16) (hf : f < 16) (hx : Rs[f]? = some x) (hn : 0 < n) (hn' : n ≤ 16)
    (hm1 : -9223372036854775808 ≤ most) (hm2 : most ≤ 9223372036854775807) (hb : x.b.size ≤ 9223372036854775807) :
    Calls Try.prog 24 #[.pointer (some ⟨g, 0, none⟩), .int .i64 most] w fun e w' => e = .returned (.tuple #[gval (cutG x most), .int .i64 x.b.size, .bool true]) ∧ QueueAt w' g (Rs.set f zeroG) ((f + 1) % 16) (n - 1) lost ∧ w.grownBy w' (some g) := by
  by_cases h : most < 0
  · have e : cutG x most = { x with b := ByteArray.empty } := by
      unfold cutG; rw [if_neg (show ¬ 0 < most by omega)]
      split
      · rw [show (0 : Int).toNat = 0 from rfl, extract_zero]
      · rw [show ((x.b.size : Int)).toNat = 0 by omega, extract_zero]
    rw [e]; exact Take_neg g Rs f n lost most x w hQ hl hf hx hn hn' hm1 hm2 hb h
  · by_cases h0 : most = 0
    · have e : cutG x most = { x with b := ByteArray.empty } := by
        unfold cutG; rw [if_neg (show ¬ 0 < most by omega)]
        split
        · rw [show (0 : Int).toNat = 0 from rfl, extract_zero]
        · rw [show ((x.b.size : Int)).toNat = 0 by omega, extract_zero]
      rw [e]; exact Take_zero g Rs f n lost most x w hQ hl hf hx hn hn' hm1 hm2 hb h0
    · by_cases h2 : most < (x.b.size : Int)
      · have e : cutG x most = { x with b := x.b.extract 0 most.toNat } := by
          unfold cutG; rw [if_pos (show 0 < most by omega), if_pos h2]
        rw [e]; exact Take_part g Rs f n lost most x w hQ hl hf hx hn hn' hm1 hm2 hb (by omega) h2
      · have e : cutG x most = { x with b := x.b } := by
          unfold cutG; rw [if_pos (show 0 < most by omega), if_neg h2, Int.toNat_natCast, extract_all]
        rw [e]
        by_cases h3 : most = (x.b.size : Int)
        · exact Take_same g Rs f n lost most x w hQ hl hf hx hn hn' hm1 hm2 hb (by omega) h3
        · exact Take_all g Rs f n lost most x w hQ hl hf hx hn hn' hm1 hm2 hb (by omega) (by omega)
end Go.Proofs.Ytgdfjkdcdfmifaa
