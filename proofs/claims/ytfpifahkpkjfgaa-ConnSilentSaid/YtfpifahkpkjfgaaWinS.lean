/- A string's bytes appended to a slice of one's own, wherever it lies in its block. -/
import Derived.Test.YtfpifahkpkjfgaaByteS
import Derived.Lib.AppendStr
namespace Go.Proofs.Ytfpifahkpkjfgaa
open Go.RowKit Go.Lib
set_option linter.unusedVariables false

theorem run_append_win_str {P : Program} (w : World) (base : Nat) (t u ty e : TypeId) (i : TypeInfo) (ht : P.underlying t = some (.slice e)) (hu : P.underlying u = some .string) (hi : P.info? e = some i) (hz : i.zero = some (.int .u8 0))
    (hsize : i.size = 1) (hby : i.bytes = 1) (v : Value) (n : Nat) (xs : List Value) (hown : Win w base 1 v n xs) (s : ByteArray)
    (h63 : n + s.size ≤ maxLen) (hbytes : n + s.size ≤ 140737488355328) (hbase : base ≤ w.heap.size) :
    ∃ v' w', (Builtin.append_ #[t, u] ty #[v, .string s]).run P w = .ok v' w' ∧ Win w' base 1 v' (n + s.size) (xs ++ strCells s) ∧ w.grownBy w' v.ownBlock ∧ (v'.ownBlock = v.ownBlock ∨ ∃ k, v'.ownBlock = some k ∧ w.heap.size ≤ k) := by
  rcases hown.2 with ⟨rfl, rfl⟩ | ⟨g, off, cap, rfl, hW⟩
  · have hx : xs = [] := List.eq_nil_of_length_eq_zero (by simpa using hown.1)
    subst hx
    obtain ⟨v', w', hr, h2, h3, h4⟩ := run_append_own_string (P := P) w w.heap.size t u ty e i ht hu hi hz hsize hby (.slice none 0 0) 0 [] (World.ownsRow_nil _ _ _ _) s h63 hbytes (Nat.le_refl _)
    have hw := Win.of_owns h2
    refine ⟨v', w', hr, hw.low hbase, h3, ?_⟩
    rcases hw.2 with ⟨hv, _⟩ | ⟨g, off, cap, hv, hW⟩
    · left; rw [hv]
    · right; exact ⟨g, by rw [hv]; rfl, hW.ge⟩
  · have hl : (strCells s).length = s.size := strCells_length s
    have hxl : xs.length = n := by simpa using hown.1
    have hlen : (xs ++ strCells s).length = (n + s.size) * 1 := by rw [List.length_append, hxl, hl, Nat.mul_one]
    by_cases hroom : n + s.size ≤ cap
    · have hsp : ∀ j, j < (strCells s).length → j < (cap - n) * 1 := fun j hj => by omega
      have hfc := run_firstCells_string (P := P) w 1 s
      have hst := run_storeCells_cells (P := P) g (off + n * 1) (strCells s) 0 w (fun j hj => by simpa using (hW.spare j (hsp j hj)).1) (fun j hj => by simpa using (hW.spare j (hsp j hj)).2) (strCells_oneCell s)
      simp only [Nat.add_zero, Nat.mul_one] at hst
      have hr : (Builtin.append_ #[t, u] ty #[.slice (some ⟨g, off, none⟩) n cap, .string s]).run P w = .ok (.slice (some ⟨g, off, none⟩) (n + s.size) cap) (w.setCells g (off + n) (strCells s)) := by
        simp [Builtin.append_, run_underlying ht, run_underlying hu, sizeOf, typeInfo, hi, hsize, Builtin.lenOf, hroom, hfc, Addr.add_lit, hst]
      have hg := setCells_grownBy g (strCells s) (off + n) w
      refine ⟨_, _, hr, ⟨hlen, .inr ⟨g, off, cap, rfl, hW.ge, Nat.lt_of_lt_of_le hW.lt hg.size, hroom, hW.mx, fun j u hj => ?_, fun j hj => ?_, fun j hj => ?_⟩⟩, hg, .inl rfl⟩
      · by_cases hlt : j < xs.length
        · rw [List.getElem?_append_left hlt] at hj
          rw [World.cell?_setCells_out g _ _ w _ (fun _ _ => .inl (by show off + j < _; omega))]
          exact hW.here j u hj
        · rw [List.getElem?_append_right (by omega)] at hj
          have hj' : j - xs.length < (strCells s).length := (List.getElem?_eq_some_iff.1 hj).1
          have := World.cell?_setCells_in g (strCells s) (off + n) w (fun j hj => by simpa using (hW.spare j (hsp j hj)).1) (j - xs.length) hj'
          rw [show off + n + (j - xs.length) = off + j by omega] at this
          rw [this, ← hj, List.getElem?_eq_getElem hj']
      · have e1 : off + (n + s.size) * 1 + j = off + n * 1 + (s.size + j) := by omega
        have e2 : s.size + j < (cap - n) * 1 := by omega
        rw [e1]
        refine ⟨?_, by rw [World.frozen?_setCells]; exact (hW.spare _ e2).2⟩
        rw [World.cell?_setCells_out g _ _ w _ (fun _ _ => .inr (by show _ ≤ off + n * 1 + (s.size + j); omega))]
        exact (hW.spare _ e2).1
      · rw [World.frozen?_setCells]
        by_cases hlt : j < n * 1
        · exact hW.soft j hlt
        · have := (hW.spare (j - n * 1) (by omega)).2
          rwa [show off + n * 1 + (j - n * 1) = off + j by omega] at this
    · have hsmall : n + s.size ≤ 9223372036854775807 := by simp only [maxLen] at h63; omega
      have holds : ∀ j u, xs[j]? = some u → w.cell? ((⟨g, off, none⟩ : Addr).add j) = some u := fun j u hj => by
        rw [Addr.add_mid]; exact hW.here j u hj
      have hr := run_append_grow_string (P := P) w t u ty e i (.int .u8 0) ht hu hi hz ⟨g, off, none⟩ n cap xs (by rw [hsize]; simpa using hxl) holds s (by omega) (by omega) (by rw [hby]; exact growslice_fits (by omega) (by omega))
      have hge := grownCap_ge w (n + s.size) cap e
      have hcm : grownCap w (n + s.size) cap e ≤ maxLen := grownCap_le_maxLen w (n + s.size) cap e h63
      refine ⟨_, _, hr, Win.of_owns (e := e) ⟨hlen, .inr ⟨w.heap.size, _, _, rfl, hbase, heap_alloc_new w.drew _, hge, hcm, ?_, ?_⟩⟩, ⟨rfl, rfl, rfl, by simp, fun k hk _ => (Below.heap_alloc w.drew _ k hk)⟩, .inr ⟨_, rfl, Nat.le_refl _⟩⟩
      · have hz1 : (Value.int IntKind.u8 0).cells.size = 1 := rfl
        simp only [Array.size_append, List.size_toArray, size_zeroCells, hz1, hxl, strCells_length]
        omega
      · simp only [Array.toList_append, List.append_assoc]
        rw [← List.append_assoc, ← hlen]
        exact List.take_left
/-- a text's bytes as numbers -/
def sI (s : ByteArray) : List Int := s.data.toList.map fun b => (b.toNat : Int)
theorem sI_len (s : ByteArray) : (sI s).length = s.size := by simp [sI]
theorem sI_cells (s : ByteArray) : (sI s).map b8 = strCells s := by
  unfold sI strCells
  rw [List.map_map]
  refine List.map_congr_left fun b _ => ?_
  show b8 (b.toNat : Int) = _
  have := b.toNat_lt
  unfold b8
  rw [Int.emod_eq_of_lt (by omega) (by omega)]
theorem sI_byteL (s : ByteArray) : byteL (sI s) = s.data.toList := by
  unfold byteL sI
  rw [List.map_map]
  conv => rhs; rw [← List.map_id s.data.toList]
  refine List.map_congr_left fun b _ => ?_
  show UInt8.ofNat ((b.toNat : Int) % 256).toNat = b
  have := b.toNat_lt
  rw [show ((b.toNat : Int) % 256).toNat = b.toNat by omega]
  exact UInt8.ofNat_toNat
theorem elemz_of {P : Program} {e : TypeId} {size bytes : Nat} {z : Value} (h : (P.info? e).map (fun i => (i.zero, i.size, i.bytes)) = some (some z, size, bytes)) : ∃ i, P.info? e = some i ∧ i.zero = some z ∧ i.size = size ∧ i.bytes = bytes := by
  cases hi : P.info? e with
  | none => rw [hi] at h; cases h
  | some i =>
    rw [hi] at h
    simp only [Option.map_some, Option.some.injEq, Prod.mk.injEq] at h
    exact ⟨i, rfl, h.1, h.2.1, h.2.2⟩
theorem elem_u8s : ∃ i, Try.prog.info? 5 = some i ∧ i.zero = some (.int .u8 0) ∧ i.size = 1 ∧ i.bytes = 1 := elemz_of (by kernel_rfl)
/-- At the operation. -/
theorem wpList_append_str {w : World} {ops : Array Oper} {rest : List Oper} {o : Oper} {a : Act} {Q : Exit → Act → World → Prop} (hgd : o.guard = none) (s x : Operand)
    (ho : o.op = .call { callee := .builtin .append, args := #[s, x], argTypes := #[104, 9] })
    (base : Nat) (v : Value) (l : List Int) (hs : a.eval s = v) (hown : OwnB w base v l) (t : ByteArray) (hx : a.eval x = .string t)
    (hb : l.length + t.size ≤ 140737488350000) (hbase : base ≤ w.heap.size)
    (h : ∀ v' w', OwnB w' base v' (l ++ sI t) → w.grownBy w' v.ownBlock → (v'.ownBlock = v.ownBlock ∨ ∃ k, v'.ownBlock = some k ∧ w.heap.size ≤ k) → wpList Try.prog ops Q rest (a.put o.dst v') w') :
    wpList Try.prog ops Q (o :: rest) a w := by
  refine wpList_plain hgd fun K hK => ?_
  obtain ⟨i, h1, h2, h3, h4⟩ := elem_u8s
  obtain ⟨v', w', hr, k2, k3, k4⟩ := run_append_win_str (P := Try.prog) w base 104 9 o.type 5 i Try.underlying104 Try.underlying9 h1 h2 h3 h4 v l.length (l.map b8) hown t (by simp only [maxLen]; omega) (by omega) hbase
  unfold Oper.wp execOp
  simp only [ho, resolve, invoke, builtin, Sem.run_bind, Sem.run_pure, Result.andThen_ok, List.map_toArray, List.map_cons, List.map_nil, hs, hx, hr]
  refine hK _ _ (h v' w' ?_ k3 k4)
  unfold OwnB
  rw [List.length_append, List.map_append, sI_len, sI_cells]
  exact k2
end Go.Proofs.Ytfpifahkpkjfgaa
