/- A slice of the walk's own, grown by append and cut at its head: WHERE it lies in its block is of no matter. -/
import Derived.Test.YtamckbjckgpniaaDoorRest
import Derived.ArgAppend
import Derived.Maps.AppendAt
import Derived.Deep.MidRow
import Derived.Deep.Upon
namespace Go.Proofs.YtamckbjckgpniaaDoor
open Go.RowKit
set_option linter.unusedVariables false

/-- n elements of 'size' cells, the cells cs, lie in block g from off on; what is behind them up to cap may be written -/
structure WinAt (w : World) (base size g off cap n : Nat) (cs : List Value) : Prop where
  ge : base ≤ g
  lt : g < w.heap.size
  le : n ≤ cap
  mx : cap ≤ maxLen
  here : w.rangeAt g off cs
  spare : ∀ j, j < (cap - n) * size → (w.cell? ⟨g, off + n * size + j, none⟩).isSome = true ∧ w.frozen? ⟨g, off + n * size + j, none⟩ = false
  soft : ∀ j, j < n * size → w.frozen? ⟨g, off + j, none⟩ = false
def Win (w : World) (base size : Nat) (v : Value) (n : Nat) (cs : List Value) : Prop :=
  cs.length = n * size ∧ ((v = .slice none 0 0 ∧ n = 0) ∨ ∃ g off cap, v = .slice (some ⟨g, off, none⟩) n cap ∧ WinAt w base size g off cap n cs)
section
variable {w w' : World} {base size : Nat} {e : TypeId} {v : Value} {n : Nat} {cs : List Value}
theorem Win.nil (w : World) (base size : Nat) : Win w base size (.slice none 0 0) 0 [] := ⟨by simp, .inl ⟨rfl, rfl⟩⟩
theorem Win.form (h : Win w base size v n cs) : ∃ a cap, v = .slice a n cap := by
  rcases h.2 with ⟨rfl, rfl⟩ | ⟨g, off, cap, rfl, _⟩
  · exact ⟨_, _, rfl⟩
  · exact ⟨_, _, rfl⟩
theorem Win.pos (h : Win w base size v n cs) (hn : 0 < n) : ∃ g off cap, v = .slice (some ⟨g, off, none⟩) n cap ∧ WinAt w base size g off cap n cs := by
  rcases h.2 with ⟨_, h0⟩ | h1
  · omega
  · exact h1
theorem WinAt.move {g off cap : Nat} (h : WinAt w base size g off cap n cs) (hs : g < w'.heap.size) (hb : w'.heap[g]? = w.heap[g]?) : WinAt w' base size g off cap n cs :=
  ⟨h.ge, hs, h.le, h.mx, fun j u hj => (World.cell?_of_block hb).trans (h.here j u hj), fun j hj => ⟨by rw [World.cell?_of_block hb]; exact (h.spare j hj).1, by rw [World.frozen?_of_block hb]; exact (h.spare j hj).2⟩, fun j hj => by rw [World.frozen?_of_block hb]; exact h.soft j hj⟩
theorem Win.grown {row : Option Nat} (h : Win w base size v n cs) (hg : w.grownBy w' row) (hne : ∀ g, v.ownBlock = some g → row ≠ some g) : Win w' base size v n cs := by
  refine ⟨h.1, ?_⟩
  rcases h.2 with h0 | ⟨g, off, cap, rfl, hW⟩
  · exact .inl h0
  · exact .inr ⟨g, off, cap, rfl, hW.move (Nat.lt_of_lt_of_le hW.lt hg.size) (hg.block g hW.lt (fun e => hne g rfl e.symm))⟩
theorem Win.kept (h : Win w base size v n cs) (hb : Below w.heap.size w w') : Win w' base size v n cs := by
  refine ⟨h.1, ?_⟩
  rcases h.2 with h0 | ⟨g, off, cap, rfl, hW⟩
  · exact .inl h0
  · exact .inr ⟨g, off, cap, rfl, hW.move (Nat.lt_of_lt_of_le hW.lt hb.size) (hb.block g hW.lt)⟩
theorem Win.lt (h : Win w base size v n cs) : ∀ g, v.ownBlock = some g → base ≤ g ∧ g < w.heap.size := by
  rcases h.2 with ⟨rfl, _⟩ | ⟨g, off, cap, rfl, hW⟩
  · simp [Value.ownBlock]
  · intro k hk
    simp [Value.ownBlock] at hk
    subst hk
    exact ⟨hW.ge, hW.lt⟩
theorem Win.of_owns (h : w.ownsRow base e size v n cs) : Win w base size v n cs := by
  refine ⟨h.1, ?_⟩
  rcases h.2 with h0 | ⟨g, cap, cur, rfl, hb, hg, hn, hm, hs, ht⟩
  · exact .inl h0
  · refine .inr ⟨g, 0, cap, rfl, hb, (Array.getElem?_eq_some_iff.1 hg).1, hn, hm, fun j u hj => ?_, fun j hj => ?_, fun j hj => ?_⟩
    · rw [Nat.zero_add, cell_of_row w g j cur e (0, 0) hg]
      rw [← ht, List.getElem?_take] at hj
      split at hj
      · simpa using hj
      · cases hj
    · have hlt : n * size + j < cur.size := by rw [hs]; rw [Nat.sub_mul] at hj; have := Nat.mul_le_mul_right size hn; omega
      exact ⟨by rw [cell_of_row w g _ cur e (0, 0) hg, Nat.zero_add, Array.getElem?_eq_getElem hlt]; rfl, by simp [World.frozen?, hg]⟩
    · simp [World.frozen?, hg]
/-- the same, further on -/
theorem Win.low {b' : Nat} (h : Win w base size v n cs) (hb : b' ≤ base) : Win w b' size v n cs := by
  refine ⟨h.1, ?_⟩
  rcases h.2 with h0 | ⟨g, off, cap, rfl, hW⟩
  · exact .inl h0
  · exact .inr ⟨g, off, cap, rfl, Nat.le_trans hb hW.ge, hW.lt, hW.le, hW.mx, hW.here, hW.spare, hW.soft⟩
theorem Win.alloc (h : Win w base size v n cs) (o : Obj) : Win (w.alloc o) base size v n cs := h.kept (below_ca (Below.refl _ _) o)
/-- cut at its head -/
theorem WinAt.tail {g off cap : Nat} {x l : List Value} (h : WinAt w base size g off cap n (x ++ l)) (hx : x.length = size) (hn : 0 < n) : WinAt w base size g (off + size) (cap - 1) (n - 1) l := by
  refine ⟨h.ge, h.lt, by have := h.le; omega, by have := h.mx; omega, fun j u hj => ?_, fun j hj => ?_, fun j hj => ?_⟩
  · have := h.here (size + j) u (by rw [List.getElem?_append_right (by omega), hx]; simpa using hj)
    rwa [← Nat.add_assoc] at this
  · have e : off + size + (n - 1) * size + j = off + n * size + j := by
      obtain ⟨m, rfl⟩ : ∃ m, n = m + 1 := ⟨n - 1, by omega⟩
      rw [Nat.add_sub_cancel, Nat.add_mul]; omega
    rw [e]
    exact h.spare j (by have : cap - 1 - (n - 1) = cap - n := by omega
                        rwa [this] at hj)
  · rw [Nat.add_assoc]
    refine h.soft (size + j) ?_
    obtain ⟨m, rfl⟩ : ∃ m, n = m + 1 := ⟨n - 1, by omega⟩
    rw [Nat.add_sub_cancel] at hj
    rw [Nat.add_mul]; omega
theorem WinAt.cut {g off cap : Nat} {x l : List Value} (h : WinAt w base size g off cap (n + 1) (x ++ l)) (hx : x.length = size) (hl : l.length = n * size) :
    Win w base size (.slice (if cap = 1 then some ⟨g, off, none⟩ else some ⟨g, off + size, none⟩) n (cap - 1)) n l := by
  refine ⟨hl, .inr ?_⟩
  by_cases hc : cap = 1
  · have h0 : n = 0 := by have := h.le; omega
    subst h0
    rw [if_pos hc]
    have : l = [] := List.eq_nil_of_length_eq_zero (by simpa using hl)
    subst this
    refine ⟨g, off, cap - 1, rfl, h.ge, h.lt, by omega, by have := h.mx; omega, fun j u hj => by simp at hj, fun j hj => ?_, fun j hj => by simp at hj⟩
    rw [hc] at hj; simp at hj
  · rw [if_neg hc]
    exact ⟨g, off + size, cap - 1, rfl, h.tail hx (by omega)⟩
/-- its first element -/
theorem WinAt.head {g off cap : Nat} {x l : List Value} (h : WinAt w base size g off cap n (x ++ l)) : w.rangeAt g off x := fun j u hj => h.here j u (by rw [List.getElem?_append_left (List.getElem?_eq_some_iff.1 hj).1]; exact hj)
end

theorem elem_of {P : Program} {e : TypeId} {size bytes : Nat} (h : (P.info? e).map (fun i => (i.size, i.bytes, i.zero.map (·.cells.size))) = some (size, bytes, some size)) :
    ∃ i z, P.info? e = some i ∧ i.zero = some z ∧ i.size = size ∧ i.bytes = bytes ∧ z.cells.size = size := by
  cases hi : P.info? e with
  | none => rw [hi] at h; cases h
  | some i =>
    rw [hi] at h
    simp at h
    obtain ⟨h1, h2, z, hz, h3⟩ := h
    exact ⟨i, z, rfl, hz, h1, h2, h3⟩
theorem At.news {w : World} {g : Nat} {t : TypeId} {cs : List Value} (h : At w g t cs) : ∀ j u, cs[j]? = some u → w.cell? ((⟨g, 0, none⟩ : Addr).add j) = some u := by
  intro j u hj
  have hadd : (⟨g, 0, none⟩ : Addr).add j = ⟨g, j, none⟩ := by unfold Addr.add; split <;> simp_all
  rw [hadd, h.cell, hj]
theorem setCells_grownBy (g : Nat) : ∀ (vs : List Value) (o : Nat) (w : World), w.grownBy (w.setCells g o vs) (some g)
  | [], _, w => World.grownBy.refl _ _
  | v :: r, o, w => only_trans (only_set (only_refl w _) (.inl rfl) v) (setCells_grownBy g r (o + 1) _)

theorem run_append_win {P : Program} (w : World) (base : Nat) (t ty e : TypeId) (i : TypeInfo) (z : Value) (size bytes : Nat) (ht : P.underlying t = some (.slice e)) (hi : P.info? e = some i) (hz : i.zero = some z)
    (hsize : i.size = size) (hby : i.bytes = bytes) (hzs : z.cells.size = size) (hsz : 0 < size)
    (v : Value) (n : Nat) (xs : List Value) (hown : Win w base size v n xs)
    (a : Addr) (m c : Nat) (news : List Value) (hl : news.length = m * size) (hnews : ∀ j u, news[j]? = some u → w.cell? (a.add j) = some u) (h1 : ∀ u ∈ news, u.oneCell' = true)
    (hm : 0 < m) (h63 : n + m ≤ maxLen) (hbytes : (n + m) * bytes ≤ 140737488355328) (hbase : base ≤ w.heap.size) :
    ∃ v' w', (Builtin.append_ #[t, t] ty #[v, .slice (some a) m c]).run P w = .ok v' w' ∧ Win w' base size v' (n + m) (xs ++ news) ∧ w.grownBy w' v.ownBlock ∧ (v'.ownBlock = v.ownBlock ∨ ∃ k, v'.ownBlock = some k ∧ w.heap.size ≤ k) := by
  rcases hown.2 with ⟨rfl, rfl⟩ | ⟨g, off, cap, rfl, hW⟩
  · have hx : xs = [] := List.eq_nil_of_length_eq_zero (by simpa using hown.1)
    subst hx
    obtain ⟨v', w', hr, h2, h3, h4, h5⟩ := run_append_own_at (P := P) w base t ty e i z size bytes ht hi hz hsize hby hzs hsz (.slice none 0 0) 0 [] (World.ownsRow_nil _ _ _ _) a m c news hl hnews h1 h63 hbytes hbase
    exact ⟨v', w', hr, Win.of_owns h2, h3, h5.imp id fun h => ⟨_, h, Nat.le_refl _⟩⟩
  · by_cases hroom : n + m ≤ cap
    · have hsp : ∀ j, j < news.length → j < (cap - n) * size := fun j hj => by
        have : m * size ≤ (cap - n) * size := Nat.mul_le_mul_right _ (by omega)
        omega
      have hr := run_append_room_cells (P := P) w t ty e i ht hi g off n cap a m c news (by rw [hsize]; exact hl) hnews h1 hroom
        (fun j hj => by rw [hsize]; exact (hW.spare j (hsp j hj)).1) (fun j hj => by rw [hsize]; exact (hW.spare j (hsp j hj)).2)
      rw [hsize] at hr
      have hg := setCells_grownBy g news (off + n * size) w
      have hlen : (xs ++ news).length = (n + m) * size := by rw [List.length_append, hown.1, hl, Nat.add_mul]
      refine ⟨_, _, hr, ⟨hlen, .inr ⟨g, off, cap, rfl, hW.ge, Nat.lt_of_lt_of_le hW.lt hg.size, hroom, hW.mx, fun j u hj => ?_, fun j hj => ?_, fun j hj => ?_⟩⟩, hg, .inl rfl⟩
      · by_cases hlt : j < xs.length
        · rw [List.getElem?_append_left hlt] at hj
          rw [World.cell?_setCells_out g news _ w _ (fun _ _ => .inl (by have := hown.1; show off + j < _; omega))]
          exact hW.here j u hj
        · rw [List.getElem?_append_right (by omega)] at hj
          have hj' : j - xs.length < news.length := (List.getElem?_eq_some_iff.1 hj).1
          have := World.cell?_setCells_in g news (off + n * size) w (fun j hj => (hW.spare j (hsp j hj)).1) (j - xs.length) hj'
          rw [show off + n * size + (j - xs.length) = off + j by have := hown.1; omega] at this
          rw [this, ← hj, List.getElem?_eq_getElem hj']
      · have e1 : off + (n + m) * size + j = off + n * size + (m * size + j) := by rw [Nat.add_mul]; omega
        have e2 : m * size + j < (cap - n) * size := by
          have : (cap - n) * size = m * size + (cap - (n + m)) * size := by rw [← Nat.add_mul]; congr 1; omega
          omega
        rw [e1]
        refine ⟨?_, by rw [World.frozen?_setCells]; exact (hW.spare _ e2).2⟩
        rw [World.cell?_setCells_out g news _ w _ (fun _ _ => .inr (by show _ ≤ off + n * size + (m * size + j); omega))]
        exact (hW.spare _ e2).1
      · rw [World.frozen?_setCells]
        by_cases hlt : j < n * size
        · exact hW.soft j hlt
        · have := (hW.spare (j - n * size) (by
            have : (n + m) * size = n * size + m * size := Nat.add_mul _ _ _
            have : m * size ≤ (cap - n) * size := Nat.mul_le_mul_right _ (by omega)
            omega)).2
          rwa [show off + n * size + (j - n * size) = off + j by omega] at this
    · obtain ⟨v', w', hr, h2, h3⟩ := run_append_arg_grows (P := P) w t ty e i z size bytes ht hi hz hsize hby hzs hsz ⟨g, off, none⟩ n cap xs hown.1 (fun j u hj => by
        have hadd : (⟨g, off, none⟩ : Addr).add j = ⟨g, off + j, none⟩ := by unfold Addr.add; split <;> simp_all
        rw [hadd]; exact hW.here j u hj) a m c news hl hnews (by omega) h63 hbytes
      have h4 := (Win.of_owns h2).low hbase
      refine ⟨v', w', hr, h4, ⟨h3.os, h3.tape, h3.output, h3.size, fun k hk _ => h3.block k hk (by simp)⟩, ?_⟩
      obtain ⟨k, _, _, rfl, hW'⟩ := (Win.of_owns h2).pos (by omega)
      exact .inr ⟨k, rfl, hW'.ge⟩
/-- At the operation. -/
theorem wpList_append_win {P : Program} {w : World} {ops : Array Oper} {rest : List Oper} {o : Oper} {a : Act} {Q : Exit → Act → World → Prop} (hgd : o.guard = none) (s x : Operand) (t : TypeId)
    (ho : o.op = .call { callee := .builtin .append, args := #[s, x], argTypes := #[t, t] })
    (base : Nat) (e : TypeId) (i : TypeInfo) (z : Value) (size bytes : Nat) (ht : P.underlying t = some (.slice e)) (hi : P.info? e = some i) (hz : i.zero = some z)
    (hsize : i.size = size) (hby : i.bytes = bytes) (hzs : z.cells.size = size) (hsz : 0 < size)
    (v : Value) (n : Nat) (xs : List Value) (hs : a.eval s = v) (hown : Win w base size v n xs)
    (ad : Addr) (m c : Nat) (news : List Value) (hx : a.eval x = .slice (some ad) m c) (hl : news.length = m * size) (hnews : ∀ j u, news[j]? = some u → w.cell? (ad.add j) = some u) (h1 : ∀ u ∈ news, u.oneCell' = true)
    (hm : 0 < m) (h63 : n + m ≤ maxLen) (hbytes : (n + m) * bytes ≤ 140737488355328) (hbase : base ≤ w.heap.size)
    (h : ∀ v' w', Win w' base size v' (n + m) (xs ++ news) → w.grownBy w' v.ownBlock → (v'.ownBlock = v.ownBlock ∨ ∃ k, v'.ownBlock = some k ∧ w.heap.size ≤ k) → wpList P ops Q rest (a.put o.dst v') w') :
    wpList P ops Q (o :: rest) a w := by
  refine wpList_plain hgd fun K hK => ?_
  obtain ⟨v', w', hr, h2, h3, h4⟩ := run_append_win (P := P) w base t o.type e i z size bytes ht hi hz hsize hby hzs hsz v n xs hown ad m c news hl hnews h1 hm h63 hbytes hbase
  unfold Oper.wp execOp
  simp only [ho, resolve, invoke, builtin, Sem.run_bind, Sem.run_pure, Result.andThen_ok, List.map_toArray, List.map_cons, List.map_nil, hs, hx, hr]
  exact hK _ _ (h v' w' h2 h3 h4)
end Go.Proofs.YtamckbjckgpniaaDoor
