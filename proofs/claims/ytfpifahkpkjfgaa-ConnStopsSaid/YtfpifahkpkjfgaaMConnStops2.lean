/- What ConnStops needs, a part: Win, Wire, ByteS, InqD, InqG, InqH, WinS. -/
import Derived.ArgAppend
import Derived.Maps.AppendAt
import Derived.Deep.MidRow
import Derived.Deep.Upon
import Derived.OwnWalk
import Derived.Lib.AppendStr
import Derived.Test.YtfpifahkpkjfgaaMConnStops1
namespace Go.Proofs.Ytfpifahkpkjfgaa
open Go.RowKit
set_option linter.unusedVariables false
structure WinAt (w : World) (base size g off cap n : Nat) (cs : List Value) : Prop where
 ge : base ≤ g
 lt : g < w.heap.size
 le : n ≤ cap
 mx : cap ≤ maxLen
 here : w.rangeAt g off cs
 spare : ∀ j, j < (cap - n) * size → (w.cell? ⟨g, off + n * size + j, none⟩).isSome = true ∧ w.frozen? ⟨g, off + n * size + j, none⟩ = false
 soft : ∀ j, j < n * size → w.frozen? ⟨g, off + j, none⟩ = false
def Win (w : World) (base size : Nat) (v : Value) (n : Nat) (cs : List Value) : Prop :=
 cs.length = n * size ∧ ((v = .slice none 0 0 ∧ n = 0) ∨ ∃ g off cap, v = .slice (some ⟨g, off, none⟩) n cap ∧ WinAt w base size g off cap n cs)
section
variable {w w' : World} {base size : Nat} {e : TypeId} {v : Value} {n : Nat} {cs : List Value}
theorem Win.nil (w : World) (base size : Nat) : Win w base size (.slice none 0 0) 0 [] := ⟨by simp, .inl ⟨rfl, rfl⟩⟩
theorem Win.form (h : Win w base size v n cs) : ∃ a cap, v = .slice a n cap := by
 rcases h.2 with ⟨rfl, rfl⟩ | ⟨g, off, cap, rfl, _⟩
 ·exact ⟨_, _, rfl⟩
 ·exact ⟨_, _, rfl⟩
theorem Win.pos (h : Win w base size v n cs) (hn : 0 < n) : ∃ g off cap, v = .slice (some ⟨g, off, none⟩) n cap ∧ WinAt w base size g off cap n cs := by
 rcases h.2 with ⟨_, h0⟩ | h1
 ·omega
 ·exact h1
theorem WinAt.move {g off cap : Nat} (h : WinAt w base size g off cap n cs) (hs : g < w'.heap.size) (hb : w'.heap[g]? = w.heap[g]?) : WinAt w' base size g off cap n cs :=
 ⟨h.ge, hs, h.le, h.mx, fun j u hj => (World.cell?_of_block hb).trans (h.here j u hj), fun j hj => ⟨by rw [World.cell?_of_block hb]; exact (h.spare j hj).1, by rw [World.frozen?_of_block hb]; exact (h.spare j hj).2⟩, fun j hj => by rw [World.frozen?_of_block hb]; exact h.soft j hj⟩
theorem Win.grown {row : Option Nat} (h : Win w base size v n cs) (hg : w.grownBy w' row) (hne : ∀ g, v.ownBlock = some g → row ≠ some g) : Win w' base size v n cs := by
 refine ⟨h.1, ?_⟩
 rcases h.2 with h0 | ⟨g, off, cap, rfl, hW⟩
 ·exact .inl h0
 ·exact .inr ⟨g, off, cap, rfl, hW.move (Nat.lt_of_lt_of_le hW.lt hg.size) (hg.block g hW.lt (fun e => hne g rfl e.symm))⟩
theorem Win.kept (h : Win w base size v n cs) (hb : Below w.heap.size w w') : Win w' base size v n cs := by
 refine ⟨h.1, ?_⟩
 rcases h.2 with h0 | ⟨g, off, cap, rfl, hW⟩
 ·exact .inl h0
 ·exact .inr ⟨g, off, cap, rfl, hW.move (Nat.lt_of_lt_of_le hW.lt hb.size) (hb.block g hW.lt)⟩
theorem Win.lt (h : Win w base size v n cs) : ∀ g, v.ownBlock = some g → base ≤ g ∧ g < w.heap.size := by
 rcases h.2 with ⟨rfl, _⟩ | ⟨g, off, cap, rfl, hW⟩
 ·simp [Value.ownBlock]
 ·intro k hk
  simp [Value.ownBlock] at hk
  subst hk
  exact ⟨hW.ge, hW.lt⟩
theorem Win.of_owns (h : w.ownsRow base e size v n cs) : Win w base size v n cs := by
 refine ⟨h.1, ?_⟩
 rcases h.2 with h0 | ⟨g, cap, cur, rfl, hb, hg, hn, hm, hs, ht⟩
 ·exact .inl h0
 ·refine .inr ⟨g, 0, cap, rfl, hb, (Array.getElem?_eq_some_iff.1 hg).1, hn, hm, fun j u hj => ?_, fun j hj => ?_, fun j hj => ?_⟩
  ·rw [Nat.zero_add, cell_of_row w g j cur e (0, 0) hg]
   rw [← ht, List.getElem?_take] at hj
   split at hj
   ·simpa using hj
   ·cases hj
  ·have hlt : n * size + j < cur.size := by rw [hs]; rw [Nat.sub_mul] at hj; have := Nat.mul_le_mul_right size hn; omega
   exact ⟨by rw [cell_of_row w g _ cur e (0, 0) hg, Nat.zero_add, Array.getElem?_eq_getElem hlt]; rfl, by simp [World.frozen?, hg]⟩
  ·simp [World.frozen?, hg]
theorem Win.low {b' : Nat} (h : Win w base size v n cs) (hb : b' ≤ base) : Win w b' size v n cs := by
 refine ⟨h.1, ?_⟩
 rcases h.2 with h0 | ⟨g, off, cap, rfl, hW⟩
 ·exact .inl h0
 ·exact .inr ⟨g, off, cap, rfl, Nat.le_trans hb hW.ge, hW.lt, hW.le, hW.mx, hW.here, hW.spare, hW.soft⟩
theorem Win.alloc (h : Win w base size v n cs) (o : Obj) : Win (w.alloc o) base size v n cs := h.kept (below_ca (Below.refl _ _) o)
theorem WinAt.tail {g off cap : Nat} {x l : List Value} (h : WinAt w base size g off cap n (x ++ l)) (hx : x.length = size) (hn : 0 < n) : WinAt w base size g (off + size) (cap - 1) (n - 1) l := by
  refine ⟨h.ge, h.lt, by have := h.le; omega, by have := h.mx; omega, fun j u hj => ?_, fun j hj => ?_, fun j hj => ?_⟩
  · have := h.here (size + j) u (by rw [List.getElem?_append_right (by omega), hx]; simpa using hj)
    rwa [← Nat.add_assoc] at this
  · have e : off + size + (n - 1) * size + j = off + n * size + j := by
      obtain ⟨m, rfl⟩ : ∃ m, n = m + 1 := ⟨n - 1, by omega⟩
      rw [Nat.add_sub_cancel, Nat.add_mul]; omega
    rw [e]
    exact h.spare j (by have : cap - 1 - (n - 1) = cap - n := by omega
                        rwa [this] at hj)
  · rw [Nat.add_assoc]
    refine h.soft (size + j) ?_
    obtain ⟨m, rfl⟩ : ∃ m, n = m + 1 := ⟨n - 1, by omega⟩
    rw [Nat.add_sub_cancel] at hj
    rw [Nat.add_mul]; omega
theorem WinAt.cut {g off cap : Nat} {x l : List Value} (h : WinAt w base size g off cap (n + 1) (x ++ l)) (hx : x.length = size) (hl : l.length = n * size) :
  Win w base size (.slice (if cap = 1 then some ⟨g, off, none⟩ else some ⟨g, off + size, none⟩) n (cap - 1)) n l := by
 refine ⟨hl, .inr ?_⟩
 by_cases hc : cap = 1
 ·have h0 : n = 0 := by have := h.le; omega
  subst h0
  rw [if_pos hc]
  have : l = [] := List.eq_nil_of_length_eq_zero (by simpa using hl)
  subst this
  refine ⟨g, off, cap - 1, rfl, h.ge, h.lt, by omega, by have := h.mx; omega, fun j u hj => by simp at hj, fun j hj => ?_, fun j hj => by simp at hj⟩
  rw [hc] at hj; simp at hj
 ·rw [if_neg hc]
  exact ⟨g, off + size, cap - 1, rfl, h.tail hx (by omega)⟩
theorem WinAt.head {g off cap : Nat} {x l : List Value} (h : WinAt w base size g off cap n (x ++ l)) : w.rangeAt g off x := fun j u hj => h.here j u (by rw [List.getElem?_append_left (List.getElem?_eq_some_iff.1 hj).1]; exact hj)
end
theorem elem_of {P : Program} {e : TypeId} {size bytes : Nat} (h : (P.info? e).map (fun i => (i.size, i.bytes, i.zero.map (·.cells.size))) = some (size, bytes, some size)) :
    ∃ i z, P.info? e = some i ∧ i.zero = some z ∧ i.size = size ∧ i.bytes = bytes ∧ z.cells.size = size := by
  cases hi : P.info? e with
  | none => rw [hi] at h; cases h
  | some i =>
    rw [hi] at h
    simp at h
    obtain ⟨h1, h2, z, hz, h3⟩ := h
    exact ⟨i, z, rfl, hz, h1, h2, h3⟩
theorem At.news {w : World} {g : Nat} {t : TypeId} {cs : List Value} (h : At w g t cs) : ∀ j u, cs[j]? = some u → w.cell? ((⟨g, 0, none⟩ : Addr).add j) = some u := by
 intro j u hj
 have hadd : (⟨g, 0, none⟩ : Addr).add j = ⟨g, j, none⟩ := by unfold Addr.add; split <;> simp_all
 rw [hadd, h.cell, hj]
theorem setCells_grownBy (g : Nat) : ∀ (vs : List Value) (o : Nat) (w : World), w.grownBy (w.setCells g o vs) (some g)
 | [], _, w => World.grownBy.refl _ _
 | v :: r, o, w => only_trans (only_set (only_refl w _) (.inl rfl) v) (setCells_grownBy g r (o + 1) _)
theorem run_append_win {P : Program} (w : World) (base : Nat) (t ty e : TypeId) (i : TypeInfo) (z : Value) (size bytes : Nat) (ht : P.underlying t = some (.slice e)) (hi : P.info? e = some i) (hz : i.zero = some z)
  (hsize : i.size = size) (hby : i.bytes = bytes) (hzs : z.cells.size = size) (hsz : 0 < size)
  (v : Value) (n : Nat) (xs : List Value) (hown : Win w base size v n xs)
  (a : Addr) (m c : Nat) (news : List Value) (hl : news.length = m * size) (hnews : ∀ j u, news[j]? = some u → w.cell? (a.add j) = some u) (h1 : ∀ u ∈ news, u.oneCell' = true)
  (hm : 0 < m) (h63 : n + m ≤ maxLen) (hbytes : (n + m) * bytes ≤ 140737488355328) (hbase : base ≤ w.heap.size) :
  ∃ v' w', (Builtin.append_ #[t, t] ty #[v, .slice (some a) m c]).run P w = .ok v' w' ∧ Win w' base size v' (n + m) (xs ++ news) ∧ w.grownBy w' v.ownBlock ∧ (v'.ownBlock = v.ownBlock ∨ ∃ k, v'.ownBlock = some k ∧ w.heap.size ≤ k) := by
 rcases hown.2 with ⟨rfl, rfl⟩ | ⟨g, off, cap, rfl, hW⟩
 ·have hx : xs = [] := List.eq_nil_of_length_eq_zero (by simpa using hown.1)
  subst hx
  obtain ⟨v', w', hr, h2, h3, h4, h5⟩ := run_append_own_at (P := P) w base t ty e i z size bytes ht hi hz hsize hby hzs hsz (.slice none 0 0) 0 [] (World.ownsRow_nil _ _ _ _) a m c news hl hnews h1 h63 hbytes hbase
  exact ⟨v', w', hr, Win.of_owns h2, h3, h5.imp id fun h => ⟨_, h, Nat.le_refl _⟩⟩
 ·by_cases hroom : n + m ≤ cap
  ·have hsp : ∀ j, j < news.length → j < (cap - n) * size := fun j hj => by
    have : m * size ≤ (cap - n) * size := Nat.mul_le_mul_right _ (by omega)
    omega
   have hr := run_append_room_cells (P := P) w t ty e i ht hi g off n cap a m c news (by rw [hsize]; exact hl) hnews h1 hroom
    (fun j hj => by rw [hsize]; exact (hW.spare j (hsp j hj)).1) (fun j hj => by rw [hsize]; exact (hW.spare j (hsp j hj)).2)
   rw [hsize] at hr
   have hg := setCells_grownBy g news (off + n * size) w
   have hlen : (xs ++ news).length = (n + m) * size := by rw [List.length_append, hown.1, hl, Nat.add_mul]
   refine ⟨_, _, hr, ⟨hlen, .inr ⟨g, off, cap, rfl, hW.ge, Nat.lt_of_lt_of_le hW.lt hg.size, hroom, hW.mx, fun j u hj => ?_, fun j hj => ?_, fun j hj => ?_⟩⟩, hg, .inl rfl⟩
   ·by_cases hlt : j < xs.length
    ·rw [List.getElem?_append_left hlt] at hj
     rw [World.cell?_setCells_out g news _ w _ (fun _ _ => .inl (by have := hown.1; show off + j < _; omega))]
     exact hW.here j u hj
    ·rw [List.getElem?_append_right (by omega)] at hj
     have hj' : j - xs.length < news.length := (List.getElem?_eq_some_iff.1 hj).1
     have := World.cell?_setCells_in g news (off + n * size) w (fun j hj => (hW.spare j (hsp j hj)).1) (j - xs.length) hj'
     rw [show off + n * size + (j - xs.length) = off + j by have := hown.1; omega] at this
     rw [this, ← hj, List.getElem?_eq_getElem hj']
   ·have e1 : off + (n + m) * size + j = off + n * size + (m * size + j) := by rw [Nat.add_mul]; omega
    have e2 : m * size + j < (cap - n) * size := by
     have : (cap - n) * size = m * size + (cap - (n + m)) * size := by rw [← Nat.add_mul]; congr 1; omega
     omega
    rw [e1]
    refine ⟨?_, by rw [World.frozen?_setCells]; exact (hW.spare _ e2).2⟩
    rw [World.cell?_setCells_out g news _ w _ (fun _ _ => .inr (by show _ ≤ off + n * size + (m * size + j); omega))]
    exact (hW.spare _ e2).1
   ·rw [World.frozen?_setCells]
    by_cases hlt : j < n * size
    ·exact hW.soft j hlt
    ·have := (hW.spare (j - n * size) (by
      have : (n + m) * size = n * size + m * size := Nat.add_mul _ _ _
      have : m * size ≤ (cap - n) * size := Nat.mul_le_mul_right _ (by omega)
      omega)).2
     rwa [show off + n * size + (j - n * size) = off + j by omega] at this
  ·obtain ⟨v', w', hr, h2, h3⟩ := run_append_arg_grows (P := P) w t ty e i z size bytes ht hi hz hsize hby hzs hsz ⟨g, off, none⟩ n cap xs hown.1 (fun j u hj => by
    have hadd : (⟨g, off, none⟩ : Addr).add j = ⟨g, off + j, none⟩ := by unfold Addr.add; split <;> simp_all
    rw [hadd]; exact hW.here j u hj) a m c news hl hnews (by omega) h63 hbytes
   have h4 := (Win.of_owns h2).low hbase
   refine ⟨v', w', hr, h4, ⟨h3.os, h3.tape, h3.output, h3.size, fun k hk _ => h3.block k hk (by simp)⟩, ?_⟩
   obtain ⟨k, _, _, rfl, hW'⟩ := (Win.of_owns h2).pos (by omega)
   exact .inr ⟨k, rfl, hW'.ge⟩
theorem wpList_append_win {P : Program} {w : World} {ops : Array Oper} {rest : List Oper} {o : Oper} {a : Act} {Q : Exit → Act → World → Prop} (hgd : o.guard = none) (s x : Operand) (t : TypeId)
  (ho : o.op = .call { callee := .builtin .append, args := #[s, x], argTypes := #[t, t] })
  (base : Nat) (e : TypeId) (i : TypeInfo) (z : Value) (size bytes : Nat) (ht : P.underlying t = some (.slice e)) (hi : P.info? e = some i) (hz : i.zero = some z)
  (hsize : i.size = size) (hby : i.bytes = bytes) (hzs : z.cells.size = size) (hsz : 0 < size)
  (v : Value) (n : Nat) (xs : List Value) (hs : a.eval s = v) (hown : Win w base size v n xs)
  (ad : Addr) (m c : Nat) (news : List Value) (hx : a.eval x = .slice (some ad) m c) (hl : news.length = m * size) (hnews : ∀ j u, news[j]? = some u → w.cell? (ad.add j) = some u) (h1 : ∀ u ∈ news, u.oneCell' = true)
  (hm : 0 < m) (h63 : n + m ≤ maxLen) (hbytes : (n + m) * bytes ≤ 140737488355328) (hbase : base ≤ w.heap.size)
  (h : ∀ v' w', Win w' base size v' (n + m) (xs ++ news) → w.grownBy w' v.ownBlock → (v'.ownBlock = v.ownBlock ∨ ∃ k, v'.ownBlock = some k ∧ w.heap.size ≤ k) → wpList P ops Q rest (a.put o.dst v') w') :
  wpList P ops Q (o :: rest) a w := by
 refine wpList_plain hgd fun K hK => ?_
 obtain ⟨v', w', hr, h2, h3, h4⟩ := run_append_win (P := P) w base t o.type e i z size bytes ht hi hz hsize hby hzs hsz v n xs hown ad m c news hl hnews h1 hm h63 hbytes hbase
 unfold Oper.wp execOp
 simp only [ho, resolve, invoke, builtin, Sem.run_bind, Sem.run_pure, Result.andThen_ok, List.map_toArray, List.map_cons, List.map_nil, hs, hx, hr]
 exact hK _ _ (h v' w' h2 h3 h4)
def b8 (x : Int) : Value := .int .u8 (x % 256)
theorem b8_one (l : List Int) : ∀ u ∈ l.map b8, u.oneCell' = true := by
 intro u hu
 obtain ⟨x, _, rfl⟩ := List.mem_map.1 hu
 rfl
theorem elem_u8 : ∃ i z, Try.prog.info? 5 = some i ∧ i.zero = some z ∧ i.size = 1 ∧ i.bytes = 1 ∧ z.cells.size = 1 := elem_of (by kernel_rfl)
abbrev OwnB (w : World) (base : Nat) (v : Value) (l : List Int) : Prop := Win w base 1 v l.length (l.map b8)
def byteL (l : List Int) : List UInt8 := l.map fun x => UInt8.ofNat (x % 256).toNat
def byteS (l : List Int) : ByteArray := ⟨(byteL l).toArray⟩
theorem byteL_len (l : List Int) : (byteL l).length = l.length := by simp [byteL]
theorem byteL_at (l : List Int) (k : Nat) (h : k < (byteL l).length) : (l.map b8)[k]? = some (.int .u8 ((byteL l)[k].toNat : Int)) := by
 have h' : k < l.length := by simpa [byteL_len] using h
 rw [List.getElem?_eq_getElem (by simpa using h')]
 simp only [List.getElem_map, byteL, b8]
 congr 2
 rw [UInt8.toNat_ofNat']
 omega
theorem own_back {w : World} {base : Nat} {l : List Int} {g off c : Nat} (h : WinAt w base 1 g off c l.length (l.map b8)) :
  ∀ k (hk : k < (byteL l).length), w.cell? ((⟨g, off, none⟩ : Addr).add k) = some (.int .u8 ((byteL l)[k].toNat : Int)) := fun k hk => by
 have hadd : (⟨g, off, none⟩ : Addr).add k = ⟨g, off + k, none⟩ := by unfold Addr.add; split <;> simp_all
 rw [hadd]
 exact h.here k _ (byteL_at l k hk)
theorem byteS_sz (l : List Int) : (byteS l).size = l.length := by
 show (byteL l).toArray.size = _
 rw [List.size_toArray, byteL_len]
theorem str_ext {a b : ByteArray} (h : a.data.toList = b.data.toList) : a = b := by
 cases a; cases b
 exact congrArg ByteArray.mk (Array.ext' h)
theorem byteS_toList (l : List Int) : (byteS l).data.toList = byteL l := rfl
theorem WinAt.store {w : World} {base g off cap n : Nat} {cs : List Value} (h : WinAt w base 1 g off cap n cs) (hl : cs.length = n) (i : Nat) (hi : i < n) (v : Value) : WinAt (w.setCell ⟨g, off + i, none⟩ v) base 1 g off cap n (cs.set i v) := by
 refine ⟨h.ge, by simpa [World.setCell] using h.lt, h.le, h.mx, fun j u hj => ?_, fun j hj => ?_, fun j hj => by rw [World.frozen?_setCell]; exact h.soft j hj⟩
 ·by_cases e : i = j
  ·subst e
   rw [List.getElem?_set_self (by omega)] at hj
   cases hj
   obtain ⟨u0, hu0⟩ : ∃ u0, cs[i]? = some u0 := ⟨cs[i], List.getElem?_eq_getElem (by omega)⟩
   exact World.cell?_setCell_same _ _ _ (h.here i u0 hu0)
  ·rw [List.getElem?_set_ne e] at hj
   rw [World.cell?_setCell_other _ _ _ _ (by intro x; injection x with _ x2 _; omega)]
   exact h.here j u hj
 ·rw [World.cell?_setCell_other _ _ _ _ (by intro x; injection x with _ x2 _; omega), World.frozen?_setCell]
  exact h.spare j hj
theorem WinAt.ofOwns {w : World} {base e g n : Nat} {cs : List Value} (h : w.ownsRow base e 1 (.slice (some ⟨g, 0, none⟩) n n) n cs) : WinAt w base 1 g 0 n n cs := by
 have := (Win.of_owns h).2
 rcases this with ⟨h0, _⟩ | ⟨g', off, cap, hv, hW⟩
 ·cases h0
 ·cases hv; exact hW
set_option maxRecDepth 100000 in
set_option maxHeartbeats 1000000 in
theorem behind_any (g : Nat) (q : IQ) (p edge : Int) (w : World) (hQ : InqAt w g q) (hp : 0 ≤ p) (he : edge ≤ 4611686018427387904) (hp' : p ≤ 4611686018427387904) :
  Calls Try.prog 93 #[.pointer (some ⟨g, 0, none⟩), .int .i64 p, .int .i64 edge] w fun e w' => e = .returned (.bool (behindB q.h p edge)) ∧ w = w' := by
 have hlt := hQ.lt
 have HI := Lib.hid (behind_iff q.h p edge)
 go_enter Try.func93, Try.ntmps93
 go_wp2_with fail
 go_loop [1] (fun c => ∃ x : Int, p ≤ x ∧ x ≤ 4611686018427387904 ∧ c = .int .i64 x ∧ ∀ y, p ≤ y → y < x → q.h (y % 2048).toNat = false) (fun c => (edge - intOf c).toNat)
 case atStart => exact ⟨p, by omega, hp', rfl, fun y a b => by omega⟩
 case round =>
  obtain ⟨x, hx, hx', rfl, hno⟩ := hrel
  have HN := Lib.hid hno
  clear hno
  by_cases hlt : x < edge
  ·obtain ⟨K, hK⟩ : ∃ K : Nat, x % 2048 = (K : Int) := ⟨(x % 2048).toNat, by omega⟩
   have hK2 : K < 2048 := by omega
   have c := InqAt.h_ hQ K hK2
   have k1 : (K : Int) < 2048 := by omega
   cases hh : q.h K
   ·rw [hh] at c
    have HH := Lib.hid hh
    have HK := Lib.hid hK
    clear hh
    go_wp2_with fail
    go_round
    case rel =>
     refine ⟨x + 1, by omega, by omega, rfl, fun y a b => ?_⟩
     by_cases e : y = x
     ·rw [e, HK.out]; exact HH.out
     ·exact HN.out y a (by omega)
    case measure => simp [intOf]; omega
   ·rw [hh] at c
    have HH := Lib.hid hh
    have HK := Lib.hid hK
    clear hh
    go_wp2_with fail
    go_ret
    refine ⟨ret_bool ?_, rfl⟩
    symm
    rw [HI.out]
    exact ⟨x, hx, hlt, by rw [HK.out]; exact HH.out⟩
  ·go_wp2_with fail
   go_ret
   refine ⟨ret_bool ?_, rfl⟩
   cases hb : behindB q.h p edge
   ·rfl
   ·obtain ⟨y, a, b, c⟩ := HI.out.1 hb
    rw [HN.out y a (by omega)] at c
    cases c
def readL (q : IQ) (n : Nat) : List Int := fnL n fun j => q.r ((q.rd + j) % 2048).toNat
def readTo (q : IQ) (n k : Nat) : List Int := fnL n fun j => if j < k then q.r ((q.rd + j) % 2048).toNat else 0
def readN (q : IQ) (most : Int) : Nat := (if (if most < 0 then 0 else most) < endZ q - q.rd then (if most < 0 then 0 else most) else endZ q - q.rd).toNat
theorem readTo_end (q : IQ) (n : Nat) : readTo q n n = readL q n := fnL_congr _ _ _ (fun k hk => by rw [if_pos hk])
theorem readTo_step (q : IQ) (n k : Nat) (hk : k < n) : ((readTo q n k).map b8).set k (b8 (q.r ((q.rd + k) % 2048).toNat)) = (readTo q n (k + 1)).map b8 := by
 unfold readTo
 rw [← List.map_set]
 congr 1
 rw [fnL_set]
 refine fnL_congr _ _ _ (fun j hj => ?_)
 by_cases e : j = k
 ·subst e; simp
 ·rw [if_neg e]
  by_cases h2 : j < k
  ·rw [if_pos h2, if_pos (by omega)]
  ·rw [if_neg h2, if_neg (by omega)]
theorem readTo_len (q : IQ) (n k : Nat) : (readTo q n k).length = n := by unfold readTo; rw [fnL_len]
theorem exb_gen {R : Exit → Act → World → Prop} {i : Nat} {a : Act} {w : World} (Pr : World → Prop) (h : Pr w) (k : ∀ W, Pr W → Exit.inBlock i R .normal a W) : Exit.inBlock i R .normal a w := k w h
theorem madeOne (q : IQ) (N : Nat) : (madeCells #[Value.int .u8 0] N).toList = (readTo q N 0).map b8 := by
 apply List.ext_getElem?
 intro k
 by_cases hk : k < N
 ·unfold readTo
  rw [List.getElem?_map, fnL_get _ _ _ hk]
  simp [madeCells, hk, b8]
  rw [Nat.mod_one]; rfl
 ·rw [List.getElem?_eq_none (by simp [madeCells]; omega), List.getElem?_eq_none (by rw [List.length_map, readTo_len]; omega)]
set_option maxRecDepth 100000 in
set_option maxHeartbeats 1000000 in
theorem Read_any (g : Nat) (q : IQ) (most : Int) (w : World) (hQ : InqAt w g q) (ok : IqOk q) (hm : -9223372036854775808 ≤ most) (hm' : most ≤ 9223372036854775807) :
  Calls Try.prog 54 #[.pointer (some ⟨g, 0, none⟩), .int .i64 most] w fun e w' => e = .returned (.string (byteS (readL q (readN q most)))) ∧ InqAt w' g { q with rd := q.rd + readN q most } ∧ w.grownBy w' (some g) := by
 obtain ⟨b1, b2, b3, b4⟩ := end_bd q ok
 have hlt := hQ.lt
 obtain ⟨N, hN⟩ : ∃ N, readN q most = N := ⟨_, rfl⟩
 have hN2 : N ≤ 2048 := by rw [← hN]; unfold readN; split <;> split <;> omega
 rw [hN]
 have HN := Lib.hid hN
 clear hN
 go_enter Try.func54, Try.ntmps54
 go_upto_region 1 with (fail)
 go_cut [5] (fun s wc => s = .int .i64 (N : Int) ∧ Below w.heap.size w wc)
 case first =>
  go_wp2_with (go_at_call 53; refine (Ready_any g q _ hQ ok).mono ?_; rintro e w1 ⟨rfl, hB1⟩)
  all_goals
   go_meet
   case rel =>
    refine ⟨?_, hB1⟩
    have := HN.out
    unfold readN at this
    congr 1
    rw [← this]
    split <;> split <;> omega
 case rest =>
  obtain ⟨rfl, hBc⟩ := hcut
  have hQc := hQ.kept hBc
  have hi : (Try.prog.info? 5).map (fun i => (i.zero, i.size, i.bytes)) = some (some (.int .u8 0), 1, 1) := by kernel_rfl
  obtain ⟨i0, hi0, hi1, hi2, hi3⟩ := info_parts hi
  clear hi
  have hgc := hQc.lt
  go_wp2_with (refine wpList_make_full _ rfl (.tmp 13) (.tmp 13) 104 rfl w.heap.size 5 i0 _ 1 Try.underlying104 hi0 hi1 hi2 .i64 .i64 _ _ N rfl rfl rfl rfl ?b2 ?b3 ?b4 ?_)
  case b2 => rw [hi3]; omega
  case b3 => unfold maxLen; omega
  case b4 => exact hBc.size
  intro w3 hown hO3
  have hWA := WinAt.ofOwns hown
  rw [madeOne q N] at hWA
  clear hown hi0 hi1 hi2 hi3
  have hQ3 : InqAt w3 g q := hQc.grown hO3 (by simp)
  have hz3 : wc.heap.size < w3.heap.size := hWA.lt
  have hB3 : Below w.heap.size w w3 := hBc.grown hO3 hBc.size (fun j hj => by cases hj)
  have hcs := hBc.size
  go_wp2_with fail
  go_loopw [17] (fun i wr => ∃ k : Nat, k ≤ N ∧ i = .int .i64 k ∧ WinAt wr w.heap.size 1 wc.heap.size 0 N N ((readTo q N k).map b8) ∧ Below w.heap.size w wr ∧ w3.grownBy wr (some wc.heap.size)) (fun i _ => N - (intOf i).toNat)
  case atStart =>
   exact ⟨0, by omega, rfl, hWA, hB3, only_refl _ _⟩
  case round =>
   obtain ⟨k, hk, rfl, hWk, hBk, hOk⟩ := hrel
   have hQk : InqAt wr g q := hQ3.grown hOk (by intro e; cases e; omega)
   have r1 := InqAt.rd_ hQk
   have hgk := hQk.lt
   have hwk := hWk.lt
   have hok1 := ok.rd1
   by_cases hlt2 : k < N
   ·obtain ⟨K, hK⟩ : ∃ K : Nat, (q.rd + (k : Int)) % 2048 = (K : Int) := ⟨((q.rd + (k : Int)) % 2048).toNat, by omega⟩
    have hK2 : K < 2048 := by omega
    have r2 := InqAt.r_ hQk K hK2
    have k1 : (K : Int) < 2048 := by omega
    have k0 : (0 : Int) ≤ (K : Int) := by omega
    have hrok := ok.rok K
    have r3 := hWk.here k (b8 ((readTo q N k)[k]'(by rw [readTo_len]; exact hlt2))) (by simp [readTo_len, hlt2])
    have r4 := hWk.soft k (by omega)
    rw [Nat.zero_add] at r3 r4
    have k3 : (k : Int) < (N : Int) := by omega
    have k4 : (0 : Int) ≤ (k : Int) := by omega
    have hwr : IntKind.i64.wrap (q.rd + (k : Int)) = q.rd + (k : Int) := IntWalk.i64_in _ (by omega)
    have hst := readTo_step q N k hlt2
    rw [hK, Int.toNat_natCast] at hst
    have HST := Lib.hid hst
    have HK := Lib.hid hK
    clear hst
    go_wp2_with fail
    go_region
    refine exb_gen (fun W => WinAt W w.heap.size 1 wc.heap.size 0 N N ((readTo q N (k + 1)).map b8) ∧ Below w.heap.size w W ∧ w3.grownBy W (some wc.heap.size)) ⟨?_, (hBk.setCell (by show w.heap.size ≤ wc.heap.size; omega) _).drew, only_drew (only_set hOk (.inl rfl) _)⟩ ?_
    ·have h := WinAt.store hWk (by simp [readTo_len]) k hlt2 (b8 (q.r K))
     rw [HST.out, Nat.zero_add] at h
     have e : b8 (q.r K) = .int .u8 (q.r K) := by unfold b8; rw [Int.emod_eq_of_lt (by omega) (by omega)]
     rw [e] at h
     exact h.move h.lt rfl
    rintro W4 ⟨hW4, hB4, hO4⟩
    clear r1 r2 r3 r4
    go_wp2_with fail
    go_roundw
    case rel => exact ⟨k + 1, by omega, by go_num, hW4, hB4, hO4⟩
    case measure => simp [intOf]; omega
   ·obtain rfl : k = N := by omega
    have r5 := hQk.free 4096
    rw [readTo_end] at hWk
    go_upto_region 9 with (fail)
    refine wp_gen (fun W => WinAt W w.heap.size 1 wc.heap.size 0 k k ((readL q k).map b8) ∧ InqAt W g { q with rd := q.rd + k } ∧ w.grownBy W (some g)) ⟨?_, ?_, ?_⟩ ?_
    ·exact hWk.move (by simpa [World.setCell] using hWk.lt) (Below.heap_setCell _ _ _ _ (by show wc.heap.size ≠ g; omega))
    ·have h := At.set_ hQk 4096 (.int .i64 (q.rd + k))
     rw [inqC_setrd] at h
     exact h
    ·refine only_set ?_ (.inl rfl) _
     exact ⟨hBk.os, hBk.tape, hBk.output, hBk.size, fun i hi _ => hBk.block i hi⟩
    rintro W4 ⟨hW4, hQ4, hO4⟩
    have hrl : (readL q k).length = k := by unfold readL; rw [fnL_len]
    have hback := run_convert_bytes_back (P := Try.prog) W4 104 9 5 ⟨wc.heap.size, 0, none⟩ k (byteL (readL q k)) Try.underlying104 Try.underlying5 Try.underlying9 (own_back (by rw [hrl]; exact hW4))
    rw [byteL_len, hrl, show (⟨(byteL (readL q k)).toArray⟩ : ByteArray) = byteS (readL q k) from rfl] at hback
    clear hrl r1 r5
    generalize hT : byteS (readL q k) = T at *
    have HT := Lib.hid hT
    clear hT
    go_wp2_with fail
    go_ret
    exact ⟨ret_val (by rw [HT.out]; rfl), hQ4, hO4⟩
structure Good (T : ByteArray) (fin : Bool) (q : IQ) (n : Nat) : Prop where
 ok : IqOk q
 stop : Stop q
 rd : q.rd = n + 1
 end_ : endZ q ≤ T.size + 1
 got : ∀ p, q.rd ≤ p → p < endZ q → q.r (p % 2048).toNat = byteZ T (p - 1)
 have_ : q.over = false → ∀ p, q.nx ≤ p → p < q.rd + 2048 → q.h (p % 2048).toNat = true → p ≤ T.size ∧ q.r (p % 2048).toNat = byteZ T (p - 1)
 low : q.over = false → ∀ p, q.rd ≤ p → p < q.nx → q.h (p % 2048).toNat = false
 fn : q.fin = -1 ∨ (q.fin = T.size + 1 ∧ fin = true)
 ov : q.over = true → q.nx = T.size + 2 ∧ fin = true
theorem end_open {q : IQ} (h : q.over = false) : endZ q = q.nx := by unfold endZ; rw [h]; rfl
theorem end_over {q : IQ} (h : q.over = true) : endZ q = q.nx - 1 := by unfold endZ; rw [h]; rfl
theorem good_new (T : ByteArray) (fin : Bool) : Good T fin newIQ 0 := by
 refine ⟨⟨by decide, by decide, by decide, by decide, by decide, by decide, fun k => by simp [newIQ]⟩, .inr ⟨.inr rfl, by decide⟩, rfl, ?_, ?_, ?_, ?_, .inl rfl, fun h => by cases h⟩
 ·show (1 : Int) ≤ T.size + 1; omega
 ·intro p h1 h2
  have e1 : newIQ.rd = 1 := rfl
  have e2 : endZ newIQ = 1 := rfl
  omega
 ·intro _ p h1 h2 h3; cases h3
 ·intro _ p h1 h2; rfl
structure PieceOf (T S : ByteArray) (a t : Nat) : Prop where
 le : a ≤ t
 lt : t ≤ T.size
 sz : S.size = t - a
 at_ : ∀ i : Int, 0 ≤ i → i < S.size → byteZ S i = byteZ T (a + i)
theorem piece_extract (T : ByteArray) (a t : Nat) (h : a ≤ t) (h' : t ≤ T.size) : PieceOf T (T.extract a t) a t := by
 have hs : (T.extract a t).size = t - a := by rw [ByteArray.size_extract]; omega
 refine ⟨h, h', hs, fun i h1 h2 => ?_⟩
 unfold byteZ
 obtain ⟨k, rfl⟩ := Int.eq_ofNat_of_zero_le h1
 have hk : k < t - a := by omega
 rw [show ((a : Int) + (k : Int)).toNat = a + k by omega, Int.toNat_natCast, ByteArray.data_extract]
 congr 2
 rw [Array.getElem?_extract]
 have hsz : T.data.size = T.size := rfl
 rw [if_pos (by rw [hsz]; omega)]
section
variable {T S : ByteArray} {fin : Bool} {q : IQ} {n a t : Nat}
theorem good_hit (g : Good T fin q n) (ho : q.over = false) (hp : PieceOf T S a t) (p : Int) (h1 : q.nx ≤ p) (h2 : p < q.rd + 2048) :
  plc q.nx (p % 2048).toNat = p ∧ (hitB q (a + 1) S.size (p % 2048).toNat = true ↔ ((a : Int) + 1 ≤ p ∧ p < (t : Int) + 1 ∧ (q.fin < 0 ∨ p < q.fin))) := by
 obtain ⟨o1, o2⟩ := ok_open g.ok ho
 have hr := g.ok.rd1
 have hpl : plc q.nx (p % 2048).toNat = p := plc_of _ _ _ h1 (by omega) (by omega)
 refine ⟨hpl, ?_⟩
 unfold hitB
 rw [hpl, decide_eq_true_eq]
 have := hp.sz
 have := hp.le
 constructor
 ·intro h; omega
 ·intro h; omega
theorem good_low (g : Good T fin q n) (ho : q.over = false) (at_ len : Int) (p : Int) (h1 : q.rd ≤ p) (h2 : p < q.nx) : hitB q at_ len (p % 2048).toNat = false := by
 obtain ⟨o1, o2⟩ := ok_open g.ok ho
 have hr := g.ok.rd1
 have hpl : plc q.nx (p % 2048).toNat = p + 2048 := plc_of _ _ _ (by omega) (by omega) (by omega)
 unfold hitB
 rw [hpl, decide_eq_false_iff_not]
 omega
theorem good_rPut (g : Good T fin q n) (ho : q.over = false) (hp : PieceOf T S a t) (p : Int) (h1 : q.nx ≤ p) (h2 : p < q.rd + 2048) (h : hPut q (a + 1) S.size (p % 2048).toNat = true) :
  p ≤ T.size ∧ rPut q (a + 1) S (p % 2048).toNat = byteZ T (p - 1) := by
 obtain ⟨hpl, hit⟩ := good_hit g ho hp p h1 h2
 have hlt := hp.lt
 unfold hPut at h
 unfold rPut
 cases hh : q.h (p % 2048).toNat
 ·rw [hh] at h
  simp only [Bool.false_or] at h
  obtain ⟨k1, k2, k3⟩ := hit.1 h
  rw [h, hpl]
  refine ⟨by omega, ?_⟩
  simp only [Bool.not_false, Bool.and_self, if_true]
  have hsz := hp.sz
  rw [hp.at_ (p - (a + 1)) (by omega) (by omega), show (a : Int) + (p - (a + 1)) = p - 1 by omega]
 ·obtain ⟨k1, k2⟩ := g.have_ ho p h1 h2 hh
  exact ⟨k1, by simpa using k2⟩
end
section
variable {T S : ByteArray} {fin : Bool} {q : IQ} {n a t : Nat}
theorem readN_bd (ok : IqOk q) (most : Int) : q.rd + readN q most ≤ endZ q := by
 have := (end_bd q ok).1
 unfold readN
 split <;> split <;> omega
theorem good_read (g : Good T fin q n) (m : Nat) (hm : q.rd + m ≤ endZ q) : Good T fin { q with rd := q.rd + m } (n + m) := by
 have e1 : endZ { q with rd := q.rd + m } = endZ q := rfl
 have hr := g.ok.rd1
 have hb := end_bd q g.ok
 refine ⟨⟨by show 1 ≤ q.rd + (m : Int); omega, hm, ?_, g.ok.nxm, g.ok.fin1, g.ok.finm, g.ok.rok⟩, ?_, ?_, g.end_, ?_, ?_, ?_, g.fn, g.ov⟩
 ·show endZ q ≤ q.rd + m + 2048
  omega
 ·rcases g.stop with h | ⟨h1, h2⟩
  ·exact .inl h
  ·cases ho : q.over
   ·by_cases h0 : m = 0
    ·subst h0
     refine .inr ⟨?_, h2⟩
     rcases h1 with h | h
     ·left; show q.nx = q.rd + (0 : Nat) + 2048; omega
     ·exact .inr h
    ·refine .inr ⟨?_, h2⟩
     right
     show q.h (q.nx % 2048).toNat = false
     rcases h1 with h | h
     ·rw [end_open ho] at hm
      have := g.low ho q.rd (Int.le_refl _) (by omega)
      rw [show q.nx % 2048 = q.rd % 2048 by omega]
      exact this
     ·exact h
   ·exact .inl rfl
 ·show q.rd + (m : Int) = ((n + m : Nat) : Int) + 1
  have := g.rd
  omega
 ·intro p h1 h2
  have h1' : q.rd + m ≤ p := h1
  exact g.got p (by omega) h2
 ·intro ho p h1 h2 h3
  have ho' : q.over = false := ho
  have h2' : p < q.rd + m + 2048 := h2
  have h3' : q.h (p % 2048).toNat = true := h3
  rw [end_open ho'] at hm
  by_cases hp : p < q.rd + 2048
  ·exact g.have_ ho' p h1 hp h3'
  ·have := g.low ho' (p - 2048) (by omega) (by omega)
   rw [show (p - 2048) % 2048 = p % 2048 by omega, h3'] at this
   cases this
 ·intro ho p h1 h2
  have h1' : q.rd + m ≤ p := h1
  exact g.low ho p (by omega) h2
theorem good_bytes (g : Good T fin q n) (m : Nat) (hm : q.rd + m ≤ endZ q) : byteL (readL q m) = (T.data.toList.drop n).take m := by
 have hrd := g.rd
 have hend := g.end_
 apply List.ext_getElem?
 intro k
 have hrl : (readL q m).length = m := by unfold readL; rw [fnL_len]
 by_cases hk : k < m
 ·unfold byteL
  rw [List.getElem?_map]
  have hk2 : (readL q m)[k]? = some (q.r ((q.rd + k) % 2048).toNat) := by unfold readL; rw [fnL_get _ _ _ hk]
  rw [hk2, List.getElem?_take, if_pos hk, List.getElem?_drop]
  have hgt := g.got (q.rd + k) (by omega) (by omega)
  rw [hgt]
  have hlt : n + k < T.data.toList.length := by rw [Array.length_toList]; show n + k < T.size; omega
  unfold byteZ
  rw [show (q.rd + (k : Int) - 1).toNat = n + k by omega, List.getElem?_eq_getElem hlt]
  have e : T.data[n + k]? = some (T.data.toList[n + k]) := by
   rw [Array.getElem_toList]; exact Array.getElem?_eq_getElem _
  rw [e]
  simp only [Option.map_some, Option.getD_some]
  congr 1
  have hlt2 := (T.data.toList[n + k]).toNat_lt
  apply UInt8.toNat.inj
  rw [UInt8.toNat_ofNat']
  omega
 ·rw [List.getElem?_eq_none (by rw [byteL_len, hrl]; omega), List.getElem?_eq_none (by rw [List.length_take]; omega)]
end
end Go.Proofs.Ytfpifahkpkjfgaa
namespace Go.Proofs.Ytfpifahkpkjfgaa
open Go.RowKit Go.Lib
set_option linter.unusedVariables false
theorem run_append_win_str {P : Program} (w : World) (base : Nat) (t u ty e : TypeId) (i : TypeInfo) (ht : P.underlying t = some (.slice e)) (hu : P.underlying u = some .string) (hi : P.info? e = some i) (hz : i.zero = some (.int .u8 0))
  (hsize : i.size = 1) (hby : i.bytes = 1) (v : Value) (n : Nat) (xs : List Value) (hown : Win w base 1 v n xs) (s : ByteArray)
  (h63 : n + s.size ≤ maxLen) (hbytes : n + s.size ≤ 140737488355328) (hbase : base ≤ w.heap.size) :
  ∃ v' w', (Builtin.append_ #[t, u] ty #[v, .string s]).run P w = .ok v' w' ∧ Win w' base 1 v' (n + s.size) (xs ++ strCells s) ∧ w.grownBy w' v.ownBlock ∧ (v'.ownBlock = v.ownBlock ∨ ∃ k, v'.ownBlock = some k ∧ w.heap.size ≤ k) := by
 rcases hown.2 with ⟨rfl, rfl⟩ | ⟨g, off, cap, rfl, hW⟩
 ·have hx : xs = [] := List.eq_nil_of_length_eq_zero (by simpa using hown.1)
  subst hx
  obtain ⟨v', w', hr, h2, h3, h4⟩ := run_append_own_string (P := P) w w.heap.size t u ty e i ht hu hi hz hsize hby (.slice none 0 0) 0 [] (World.ownsRow_nil _ _ _ _) s h63 hbytes (Nat.le_refl _)
  have hw := Win.of_owns h2
  refine ⟨v', w', hr, hw.low hbase, h3, ?_⟩
  rcases hw.2 with ⟨hv, _⟩ | ⟨g, off, cap, hv, hW⟩
  ·left; rw [hv]
  ·right; exact ⟨g, by rw [hv]; rfl, hW.ge⟩
 ·have hl : (strCells s).length = s.size := strCells_length s
  have hxl : xs.length = n := by simpa using hown.1
  have hlen : (xs ++ strCells s).length = (n + s.size) * 1 := by rw [List.length_append, hxl, hl, Nat.mul_one]
  by_cases hroom : n + s.size ≤ cap
  ·have hsp : ∀ j, j < (strCells s).length → j < (cap - n) * 1 := fun j hj => by omega
   have hfc := run_firstCells_string (P := P) w 1 s
   have hst := run_storeCells_cells (P := P) g (off + n * 1) (strCells s) 0 w (fun j hj => by simpa using (hW.spare j (hsp j hj)).1) (fun j hj => by simpa using (hW.spare j (hsp j hj)).2) (strCells_oneCell s)
   simp only [Nat.add_zero, Nat.mul_one] at hst
   have hr : (Builtin.append_ #[t, u] ty #[.slice (some ⟨g, off, none⟩) n cap, .string s]).run P w = .ok (.slice (some ⟨g, off, none⟩) (n + s.size) cap) (w.setCells g (off + n) (strCells s)) := by
    simp [Builtin.append_, run_underlying ht, run_underlying hu, sizeOf, typeInfo, hi, hsize, Builtin.lenOf, hroom, hfc, Addr.add_lit, hst]
   have hg := setCells_grownBy g (strCells s) (off + n) w
   refine ⟨_, _, hr, ⟨hlen, .inr ⟨g, off, cap, rfl, hW.ge, Nat.lt_of_lt_of_le hW.lt hg.size, hroom, hW.mx, fun j u hj => ?_, fun j hj => ?_, fun j hj => ?_⟩⟩, hg, .inl rfl⟩
   ·by_cases hlt : j < xs.length
    ·rw [List.getElem?_append_left hlt] at hj
     rw [World.cell?_setCells_out g _ _ w _ (fun _ _ => .inl (by show off + j < _; omega))]
     exact hW.here j u hj
    ·rw [List.getElem?_append_right (by omega)] at hj
     have hj' : j - xs.length < (strCells s).length := (List.getElem?_eq_some_iff.1 hj).1
     have := World.cell?_setCells_in g (strCells s) (off + n) w (fun j hj => by simpa using (hW.spare j (hsp j hj)).1) (j - xs.length) hj'
     rw [show off + n + (j - xs.length) = off + j by omega] at this
     rw [this, ← hj, List.getElem?_eq_getElem hj']
   ·have e1 : off + (n + s.size) * 1 + j = off + n * 1 + (s.size + j) := by omega
    have e2 : s.size + j < (cap - n) * 1 := by omega
    rw [e1]
    refine ⟨?_, by rw [World.frozen?_setCells]; exact (hW.spare _ e2).2⟩
    rw [World.cell?_setCells_out g _ _ w _ (fun _ _ => .inr (by show _ ≤ off + n * 1 + (s.size + j); omega))]
    exact (hW.spare _ e2).1
   ·rw [World.frozen?_setCells]
    by_cases hlt : j < n * 1
    ·exact hW.soft j hlt
    ·have := (hW.spare (j - n * 1) (by omega)).2
     rwa [show off + n * 1 + (j - n * 1) = off + j by omega] at this
  ·have hsmall : n + s.size ≤ 9223372036854775807 := by simp only [maxLen] at h63; omega
   have holds : ∀ j u, xs[j]? = some u → w.cell? ((⟨g, off, none⟩ : Addr).add j) = some u := fun j u hj => by
    rw [Addr.add_mid]; exact hW.here j u hj
   have hr := run_append_grow_string (P := P) w t u ty e i (.int .u8 0) ht hu hi hz ⟨g, off, none⟩ n cap xs (by rw [hsize]; simpa using hxl) holds s (by omega) (by omega) (by rw [hby]; exact growslice_fits (by omega) (by omega))
   have hge := grownCap_ge w (n + s.size) cap e
   have hcm : grownCap w (n + s.size) cap e ≤ maxLen := grownCap_le_maxLen w (n + s.size) cap e h63
   refine ⟨_, _, hr, Win.of_owns (e := e) ⟨hlen, .inr ⟨w.heap.size, _, _, rfl, hbase, heap_alloc_new w.drew _, hge, hcm, ?_, ?_⟩⟩, ⟨rfl, rfl, rfl, by simp, fun k hk _ => (Below.heap_alloc w.drew _ k hk)⟩, .inr ⟨_, rfl, Nat.le_refl _⟩⟩
   ·have hz1 : (Value.int IntKind.u8 0).cells.size = 1 := rfl
    simp only [Array.size_append, List.size_toArray, size_zeroCells, hz1, hxl, strCells_length]
    omega
   ·simp only [Array.toList_append, List.append_assoc]
    rw [← List.append_assoc, ← hlen]
    exact List.take_left
def sI (s : ByteArray) : List Int := s.data.toList.map fun b => (b.toNat : Int)
theorem sI_len (s : ByteArray) : (sI s).length = s.size := by simp [sI]
theorem sI_cells (s : ByteArray) : (sI s).map b8 = strCells s := by
 unfold sI strCells
 rw [List.map_map]
 refine List.map_congr_left fun b _ => ?_
 show b8 (b.toNat : Int) = _
 have := b.toNat_lt
 unfold b8
 rw [Int.emod_eq_of_lt (by omega) (by omega)]
theorem elemz_of {P : Program} {e : TypeId} {size bytes : Nat} {z : Value} (h : (P.info? e).map (fun i => (i.zero, i.size, i.bytes)) = some (some z, size, bytes)) : ∃ i, P.info? e = some i ∧ i.zero = some z ∧ i.size = size ∧ i.bytes = bytes := by
  cases hi : P.info? e with
  | none => rw [hi] at h; cases h
  | some i =>
    rw [hi] at h
    simp only [Option.map_some, Option.some.injEq, Prod.mk.injEq] at h
    exact ⟨i, rfl, h.1, h.2.1, h.2.2⟩
theorem elem_u8s : ∃ i, Try.prog.info? 5 = some i ∧ i.zero = some (.int .u8 0) ∧ i.size = 1 ∧ i.bytes = 1 := elemz_of (by kernel_rfl)
end Go.Proofs.Ytfpifahkpkjfgaa
