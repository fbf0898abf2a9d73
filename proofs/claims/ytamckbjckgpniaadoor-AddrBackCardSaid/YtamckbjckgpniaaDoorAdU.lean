/- addr.Parse: the walk. -/
import Derived.Test.YtamckbjckgpniaaDoorAdT
namespace Go.Proofs.YtamckbjckgpniaaDoor
open Go.RowKit Go.Lib Go.Shelf
set_option linter.unusedVariables false
set_option linter.unusedSimpArgs false
attribute [local go_sem] Oper.semAt_some

/-- the world in which the loop begins -/
def prW (w : World) (s : ByteArray) : World := ssW (((w.alloc (.cells #[.int .u32 0] 22)).alloc (.cells #[.int .i64 0] 25)).alloc (.cells #[.int .u32 0] 22)) s
theorem prW_is (w : World) (s : ByteArray) : (prW w s).heap.size = w.heap.size + 6 ∧ Boxed (prW w s) w.heap.size 22 (.int .u32 0) ∧ Boxed (prW w s) (w.heap.size + 1) 25 (.int .i64 0) ∧ Boxed (prW w s) (w.heap.size + 2) 22 (.int .u32 0) ∧
    Boxed (prW w s) (w.heap.size + 3) 9 (.string s) ∧ Boxed (prW w s) (w.heap.size + 4) 9 (.string dotS) ∧ Boxed (prW w s) (w.heap.size + 5) 3 (.int .i64 0) ∧ Below w.heap.size w (prW w s) := by
  unfold prW ssW
  have b0 := Boxed.new w 22 (.int .u32 0)
  have b1 := Boxed.new (w.alloc (.cells #[.int .u32 0] 22)) 25 (.int .i64 0)
  have b2 := Boxed.new ((w.alloc (.cells #[.int .u32 0] 22)).alloc (.cells #[.int .i64 0] 25)) 22 (.int .u32 0)
  have b3 := Boxed.new (((w.alloc (.cells #[.int .u32 0] 22)).alloc (.cells #[.int .i64 0] 25)).alloc (.cells #[.int .u32 0] 22)) 9 (.string s)
  have b4 := Boxed.new ((((w.alloc (.cells #[.int .u32 0] 22)).alloc (.cells #[.int .i64 0] 25)).alloc (.cells #[.int .u32 0] 22)).alloc (.cells #[.string s] 9)) 9 (.string dotS)
  have b5 := Boxed.new (((((w.alloc (.cells #[.int .u32 0] 22)).alloc (.cells #[.int .i64 0] 25)).alloc (.cells #[.int .u32 0] 22)).alloc (.cells #[.string s] 9)).alloc (.cells #[.string dotS] 9)) 3 (.int .i64 0)
  simp only [World.size_alloc] at b0 b1 b2 b3 b4 b5
  refine ⟨by simp only [World.size_alloc], ((((b0.alloc _).alloc _).alloc _).alloc _).alloc _, (((b1.alloc _).alloc _).alloc _).alloc _, ((b2.alloc _).alloc _).alloc _, (b3.alloc _).alloc _, b4.alloc _, b5, ?_⟩
  refine ((((((Below.refl _ w).alloc (Nat.le_refl _) _).alloc ?_ _).alloc ?_ _).alloc ?_ _).alloc ?_ _).alloc ?_ _ <;> simp only [World.size_alloc] <;> omega
theorem two_set {w W : World} {n : Nat} {t1 t2 : TypeId} {v1 v2 : Value} {o : Obj} (h1 : Boxed W n t1 v1) (h2 : Boxed W (n + 1) t2 v2) (h3 : W.heap[n + 6]? = some o) (hb : Below n w W) (u1 u2 : Value) :
    Boxed ((W.setCell ⟨n, 0, none⟩ u1).setCell ⟨n + 1, 0, none⟩ u2) n t1 u1 ∧ Boxed ((W.setCell ⟨n, 0, none⟩ u1).setCell ⟨n + 1, 0, none⟩ u2) (n + 1) t2 u2 ∧ ((W.setCell ⟨n, 0, none⟩ u1).setCell ⟨n + 1, 0, none⟩ u2).heap[n + 6]? = some o ∧ Below n w ((W.setCell ⟨n, 0, none⟩ u1).setCell ⟨n + 1, 0, none⟩ u2) := by
  refine ⟨?_, ?_, ?_, ?_⟩
  · exact (Below.heap_setCell _ ⟨n + 1, 0, none⟩ _ n (by show n ≠ n + 1; omega)).trans (h1.set u1)
  · exact Boxed.set u2 (v := v2) ((Below.heap_setCell W ⟨n, 0, none⟩ _ (n + 1) (by show n + 1 ≠ n; omega)).trans h2)
  · exact (Below.heap_setCell _ ⟨n + 1, 0, none⟩ _ (n + 6) (by show n + 6 ≠ n + 1; omega)).trans ((Below.heap_setCell W ⟨n, 0, none⟩ _ (n + 6) (by show n + 6 ≠ n; omega)).trans h3)
  · exact (hb.setCell (p := ⟨n, 0, none⟩) (Nat.le_refl _) _).setCell (p := ⟨n + 1, 0, none⟩) (by show n ≤ n + 1; omega) _
set_option maxRecDepth 100000 in
set_option maxHeartbeats 4000000 in
theorem Parse_any (s : ByteArray) (w : World) (hs : s.size ≤ 140737488355328) (hA : Ad w) :
    Calls Tryd.prog 4 #[.string s] w fun e w' => e = .returned (.tuple #[.int .u32 (prs s.data.toList).1, .int .i64 (prs s.data.toList).2]) ∧ Below w.heap.size w w' := by
  refine (callsIn_wide (n := 8)).1 ?_
  refine callsIn_of_wp_marks Tryd.func4 rfl trivial ?_ rfl
  simp only [Tryd.ntmps4, List.size_toArray, List.length_cons, List.length_nil, Nat.reduceAdd, Nat.reduceSub, Array.replicate_succ, Array.replicate_zero, List.push_toArray, List.append_toArray, List.nil_append, List.cons_append]
  have hf9 : Fence.wide.fn 9 := trivial
  have h18 : 1 ≤ 8 := by decide
  gi_wp2_with (gi_at_call 9; refine (callsIn_wide.2 (sseq_any s _)).mono ?_; rintro e w' ⟨rfl, rfl⟩)
  obtain ⟨p0, p1, p2, p3, p4, p5, p6, p7⟩ := prW_is w s
  rw [show ssW (((w.alloc (.cells #[.int .u32 0] 22)).alloc (.cells #[.int .i64 0] 25)).alloc (.cells #[.int .u32 0] 22)) s = prW w s from rfl]
  obtain ⟨W1, hW1⟩ : ∃ W1, W1 = prW w s := ⟨_, rfl⟩
  rw [← hW1] at p0 p1 p2 p3 p4 p5 p6 p7 ⊢
  obtain ⟨n, hn⟩ : ∃ n, n = w.heap.size := ⟨_, rfl⟩
  rw [← hn] at p0 p1 p2 p3 p4 p5 p6 p7 ⊢
  rw [show n + 1 + 1 + 1 + 2 = n + 5 from rfl, show n + 1 + 1 + 1 + 1 = n + 4 from rfl, show n + 1 + 1 + 1 = n + 3 from rfl, show n + 1 + 1 = n + 2 from rfl]
  have HN := Lib.hid hn
  clear hW1 hn
  refine rf_own (gf := 25) (lb := #[.pointer (some ⟨n + 4, 0, none⟩), .pointer (some ⟨n + 3, 0, none⟩), .pointer (some ⟨n + 5, 0, none⟩)]) rfl (enters_of Tryd.func25 (by kernel_rfl) rfl) ?_
  intro fn
  rw [p0]
  dsimp only
  have hLn : n + 6 + 1 = n + 7 := rfl
  rw [hLn]
  generalize hT : lpR fn _ #[10] _ _ (n + 6) = rec
  have hW2 : (lpW W1 (rec .ready none)).heap[n + 7]? = some (.loop (rec .ready none)) := by
    have h := World.alloc_heap_new (W1.alloc (.deferred (some []))) (.loop (rec .ready none))
    rw [World.size_alloc, p0] at h
    exact h
  have hD2 : (lpW W1 (rec .ready none)).heap[n + 6]? = some (.deferred (some [])) := by
    refine (Below.heap_alloc _ _ _ (by rw [World.size_alloc]; omega)).trans ?_
    have h := World.alloc_heap_new W1 (.deferred (some []))
    rw [p0] at h
    exact h
  have hk : ∀ {B : Nat} {t : TypeId} {v : Value}, Boxed W1 B t v → Boxed (lpW W1 (rec .ready none)) B t v := fun h => (h.alloc _).alloc _
  refine (split_in 7 (n + 7) (n + 3) (n + 4) (n + 5) s (PJ w n rec) (PX w n rec) (by decide) hs ?hJ ?hY _ (hk p4) (hk p5) (hk p6) (by omega) (by omega) ?h0).mono ?post
  case hJ =>
    intro pre A B hj hg
    obtain ⟨c, hc, ha⟩ := hj.a
    refine ⟨⟨c, hc, ha.kept hg (by simp)⟩, hj.r.kept hg (by simp), hj.e.kept hg (by simp), ?_, ?_, ?_⟩
    · exact (hg.block _ (Array.getElem?_eq_some_iff.1 hj.l).1 (by simp)).trans hj.l
    · exact (hg.block _ (Array.getElem?_eq_some_iff.1 hj.d).1 (by simp)).trans hj.d
    · exact hj.b.grown hg (by have := (Array.getElem?_eq_some_iff.1 hj.l).1; omega) (fun j e => by cases e; omega)
  case h0 =>
    refine ⟨⟨0, rfl, hk p3⟩, hk p1, hk p2, hW2, hD2, ?_⟩
    exact (p7.alloc (by omega) _).alloc (by rw [World.size_alloc]; omega) _
  case hY =>
    intro pre x W hj hx
    have hl := hj.l
    rw [← hT] at hl
    have hbr : (Instr.beginRound (n + 7)).run Tryd.prog W = .ok () (W.putObj (n + 7) (.loop (rec .busy none))) := by
      have h := run_beginRound (P := Tryd.prog) hl rfl
      rw [← hT]; exact h
    obtain ⟨W2, hW3⟩ : ∃ W2, W2 = W.putObj (n + 7) (.loop (rec .busy none)) := ⟨_, rfl⟩
    rw [← hW3] at hbr
    have hg2 : W.grownBy W2 (some (n + 7)) := by rw [hW3]; exact grownBy_putObj' _ _ _
    have hlt : n + 7 < W.heap.size := (Array.getElem?_eq_some_iff.1 hj.l).1
    have hl2 : W2.heap[n + 7]? = some (.loop (rec .busy none)) := by rw [hW3]; exact World.putObj_heap_same hlt
    have hsz2 : W2.heap.size = W.heap.size := by rw [hW3]; exact World.putObj_size
    have hd2 : W2.heap[n + 6]? = some (.deferred (some [])) := by rw [hW3]; exact (World.putObj_heap_other (by omega)).trans hj.d
    have hb2 : Below n w W2 := hj.b.grown hg2 (by omega) (fun j e => by cases e; omega)
    have hA2 : Ad W2 := hA.kept (by rw [← HN.out]; exact hb2)
    obtain ⟨c, hc, ha⟩ := hj.a
    have a2 := ha.kept hg2 (by simp)
    have r2 := hj.r.kept hg2 (by simp)
    have e2 := hj.e.kept hg2 (by simp)
    have hkc : Kc (n + 3) (n + 4) (n + 5) W W2 := by
      rw [hW3]
      exact ⟨World.putObj_heap_other (by omega), World.putObj_heap_other (by omega), World.putObj_heap_other (by omega)⟩
    have HPU := pu_any x W2 hx hA2
    have hf10 : Fence.wide.fn 10 := trivial
    have h16 : 1 ≤ 7 - 1 := by decide
    have h17 : 1 ≤ 7 - 1 - 1 := by decide
    -- what a world behind the call of ParseUint still has
    have key : ∀ W3, Below W2.heap.size W2 W3 → Boxed W3 (n + 2) 22 (.int .u32 c) ∧ Boxed W3 n 22 (.int .u32 0) ∧ Boxed W3 (n + 1) 25 (.int .i64 0) ∧ W3.heap[n + 7]? = some (.loop (rec .busy none)) ∧ W3.heap[n + 6]? = some (.deferred (some [])) ∧ Below n w W3 ∧ Kc (n + 3) (n + 4) (n + 5) W W3 := by
      intro W3 hb3
      have hh : ∀ k, k ≤ n + 7 → W3.heap[k]? = W2.heap[k]? := fun k hk => hb3.block k (by omega)
      exact ⟨(hh _ (by omega)).trans a2, (hh _ (by omega)).trans r2, (hh _ (by omega)).trans e2, (hh _ (by omega)).trans hl2, (hh _ (by omega)).trans hd2, hb2.trans (hb3.mono (by omega)), ⟨(hh _ (by omega)).trans hkc.s, (hh _ (by omega)).trans hkc.p, (hh _ (by omega)).trans hkc.v⟩⟩
    have hcb := fold_bd _ 0 (by decide) c hc
    have fin : ∀ (jump : Option Code) (X : World), X.heap[n + 7]? = some (.loop (rec .busy none)) → ∃ Y, (Instr.endRound (n + 7) jump).run Tryd.prog X = .ok (.bool jump.isNone) Y ∧ Y.heap[n + 7]? = some (.loop (rec (if jump.isNone then .ready else .done) jump)) ∧ (∀ k, k ≠ n + 7 → Y.heap[k]? = X.heap[k]?) ∧ (Below n w X → Below n w Y) := by
      intro jump X hX
      have h := run_endRound (P := Tryd.prog) jump hX
      have hr : ({ rec .busy none with state := if jump.isNone then .ready else .done, pending := jump } : Loop) = rec (if jump.isNone then .ready else .done) jump := by rw [← hT]; rfl
      rw [hr] at h
      exact ⟨_, h, World.putObj_heap_same (Array.getElem?_eq_some_iff.1 hX).1, fun k hk => World.putObj_heap_other hk, fun hb => hb.grown (grownBy_putObj' _ _ _) (by have := (Array.getElem?_eq_some_iff.1 hX).1; omega) (fun j e => by cases e; omega)⟩
    have FIN := Lib.hid fin
    have HC := Lib.hid hc
    have HTT := Lib.hid hT
    clear fin hc
    refine ⟨_, _, _, _, run_yield hl rfl, roundIn_of_wpIn trivial ?_⟩
    dsimp only [lpR]
    clear hl hj ha a2 r2 e2 hg2 hl2 hd2 hb2 hA2 hkc hW3 p0 p1 p2 p3 p4 p5 p6 p7 hW2 hD2 hk
    cases ho : oct x.data.toList with
    | some u =>
      rw [ho] at HPU
      have hub := oct_bd ho
      have HO := Lib.hid ho
      clear ho
      gi_wp2_with (gi_at_call 10; refine (CallsIn.inRound (n + 7) (callsIn_wide.2 HPU)).mono ?_; rintro e W3 ⟨rfl, hb3⟩; obtain ⟨k1, k2, k3, k4, k5, k6, k7⟩ := key W3 hb3; have q1 := k1.cell; have q2 := k1.frozen)
      obtain ⟨v, hv⟩ : ∃ v, v = bits .or .u32 (c * 256 % 4294967296) (u : Int) := ⟨_, rfl⟩
      rw [← hv]
      have hvv : v = c * 256 % 4294967296 + u := by
        rw [hv]
        have h := or_is c u hcb (by omega)
        rw [IntKind.wrap_u32] at h
        exact h
      have g4 : ∀ k, k ≠ n + 2 → (W3.setCell ⟨n + 2, 0, none⟩ (.int .u32 v)).heap[k]? = W3.heap[k]? := fun k hk => Below.heap_setCell W3 ⟨n + 2, 0, none⟩ _ k hk
      have bx := k1.set (.int .u32 v)
      obtain ⟨Y, y1, y2, y3, y4⟩ := FIN.out none (W3.setCell ⟨n + 2, 0, none⟩ (.int .u32 v)) ((g4 _ (by omega)).trans k4)
      refine ⟨_, Y, y1, .inl ⟨rfl, ⟨⟨v, ?_, (y3 _ (by omega)).trans bx⟩, (y3 _ (by omega)).trans ((g4 _ (by omega)).trans k2), (y3 _ (by omega)).trans ((g4 _ (by omega)).trans k3), y2, (y3 _ (by omega)).trans ((g4 _ (by omega)).trans k5), y4 (k6.setCell (p := ⟨n + 2, 0, none⟩) (by show n ≤ n + 2; omega) _)⟩, ⟨?_, ?_, ?_⟩⟩⟩
      · unfold L_
        rw [List.map_append, List.map_cons, List.map_nil, fold_app]
        rw [show (List.map (·.data.toList) pre) = L_ pre from rfl, HC.out, HO.out]
        show some (c * 256 % 4294967296 + (u : Int)) = some v
        rw [hvv]
      · exact (y3 _ (by omega)).trans ((g4 _ (by omega)).trans k7.s)
      · exact (y3 _ (by omega)).trans ((g4 _ (by omega)).trans k7.p)
      · exact (y3 _ (by omega)).trans ((g4 _ (by omega)).trans k7.v)
    | none =>
      rw [ho] at HPU
      have HO := Lib.hid ho
      clear ho
      gi_wp2_with (gi_at_call 10; refine (CallsIn.inRound (n + 7) (callsIn_wide.2 HPU)).mono ?_; rintro e W3 ⟨⟨x0, N0, rfl⟩, hb3⟩; obtain ⟨k1, k2, k3, k4, k5, k6, k7⟩ := key W3 hb3; have q1 := k2.cell; have q2 := k2.frozen; have q3 := k3.cell; have q4 := k3.frozen)
      obtain ⟨X, hX⟩ : ∃ X, X = (W3.setCell ⟨n, 0, none⟩ (.int .u32 0)).setCell ⟨n + 1, 0, none⟩ (.int .i64 4) := ⟨_, rfl⟩
      rw [← hX]
      have g4 : ∀ k, k ≠ n → k ≠ n + 1 → X.heap[k]? = W3.heap[k]? := fun k hk hk1 => by
        rw [hX]
        exact (Below.heap_setCell _ ⟨n + 1, 0, none⟩ _ k hk1).trans (Below.heap_setCell W3 ⟨n, 0, none⟩ _ k hk)
      have br : Boxed X n 22 (.int .u32 0) := by
        rw [hX]
        exact (Below.heap_setCell _ ⟨n + 1, 0, none⟩ _ n (by show n ≠ n + 1; omega)).trans (k2.set _)
      have be : Boxed X (n + 1) 25 (.int .i64 4) := by
        rw [hX]
        exact Boxed.set _ (v := .int .i64 0) ((Below.heap_setCell W3 ⟨n, 0, none⟩ _ (n + 1) (by show n + 1 ≠ n; omega)).trans k3)
      have bb : Below n w X := by
        rw [hX]
        exact (k6.setCell (p := ⟨n, 0, none⟩) (Nat.le_refl _) _).setCell (p := ⟨n + 1, 0, none⟩) (by show n ≤ n + 1; omega) _
      obtain ⟨Y, y1, y2, y3, y4⟩ := FIN.out (some .ret) X ((g4 _ (by omega) (by omega)).trans k4)
      refine ⟨_, Y, y1, .inr ⟨rfl, ⟨?_, (y3 _ (by omega)).trans br, (y3 _ (by omega)).trans be, y2, (y3 _ (by omega)).trans ((g4 _ (by omega) (by omega)).trans k5), y4 bb⟩⟩⟩
      unfold L_
      rw [List.map_append, List.map_cons, List.map_nil, fold_app]
      rw [show (List.map (·.data.toList) pre) = L_ pre from rfl, HC.out, HO.out]
      rfl
  case post =>
    clear hk hW2 hD2 p0 p1 p2 p3 p4 p5 p6 p7
    rintro e W3 ⟨⟨v, rfl⟩, (⟨xs, hxs, hj⟩ | ⟨pre, ⟨tl, htl⟩, hx⟩)⟩
    · obtain ⟨c, hc, ha⟩ := hj.a
      have hl := hj.l
      rw [← hT] at hl
      have hend := run_endLoop (P := Tryd.prog) hl (fun h => by have h2 : LoopState.ready = LoopState.busy := h; cases h2)
      have hc2 : fold4 (pcs s.data.toList) 0 = some c := by rw [← hxs]; exact hc
      have hlt : n + 7 < W3.heap.size := (Array.getElem?_eq_some_iff.1 hj.l).1
      refine ⟨_, _, hend, ?_⟩
      dsimp only [lpR]
      generalize hW4 : W3.putObj (n + 7) _ = W4
      have hg4 : W3.grownBy W4 (some (n + 7)) := by rw [← hW4]; exact grownBy_putObj' _ _ _
      have hK : W4.heap[n + 6]? = some (.deferred (some [])) := by rw [← hW4]; exact (World.putObj_heap_other (by omega)).trans hj.d
      have a4 := ha.kept hg4 (by simp)
      have r4 := hj.r.kept hg4 (by simp)
      have e4 := hj.e.kept hg4 (by simp)
      have b4 : Below n w W4 := hj.b.grown hg4 (by omega) (fun j e => by cases e; omega)
      have hA4 : Ad W4 := hA.kept (by rw [← HN.out]; exact b4)
      have hcb := fold_bd _ 0 (by decide) c hc
      have HPR := Print_any c W4 hcb hA4
      have a5 := a4.cell
      obtain ⟨P, hP⟩ : ∃ P : ByteArray, P = ⟨(prt c).toArray⟩ := ⟨_, rfl⟩
      rw [← hP] at HPR
      have hlt4 : n + 6 < W4.heap.size := (Array.getElem?_eq_some_iff.1 hK).1
      have key2 : ∀ W5, Below W4.heap.size W4 W5 → Boxed W5 (n + 2) 22 (.int .u32 c) ∧ Boxed W5 n 22 (.int .u32 0) ∧ Boxed W5 (n + 1) 25 (.int .i64 0) ∧ W5.heap[n + 6]? = some (.deferred (some [])) ∧ Below n w W5 := by
        intro W5 hb
        have hh : ∀ k, k ≤ n + 6 → W5.heap[k]? = W4.heap[k]? := fun k hk => hb.block k (by omega)
        exact ⟨(hh _ (by omega)).trans a4, (hh _ (by omega)).trans r4, (hh _ (by omega)).trans e4, (hh _ (by omega)).trans hK, b4.trans (hb.mono (by omega))⟩
      have hf5 : Fence.wide.fn 5 := trivial
      have h81 : 1 ≤ 8 - 1 := by decide
      have HC2 := Lib.hid hc2
      have HP := Lib.hid hP
      simp only [List.append_nil]
      clear hc hc2 hl hend hW4 hg4 hK ha a4 r4 e4 b4 hA4 hj hxs hP hT hlt
      by_cases heq : P.toList = s.toList
      · gi_wp2_with (gi_at_call 5; refine (callsIn_wide.2 HPR).mono ?_; rintro e W5 ⟨rfl, hb5⟩; obtain ⟨k1, k2, k3, k4, k5⟩ := key2 W5 hb5; have q1 := k1.cell; have q2 := k2.cell; have q3 := k2.frozen; have q4 := k3.cell; have q5 := k3.frozen)
        obtain ⟨X, hX⟩ : ∃ X, X = (W5.setCell ⟨n, 0, none⟩ (.int .u32 c)).setCell ⟨n + 1, 0, none⟩ (.int .i64 0) := ⟨_, rfl⟩
        rw [← hX]
        obtain ⟨x1, x2, x3, x4⟩ := two_set k2 k3 k4 k5 (.int .u32 c) (.int .i64 0)
        rw [← hX] at x1 x2 x3 x4
        have x5 : Below n w (X.putObj (n + 6) (.deferred none)) := x4.grown (grownBy_putObj' _ _ _) (by have := (Array.getElem?_eq_some_iff.1 x3).1; omega) (fun j e => by cases e; omega)
        have y1 := (x1.kept (grownBy_putObj' X (n + 6) (.deferred none)) (by simp)).cell
        have y2 := (x2.kept (grownBy_putObj' X (n + 6) (.deferred none)) (by simp)).cell
        refine ⟨by simp, .inl ⟨_, _, rfl, run_takeDeferred x3, ?_⟩⟩
        refine ⟨.tuple #[.int .u32 c, .int .i64 0], by simp [results, Tryd.f4, go_sem, y1, y2], ?_, by rw [← HN.out]; exact x5⟩
        have hps : prt c = s.data.toList := by
          rw [ByteArray.toList_eq, ByteArray.toList_eq, HP.out] at heq
          simpa using heq
        unfold prs
        rw [HC2.out]
        dsimp only
        rw [if_pos hps]
      · have tb : (P.toList == s.toList) = false := by simpa using heq
        have HE := Lib.hid heq
        clear heq
        gi_wp2_with (gi_at_call 5; refine (callsIn_wide.2 HPR).mono ?_; rintro e W5 ⟨rfl, hb5⟩; obtain ⟨k1, k2, k3, k4, k5⟩ := key2 W5 hb5; have q1 := k1.cell; have q2 := k2.cell; have q3 := k2.frozen; have q4 := k3.cell; have q5 := k3.frozen)
        obtain ⟨X, hX⟩ : ∃ X, X = (W5.setCell ⟨n, 0, none⟩ (.int .u32 0)).setCell ⟨n + 1, 0, none⟩ (.int .i64 4) := ⟨_, rfl⟩
        rw [← hX]
        obtain ⟨x1, x2, x3, x4⟩ := two_set k2 k3 k4 k5 (.int .u32 0) (.int .i64 4)
        rw [← hX] at x1 x2 x3 x4
        have x5 : Below n w (X.putObj (n + 6) (.deferred none)) := x4.grown (grownBy_putObj' _ _ _) (by have := (Array.getElem?_eq_some_iff.1 x3).1; omega) (fun j e => by cases e; omega)
        have y1 := (x1.kept (grownBy_putObj' X (n + 6) (.deferred none)) (by simp)).cell
        have y2 := (x2.kept (grownBy_putObj' X (n + 6) (.deferred none)) (by simp)).cell
        refine ⟨by simp, .inl ⟨_, _, rfl, run_takeDeferred x3, ?_⟩⟩
        refine ⟨.tuple #[.int .u32 0, .int .i64 4], by simp [results, Tryd.f4, go_sem, y1, y2], ?_, by rw [← HN.out]; exact x5⟩
        have hps : ¬ prt c = s.data.toList := fun e => HE.out (by rw [ByteArray.toList_eq, ByteArray.toList_eq, HP.out, ← e])
        unfold prs
        rw [HC2.out]
        dsimp only
        rw [if_neg hps]
    · have hl := hx.l
      rw [← hT] at hl
      have hend := run_endLoop (P := Tryd.prog) hl (fun h => by have h2 : LoopState.done = LoopState.busy := h; cases h2)
      have hc2 : fold4 (pcs s.data.toList) 0 = none := by rw [← htl]; exact fold_none _ _ _ hx.a
      refine ⟨_, _, hend, ?_⟩
      dsimp only [lpR]
      generalize hW4 : W3.putObj (n + 7) _ = X
      have hlt : n + 7 < W3.heap.size := (Array.getElem?_eq_some_iff.1 hx.l).1
      have hg4 : W3.grownBy X (some (n + 7)) := by rw [← hW4]; exact grownBy_putObj' _ _ _
      have x3 : X.heap[n + 6]? = some (.deferred (some [])) := by rw [← hW4]; exact (World.putObj_heap_other (by omega)).trans hx.d
      have x1 := hx.r.kept hg4 (by simp)
      have x2 := hx.e.kept hg4 (by simp)
      have x4 : Below n w X := hx.b.grown hg4 (by omega) (fun j e => by cases e; omega)
      have HC2 := Lib.hid hc2
      clear hc2 hl hend hW4 hg4 hx hT hlt htl
      simp only [List.append_nil]
      gi_wp2
      have x5 : Below n w (X.putObj (n + 6) (.deferred none)) := x4.grown (grownBy_putObj' _ _ _) (by have := (Array.getElem?_eq_some_iff.1 x3).1; omega) (fun j e => by cases e; omega)
      have y1 := (x1.kept (grownBy_putObj' X (n + 6) (.deferred none)) (by simp)).cell
      have y2 := (x2.kept (grownBy_putObj' X (n + 6) (.deferred none)) (by simp)).cell
      refine ⟨by simp, .inl ⟨_, _, rfl, run_takeDeferred x3, ?_⟩⟩
      refine ⟨.tuple #[.int .u32 0, .int .i64 4], by simp [results, Tryd.f4, go_sem, y1, y2], ?_, by rw [← HN.out]; exact x5⟩
      unfold prs
      rw [HC2.out]
end Go.Proofs.YtamckbjckgpniaaDoor
