/- addr.Parse. -/
import Derived.Test.YtamckbjckgpniaaDoorAdS
import Derived.Test.YtamckbjckgpniaaDoorBits
namespace Go.Proofs.YtamckbjckgpniaaDoor
open Go.RowKit Go.Lib Go.Shelf
set_option linter.unusedVariables false
set_option linter.unusedSimpArgs false
attribute [local go_sem] Oper.semAt_some

/-- the blocks that SplitSeq lays -/
def ssW (W : World) (s : ByteArray) : World := ((W.alloc (.cells #[.string s] 9)).alloc (.cells #[.string dotS] 9)).alloc (.cells #[.int .i64 0] 3)
set_option maxRecDepth 100000 in
theorem sseq_any (s : ByteArray) (w : World) :
    Calls Tryd.prog 9 #[.string s, .string dotS] w fun e w' =>
      e = .returned (.func (.func 25) #[] #[.pointer (some ⟨w.heap.size + 1, 0, none⟩), .pointer (some ⟨w.heap.size, 0, none⟩), .pointer (some ⟨w.heap.size + 2, 0, none⟩)]) ∧ w' = ssW w s := by
  go_enter Tryd.func9, Tryd.ntmps9
  go_wp2
  go_ret
  exact ⟨rfl, rfl⟩
/-- a loop's record -/
def lpR (fn : FuncId) (tmps : Array Value) (ps : Array Tmp) (assign body : Code) (D : Nat) (st : LoopState) (pe : Option Code) : Loop := { state := st, pending := pe, fn, tmps, params := ps, assign, body, defers := D }
def lpW (W : World) (r : Loop) : World := (W.alloc (.deferred (some []))).alloc (.loop r)
theorem enter_wide {P : Program} {W : World} (fn : FuncId) (tmps : Array Value) (ps : Array Tmp) (assign body : Code) :
    (Instr.enterLoop fn tmps ps assign body Fence.wide.round).run P W = .ok (W.heap.size + 1, [{ target := .collected W.heap.size, args := #[] }]) (lpW W (lpR fn tmps ps assign body W.heap.size .ready none)) := run_enterLoop_outer _ _ _ _ _
theorem resolve_is {P : Program} {a : Act} {g : Operand} {l gf : Nat} {lb : Array Value} {W : World} (hg : a.eval g = .func (.func gf) #[] lb) :
    (resolve a.eval (rangeCall g l) 0).run P W = .ok { target := .fn (.func gf) lb, args := #[.func (.yield l) #[] #[]] } W := by
  simp only [resolve, hg]
  simp [go_sem]
theorem invoke_is {P : Program} {l gf : Nat} {lb : Array Value} {W : World} (eg : ∀ args w, (callFunc gf args).run P w = .ok (.enter gf args) w) :
    (invoke (.fn (.func gf) lb) #[.func (.yield l) #[] #[]]).run P W = .ok (.enter gf (#[.func (.yield l) #[] #[]] ++ lb)) W := by
  simp [invoke, go_sem, eg]
/-- a range over a function: the one call -/
theorem rf_own {P : Program} {g : Operand} {ps : Array Tmp} {assign body : Code} {Q : Exit → Act → World → Prop} {a : Act} {W : World} {n gf : Nat} {lb : Array Value} (hg : a.eval g = .func (.func gf) #[] lb) (eg : ∀ args w, (callFunc gf args).run P w = .ok (.enter gf args) w)
    (h : ∀ fn, CallsIn Fence.wide (n - 1) P gf (#[.func (.yield (W.heap.size + 1)) #[] #[]] ++ lb) (lpW W (lpR fn a.tmps ps assign body W.heap.size .ready none))
      (rangePost Fence.wide n P (W.heap.size + 1) Q { a with defers := [{ target := .collected W.heap.size, args := #[] }] ++ a.defers })) :
    (Code.rangeFunc g ps assign body).wpIn Fence.wide n P Q a W := by
  refine wpIn_rangeFunc fun fn _ => ?_
  exact ⟨_, _, _, _, _, gf, _, _, enter_wide fn a.tmps ps assign body, resolve_is hg, fun _ _ => trivial, invoke_is eg, (fun h => by cases h), h fn⟩
def L_ (pre : List ByteArray) : List (List UInt8) := pre.map (·.data.toList)
/-- between two rounds -/
structure PJ (w : World) (n : Nat) (rec : LoopState → Option Code → Loop) (pre : List ByteArray) (W : World) : Prop where
  a : ∃ c, fold4 (L_ pre) 0 = some c ∧ Boxed W (n + 2) 22 (.int .u32 c)
  r : Boxed W n 22 (.int .u32 0)
  e : Boxed W (n + 1) 25 (.int .i64 0)
  l : W.heap[n + 7]? = some (.loop (rec .ready none))
  d : W.heap[n + 6]? = some (.deferred (some []))
  b : Below n w W
/-- a round has left -/
structure PX (w : World) (n : Nat) (rec : LoopState → Option Code → Loop) (pre : List ByteArray) (W : World) : Prop where
  a : fold4 (L_ pre) 0 = none
  r : Boxed W n 22 (.int .u32 0)
  e : Boxed W (n + 1) 25 (.int .i64 4)
  l : W.heap[n + 7]? = some (.loop (rec .done (some .ret)))
  d : W.heap[n + 6]? = some (.deferred (some []))
  b : Below n w W
theorem fold_app : ∀ (ps : List (List UInt8)) (p : List UInt8) (a : Int), fold4 (ps ++ [p]) a = (fold4 ps a).bind fun c => (oct p).map fun k => (c * 256) % 4294967296 + k
  | [], p, a => by
    show fold4 [p] a = _
    unfold fold4
    cases oct p with
    | none => rfl
    | some k => rfl
  | q :: ps, p, a => by
    rw [List.cons_append]
    unfold fold4
    cases oct q with
    | none => rfl
    | some k => exact fold_app ps p _
theorem fold_none : ∀ (ps tl : List (List UInt8)) (a : Int), fold4 ps a = none → fold4 (ps ++ tl) a = none
  | [], tl, a, h => by unfold fold4 at h; cases h
  | q :: ps, tl, a, h => by
    rw [List.cons_append]
    unfold fold4 at h ⊢
    cases ho : oct q with
    | none => rfl
    | some k => rw [ho] at h; exact fold_none ps tl _ h
theorem or_is (c k : Int) (hc : 0 ≤ c ∧ c ≤ 4294967295) (hk : 0 ≤ k ∧ k ≤ 255) : bits .or .u32 (IntKind.u32.wrap (c * 256)) k = c * 256 % 4294967296 + k := by
  rw [IntKind.wrap_u32]
  have e : c * 256 % 4294967296 = (c % 16777216) * 256 := by omega
  rw [e]
  obtain ⟨A, hA⟩ := Int.eq_ofNat_of_zero_le (show 0 ≤ c % 16777216 by omega)
  obtain ⟨B, rfl⟩ := Int.eq_ofNat_of_zero_le hk.1
  rw [hA, show ((A : Int) * 256) = ((A * 2 ^ 8 : Nat) : Int) by omega, u32_or_nat _ B (by omega) (by omega), nat_or_parts A B 8 (by omega)]
  omega
end Go.Proofs.YtamckbjckgpniaaDoor
