/- Contracts of tcp's check and flags. -/
import Derived.Test.YtpjcbjacdkobmaaTcpC
namespace Go.Proofs.Ytpjcbjacdkobmaa
open Go.RowKit
set_option linter.unusedVariables false

/-- the sum of a segment's bytes -/
def tcX (s d : Int) (t : ByteArray) : Int := sumZ (byteL (pseuL s d 6 (t.size : Int)) ++ t.data.toList)
def tcSum (s d : Int) (t : ByteArray) : Int := 65535 - tcX s d t
set_option maxRecDepth 100000 in
set_option maxHeartbeats 2000000 in
theorem tccheck_any (s d : Int) (t : ByteArray) (w : World) (hs : 0 ≤ s) (hs' : s ≤ 4294967295) (hd : 0 ≤ d) (hd' : d ≤ 4294967295) (ht : t.size ≤ 140737488354000) :
    Calls Try.prog 46 #[.int .u32 s, .int .u32 d, .string t] w fun e w' => e = .returned (.int .u16 (tcSum s d t)) ∧ Below w.heap.size w w' := by
  have hps := fun W => Pseudo_any s d 6 (t.size : Int) W hs hs' hd hd' (by omega) (by omega) (by omega) (by omega)
  have hl : (byteS (pseuL s d 6 (t.size : Int))).size = 12 := by rw [byteS_sz]; rfl
  have hadd := fun W => run_string_add_sum (P := Try.prog) (w := W) (byteS (pseuL s d 6 (t.size : Int))) t (by omega)
  have hck := fun W => Check16_any (byteS (pseuL s d 6 (t.size : Int)) ++ t) W (by rw [ByteArray.size_append]; omega)
  have e1 : (byteS (pseuL s d 6 (t.size : Int)) ++ t).data.toList = byteL (pseuL s d 6 (t.size : Int)) ++ t.data.toList := by rw [ByteArray.data_append, Array.toList_append]; rfl
  have e2 : 65535 - sumZ (byteL (pseuL s d 6 (t.size : Int)) ++ t.data.toList) = tcSum s d t := rfl
  rw [e1, e2] at hck
  clear e1 e2 hl
  generalize byteS (pseuL s d 6 (t.size : Int)) = S at *
  have HP := Lib.hid hps
  have HC := Lib.hid hck
  clear hps hck
  have hM := Mem.nil w
  go_enter Try.func46, Try.ntmps46
  go_wp2_with (first
    | (go_at_call 61; go_must (refine (HP.out _).mono ?_; rintro e W ⟨rfl, hb⟩; replace hM := hM.kept hb; clear hb))
    | (go_at_call 41; go_must (refine (HC.out _).mono ?_; rintro e W ⟨rfl, hb⟩; replace hM := hM.kept hb; clear hb))
    | (refine at_box_ ?_; refine wpList_box_mem rfl _ _ rfl _ rfl hM ?_; clear hM; intro gb W hM; first | (simp only [List.nil_append] at hM) | (simp only [List.cons_append, List.nil_append] at hM)))
  go_ret
  exact ⟨rfl, hM.b⟩
def zb (b : Bool) (n : Int) : Int := if b then n else 0
def tcFl (g : KSeg) : Int := zb g.fin 1 + zb g.syn 2 + zb g.rst 4 + zb g.has 16
def flAt (g : KSeg) : Nat → Int
  | 0 => 0
  | 1 => zb g.fin 1
  | 2 => zb g.fin 1 + zb g.syn 2
  | 3 => zb g.fin 1 + zb g.syn 2 + zb g.rst 4
  | _ => tcFl g
def flL (g : KSeg) : List Value := [.bool g.fin, .int .u8 1, .bool g.syn, .int .u8 2, .bool g.rst, .int .u8 4, .bool g.has, .int .u8 16]
def zFlagB : List Value := [.bool false, .int .u8 0]
theorem sz_FlagB : (Try.prog.info? 122).map (·.size) = some 2 := by kernel_rfl
theorem zv_FlagB : ∀ W : World, (zeroValue 122).run Try.prog W = .ok (.agg zFlagB.toArray) W := fun _ => by kernel_rfl
theorem fl0 : bits .or .u8 0 1 = 1 := by kernel_rfl
theorem fl1 (a : Bool) : bits .or .u8 (zb a 1) 2 = zb a 1 + 2 := by cases a <;> kernel_rfl
theorem fl2 (a b : Bool) : bits .or .u8 (zb a 1 + zb b 2) 4 = zb a 1 + zb b 2 + 4 := by cases a <;> cases b <;> kernel_rfl
theorem fl3 (a b c : Bool) : bits .or .u8 (zb a 1 + zb b 2 + zb c 4) 16 = zb a 1 + zb b 2 + zb c 4 + 16 := by cases a <;> cases b <;> cases c <;> kernel_rfl
set_option maxRecDepth 100000 in
set_option maxHeartbeats 4000000 in
theorem tcflags_any (g : KSeg) (w : World) :
    Calls Try.prog 45 #[.agg (cSeg g).toArray] w fun e w' => e = .returned (.int .u8 (tcFl g)) ∧ Below w.heap.size w w' := by
  have hM := Mem.nil w
  go_enter Try.func45, Try.ntmps45
  go_upto_region 2 with         (first
          | (refine at_box_ ?_; refine wpList_box_mem rfl _ _ rfl _ rfl hM ?_; clear hM; intro gb W hM; first | (simp only [List.nil_append] at hM) | (simp only [List.cons_append, List.nil_append] at hM)))
  have hc := hM.cells 0 rfl
  simp only [cSeg] at hc
  go_wp2_with fail
  clear hc
  refine wp_gen (fun W' => Mem w W' [atR _ 47 (cSeg g), atR W.heap.size 122 (flL g)]) (hM.atNew _ (flL g)) ?_
  clear hM
  intro W1 hM
  generalize W.heap.size = ga at *
  go_loopw [20, 3] (fun i f wr => ∃ k : Nat, k ≤ 4 ∧ i = .int .i64 k ∧ f = .int .u8 (flAt g k) ∧ Mem w wr [atR gb 47 (cSeg g), atR ga 122 (flL g)]) (fun i _ _ => 4 - (intOf i).toNat)
  case atStart => exact ⟨0, by omega, rfl, rfl, hM⟩
  case round =>
    obtain ⟨k, hk, rfl, rfl, hMk⟩ := hrel
    clear hM
    have hM := hMk
    clear hMk
    by_cases hlt : k < 4
    · have hcase : k = 0 ∨ k = 1 ∨ k = 2 ∨ k = 3 := by omega
      clear hk hlt
      have hA := (hM.at_ 1 rfl).cell
      have hr0 : wr.rangeAt ga 0 [.bool g.fin, .int .u8 1] := fun j u hj => by
        match j, hj with
        | 0, hj => cases hj; exact hA 0
        | 1, hj => cases hj; exact hA 1
      have hr1 : wr.rangeAt ga 2 [.bool g.syn, .int .u8 2] := fun j u hj => by
        match j, hj with
        | 0, hj => cases hj; exact hA 2
        | 1, hj => cases hj; exact hA 3
      have hr2 : wr.rangeAt ga 4 [.bool g.rst, .int .u8 4] := fun j u hj => by
        match j, hj with
        | 0, hj => cases hj; exact hA 4
        | 1, hj => cases hj; exact hA 5
      have hr3 : wr.rangeAt ga 6 [.bool g.has, .int .u8 16] := fun j u hj => by
        match j, hj with
        | 0, hj => cases hj; exact hA 6
        | 1, hj => cases hj; exact hA 7
      have R0 := Lib.hid hr0
      have R1 := Lib.hid hr1
      have R2 := Lib.hid hr2
      have R3 := Lib.hid hr3
      clear hA hr0 hr1 hr2 hr3
      rcases hcase with rfl | rfl | rfl | rfl
      · have hl := fl0
        have hfk : flAt g 0 = 0 := rfl
        rw [hfk]
        cases hb : g.fin
        all_goals
          rw [hb] at R0
          go_wp2_with (first | (refine at_load_ (T := 122) ?_; refine wpList_load_mid rfl 122 _ rfl ga 0 rfl _ _ R0.out Try.underlying122 rfl sz_FlagB ?_) | (refine at_alloc_ (T := 122) ?_; refine wpList_alloc_mem rfl 122 rfl _ zv_FlagB _ rfl hM ?_; clear hM; intro gx W hM; simp only [List.cons_append, List.nil_append] at hM) | (refine at_store_ (T := 122) ?_; refine wpList_store_mem rfl 122 _ _ rfl 2 _ _ _ _ hM rfl rfl rfl rfl sz_FlagB rfl ?_; clear hM; intro W hM; simp only [List.set_cons_succ, List.set_cons_zero] at hM; have hc := hM.cells 2 rfl))
          clear hc
          go_roundw
          case rel => exact ⟨1, by omega, by go_num, by first | rfl | (rw [hl]; simp [flAt, zb, hb]) | (simp [flAt, zb, hb]), hM.take_ 2⟩
          case measure => simp [intOf]
      · have hl := fl1 g.fin
        have hfk : flAt g 1 = zb g.fin 1 := rfl
        rw [hfk]
        cases hb : g.syn
        all_goals
          rw [hb] at R1
          go_wp2_with (first | (refine at_load_ (T := 122) ?_; refine wpList_load_mid rfl 122 _ rfl ga 2 rfl _ _ R1.out Try.underlying122 rfl sz_FlagB ?_) | (refine at_alloc_ (T := 122) ?_; refine wpList_alloc_mem rfl 122 rfl _ zv_FlagB _ rfl hM ?_; clear hM; intro gx W hM; simp only [List.cons_append, List.nil_append] at hM) | (refine at_store_ (T := 122) ?_; refine wpList_store_mem rfl 122 _ _ rfl 2 _ _ _ _ hM rfl rfl rfl rfl sz_FlagB rfl ?_; clear hM; intro W hM; simp only [List.set_cons_succ, List.set_cons_zero] at hM; have hc := hM.cells 2 rfl))
          clear hc
          go_roundw
          case rel => exact ⟨2, by omega, by go_num, by first | rfl | (rw [hl]; simp [flAt, zb, hb]) | (simp [flAt, zb, hb]), hM.take_ 2⟩
          case measure => simp [intOf]
      · have hl := fl2 g.fin g.syn
        have hfk : flAt g 2 = zb g.fin 1 + zb g.syn 2 := rfl
        rw [hfk]
        cases hb : g.rst
        all_goals
          rw [hb] at R2
          go_wp2_with (first | (refine at_load_ (T := 122) ?_; refine wpList_load_mid rfl 122 _ rfl ga 4 rfl _ _ R2.out Try.underlying122 rfl sz_FlagB ?_) | (refine at_alloc_ (T := 122) ?_; refine wpList_alloc_mem rfl 122 rfl _ zv_FlagB _ rfl hM ?_; clear hM; intro gx W hM; simp only [List.cons_append, List.nil_append] at hM) | (refine at_store_ (T := 122) ?_; refine wpList_store_mem rfl 122 _ _ rfl 2 _ _ _ _ hM rfl rfl rfl rfl sz_FlagB rfl ?_; clear hM; intro W hM; simp only [List.set_cons_succ, List.set_cons_zero] at hM; have hc := hM.cells 2 rfl))
          clear hc
          go_roundw
          case rel => exact ⟨3, by omega, by go_num, by first | rfl | (rw [hl]; simp [flAt, zb, hb]) | (simp [flAt, zb, hb]), hM.take_ 2⟩
          case measure => simp [intOf]
      · have hl := fl3 g.fin g.syn g.rst
        have hfk : flAt g 3 = zb g.fin 1 + zb g.syn 2 + zb g.rst 4 := rfl
        rw [hfk]
        cases hb : g.has
        all_goals
          rw [hb] at R3
          go_wp2_with (first | (refine at_load_ (T := 122) ?_; refine wpList_load_mid rfl 122 _ rfl ga 6 rfl _ _ R3.out Try.underlying122 rfl sz_FlagB ?_) | (refine at_alloc_ (T := 122) ?_; refine wpList_alloc_mem rfl 122 rfl _ zv_FlagB _ rfl hM ?_; clear hM; intro gx W hM; simp only [List.cons_append, List.nil_append] at hM) | (refine at_store_ (T := 122) ?_; refine wpList_store_mem rfl 122 _ _ rfl 2 _ _ _ _ hM rfl rfl rfl rfl sz_FlagB rfl ?_; clear hM; intro W hM; simp only [List.set_cons_succ, List.set_cons_zero] at hM; have hc := hM.cells 2 rfl))
          clear hc
          go_roundw
          case rel => exact ⟨4, by omega, by go_num, by first | rfl | (rw [hl]; simp [flAt, tcFl, zb, hb]) | (simp [flAt, tcFl, zb, hb]), hM.take_ 2⟩
          case measure => simp [intOf]
    · obtain rfl : k = 4 := by omega
      clear hk hlt
      go_wp2_with fail
      go_ret
      exact ⟨rfl, hM.b⟩
end Go.Proofs.Ytpjcbjacdkobmaa
