/- The contract of udp's Write. -/
import Derived.Test.YtpjcbjacdkobmaaUdpC
import Derived.Outline
namespace Go.Proofs.Ytpjcbjacdkobmaa
open Go.RowKit Go.Lib
set_option linter.unusedVariables false

def udHead (g : KGram) : List Int := [g.fp / 256, g.fp, g.tp / 256, g.tp, (8 + (g.b.size : Int)) / 256, 8 + (g.b.size : Int), 0, 0]
def udBare (g : KGram) : List Int := udHead g ++ sI g.b
def udN (g : KGram) : Int := udSum g.fa g.ta (byteS (udBare g))
def udL (g : KGram) : List Int := ((udBare g).set 6 (udN g / 256)).set 7 (udN g)
def udS (g : KGram) : ByteArray := byteS (udL g)
theorem udSum_bd (s d : Int) (t : ByteArray) : 0 ≤ udSum s d t ∧ udSum s d t ≤ 65535 := by
  have h1 := sumZ_lo (byteL (pseuL s d 17 (t.size : Int)) ++ t.data.toList)
  have h2 := sumZ_hi (byteL (pseuL s d 17 (t.size : Int)) ++ t.data.toList)
  unfold udSum udX
  split <;> omega
set_option maxRecDepth 100000 in
set_option maxHeartbeats 2000000 in
theorem udWrite_no (g : KGram) (w : World) (ok : GramOk g) (hc : udChk g ≠ 0) :
    Calls Try.prog 12 #[.agg (cGram g).toArray] w fun e w' => e = .returned (.tuple #[.string ⟨#[]⟩, .int .i64 (udChk g)]) ∧ Below w.heap.size w w' := by
  have HC := Lib.hid (fun W => udCheck_any g W ok)
  have hne : ((udChk g : Int) != 0) = true := by simpa using hc
  have hM := Mem.nil w
  go_enter Try.func12, Try.ntmps12
  go_wp2_with (first
    | (go_at_call 14; go_must (refine (HC.out _).mono ?_; rintro e W ⟨rfl, hb⟩; replace hM := hM.kept hb; clear hb))
    | (refine at_box_ ?_; refine wpList_box_mem rfl _ _ rfl _ rfl hM ?_; clear hM; intro gb W hM; first | (simp only [List.nil_append] at hM) | (simp only [List.cons_append, List.nil_append] at hM))
    | (refine at_alloc_ (T := 26) ?_; refine wpList_alloc_mem rfl 26 rfl _ zv_Gram _ rfl hM ?_; clear hM; intro gb W hM; first | (simp only [List.nil_append] at hM) | (simp only [List.cons_append, List.nil_append] at hM))
    | (refine at_load_ (T := 26) ?_; refine wpList_loadg_mem (by go_simp) 26 _ rfl 0 _ _ _ hM rfl rfl _ Try.underlying26 rfl sz_Gram ?_)
    | (refine at_store_ (T := 26) ?_; refine wpList_store_mem rfl 26 _ _ rfl 0 _ _ _ _ hM rfl rfl rfl rfl sz_Gram rfl ?_; clear hM; intro W hM; simp only [List.set_cons_zero] at hM))
  go_ret2
  exact ⟨rfl, hM.b⟩
set_option maxRecDepth 100000 in
set_option maxHeartbeats 4000000 in
theorem udWrite_ok (g : KGram) (w : World) (ok : GramOk g) (hc : udChk g = 0) :
    Calls Try.prog 12 #[.agg (cGram g).toArray] w fun e w' => e = .returned (.tuple #[.string (udS g), .int .i64 0]) ∧ Below w.heap.size w w' := by
  have hck := fun W => udCheck_any g W ok
  rw [hc] at hck
  have HCK := Lib.hid hck
  obtain ⟨⟨f1, f2⟩, ⟨t1, t2⟩, b1⟩ := udChk_ok hc
  obtain ⟨fa1, fa2⟩ := ok.fa
  obtain ⟨ta1, ta2⟩ := ok.ta
  have hM := Mem.nil w
  clear hck hc
  go_enter Try.func12, Try.ntmps12
  go_upto_region 5 with         (first
          | (go_at_call 14; go_must (refine (HCK.out _).mono ?_; rintro e W ⟨rfl, hb⟩; replace hM := hM.kept hb; clear hb))
          | (refine at_box_ ?_; refine wpList_box_mem rfl _ _ rfl _ rfl hM ?_; clear hM; intro gb W hM; first | (simp only [List.nil_append] at hM) | (simp only [List.cons_append, List.nil_append] at hM))
          | (refine at_alloc_ (T := 26) ?_; refine wpList_alloc_mem rfl 26 rfl _ zv_Gram _ rfl hM ?_; clear hM; intro gb W hM; first | (simp only [List.nil_append] at hM) | (simp only [List.cons_append, List.nil_append] at hM))
          | (refine at_load_ (T := 26) ?_; refine wpList_loadg_mem (by go_simp) 26 _ rfl 0 _ _ _ hM rfl rfl _ Try.underlying26 rfl sz_Gram ?_)
          | (refine at_store_ (T := 26) ?_; refine wpList_store_mem rfl 26 _ _ rfl 0 _ _ _ _ hM rfl rfl rfl rfl sz_Gram rfl ?_; clear hM; intro W hM; simp only [List.set_cons_zero] at hM))
  have hc := hM.cells 0 rfl
  simp only [cGram] at hc
  go_wp2_with fail
  clear hc
  refine wp_gen (fun W' => Mem w W' [atR _ 26 (cGram g), atR W.heap.size 3 [.int .i64 g.fp, .int .i64 g.tp, .int .i64 (8 + (g.b.size : Int)), .int .i64 0], ownR w.heap.size (.slice none 0 0) []]) ((hM.atNew 3 [.int .i64 g.fp, .int .i64 g.tp, .int .i64 (8 + (g.b.size : Int)), .int .i64 0]).ownNil w.heap.size) ?_
  clear hM
  intro W1 hM
  generalize W.heap.size = ga at *
  have hsz : g.b.size ≤ 1000 := b1
  go_loopw [25, 5] (fun i v wr => ∃ k : Nat, k ≤ 4 ∧ i = .int .i64 k ∧ Mem w wr [atR gb 26 (cGram g), atR ga 3 [.int .i64 g.fp, .int .i64 g.tp, .int .i64 (8 + (g.b.size : Int)), .int .i64 0], ownR w.heap.size v ((udHead g).take (2 * k))]) (fun i _ _ => 4 - (intOf i).toNat)
  case atStart => exact ⟨0, by omega, rfl, hM⟩
  case round =>
    obtain ⟨k, hk, rfl, hMk⟩ := hrel
    clear hM
    by_cases hlt : k < 4
    · have hcase : k = 0 ∨ k = 1 ∨ k = 2 ∨ k = 3 := by omega
      clear hk hlt
      have hc := hMk.cells 1 rfl
      rcases hcase with rfl | rfl | rfl | rfl
      all_goals
        go_wp2_with fail
        refine (Append16_any w.heap.size _ _ _ _ (hMk.own 2 rfl) (by omega) (by omega) (by simp [udHead]) hMk.b.size).mono ?_
        rintro e W2 ⟨v2, rfl, hV, hO, hat⟩
        have hM2 := hMk.ownPut 2 rfl hV hO hat
        clear hV hO hat hc
        go_wp2_with fail
        go_roundw
        case measure => simp [intOf]
      case rel => exact ⟨1, by omega, by go_num, hM2⟩
      case rel => exact ⟨2, by omega, by go_num, hM2⟩
      case rel => exact ⟨3, by omega, by go_num, hM2⟩
      case rel => exact ⟨4, by omega, by go_num, hM2⟩
    · obtain rfl : k = 4 := by omega
      clear hk hlt
      have hM : Mem w wr [atR gb 26 (cGram g), atR ga 3 [.int .i64 g.fp, .int .i64 g.tp, .int .i64 (8 + (g.b.size : Int)), .int .i64 0], ownR w.heap.size u5 (udHead g)] := hMk
      clear hMk
      have hc := hM.cells 0 rfl
      simp only [cGram] at hc
      have hV := hM.own 2 rfl
      have hgb := hM.lt 0 rfl
      go_wp2_with (refine wpList_append_str rfl _ _ rfl w.heap.size _ (udHead g) rfl hV g.b rfl ?hb hM.b.size ?_)
      case hb => simp [udHead]; omega
      intro v6 W6 hV6 hO6 hat6
      replace hM := hM.ownPut 2 rfl hV6 hO6 hat6
      clear hV6 hO6 hat6 hV hc hgb
      simp only [List.set_cons_succ, List.set_cons_zero] at hM
      rw [show udHead g ++ sI g.b = udBare g from rfl] at hM
      have hlb : (udBare g).length = 8 + g.b.size := by simp [udBare, udHead, sI_len]; omega
      obtain ⟨gs, off, cap, rfl, hW⟩ := (hM.own 2 rfl).pos (by omega)
      rw [hlb] at hW
      have hcap := hW.le
      have hmx := hW.mx
      unfold maxLen at hmx
      have hgl := hW.lt
      have hcv : ∀ u : Later W6, (convert 79 9 (.slice (some ⟨gs, off, none⟩) (8 + g.b.size) cap)).run Try.prog u.now = .ok (.string (byteS (udBare g))) u.now := by
        intro u
        have hWu := hW.move (Nat.lt_of_lt_of_le hgl u.still.size) (u.still.block gs hgl)
        rw [← hlb] at hWu
        have hback := run_convert_bytes_back (P := Try.prog) u.now 79 9 5 ⟨gs, off, none⟩ cap (byteL (udBare g)) Try.underlying79 Try.underlying5 Try.underlying9 (own_back hWu)
        rw [byteL_len, hlb] at hback
        exact hback
      have hsc := fun (u : Later W6) => udcheck_any g.fa g.ta (byteS (udBare g)) u.now fa1 fa2 ta1 ta2 (by rw [byteS_sz, hlb]; omega)
      have hsum : udSum g.fa g.ta (byteS (udBare g)) = udN g := rfl
      rw [hsum] at hsc
      have hsb : 0 ≤ udN g ∧ udN g ≤ 65535 := udSum_bd _ _ _
      obtain ⟨hsb1, hsb2⟩ := hsb
      have hhd : ((udBare g).set 6 (udN g / 256)).set 7 (udN g) = udL g := rfl
      have hput := fun (W : World) (h : WinAt W w.heap.size 1 gs off cap (8 + g.b.size) ((udBare g).map b8)) => Put16_win w.heap.size gs off cap (8 + g.b.size) 6 (udBare g) (udN g) W h hlb (by omega) hsb1 hsb2
      rw [hhd] at hput
      have hM' : Mem w W6 [atR gb 26 (cGram g), atR ga 3 [.int .i64 g.fp, .int .i64 g.tp, .int .i64 (8 + (g.b.size : Int)), .int .i64 0], ownR w.heap.size (.slice (some ⟨gs, off, none⟩) (8 + g.b.size) cap) (udBare g)] := by rw [← hlb]; exact hM
      rw [hlb]
      clear hM
      have HW := Lib.hid hW
      have hc := hM'.cells 0 rfl
      simp only [cGram] at hc
      have hgb := hM'.lt 0 rfl
      have HM := Lib.hid hM'
      have HLB := Lib.hid hlb
      (generalize byteS (udBare g) = S9 at hcv hsc)
      (generalize udN g = sm at hsc hput hsb1 hsb2)
      have HSC := Lib.hid hsc
      have HPUT := Lib.hid hput
      clear hsc hput hsum hhd hlb hM' hW hcap
      have k1 : (6 : Int) < (cap : Int) := by have := HW.out.le; omega
      have k4 : ¬ cap = 6 := by omega
      have k5 : 6 ≤ cap := by omega
      have k6 : 6 ≤ 8 + g.b.size := by omega
      have k7 : (6 : Int) ≤ ((8 + g.b.size : Nat) : Int) := by omega
      go_upto_region 11 with (fail)
      refine wp_region_later_tail 11 (by kernel_rfl) (by kernel_rfl) (fun hlc => ?_)
      simp only [List.take_succ_cons, List.take_zero, List.drop_succ_cons, List.drop_zero]
      repeat (go_big_quiet_step ((go_at_call 37; exact later_call (HSC.out _))))
      refine wpQuiet_nil ?_
      intro wq hbq
      clear hlc hcv hc hgb
      have hWq := HW.out.move (Nat.lt_of_lt_of_le hgl hbq.size) (hbq.block gs hgl)
      have hMq := HM.out.kept hbq
      go_wp2_with fail
      refine (HPUT.out _ hWq).mono ?_
      rintro e w4 ⟨rfl, hW4, hO4⟩
      have hM4 := hMq.ownSet 2 rfl HLB.out (by simp [udL]; exact HLB.out) hW4 hO4
      have hhl : (udL g).length = 8 + g.b.size := by simp [udL]; exact HLB.out
      have hback := run_convert_bytes_back (P := Try.prog) w4 79 9 5 ⟨gs, off, none⟩ cap (byteL (udL g)) Try.underlying79 Try.underlying5 Try.underlying9 (own_back (by rw [hhl]; exact hW4))
      rw [byteL_len, hhl, show (⟨(byteL (udL g)).toArray⟩ : ByteArray) = udS g from rfl] at hback
      have hb4 := hM4.b
      clear hM4 hMq hWq hW4 hhl hO4 hbq
      go_wp2_with fail
      go_ret2
      exact ⟨rfl, hb4⟩
end Go.Proofs.Ytpjcbjacdkobmaa
