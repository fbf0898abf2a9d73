/- The walk of PollFair: it returns true. Written by my genpfr.py. -/
import Derived.Test.YtgdfjkdcdfmifaaPolF
import Derived.Test.YtgdfjkdcdfmifaaRest
import Derived.Test.YtgdfjkdcdfmifaaKit
import Derived.Test.YtgdfjkdcdfmifaaTy
import Derived.Deep.CutBlock
namespace Go.Proofs.Ytgdfjkdcdfmifaa
open Go.RowKit Go.Lib
set_option linter.unusedVariables false
set_option linter.unusedSimpArgs false

def zWake : List Value := [.int .i64 0, .int .i64 0]
theorem sz_Wake : (Try.prog.info? 78).map (·.size) = some 2 := by kernel_rfl
theorem zv_Wake : ∀ W : World, (zeroValue 78).run Try.prog W = .ok (.agg zWake.toArray) W := fun _ => by kernel_rfl
theorem mapTy_fair : MapTy Try.prog 72 3 3 fInt fInt := ⟨keyed_int, Try.underlying72, fun h => fInt_inj h⟩
theorem last_front {E : Nat → Prop} {w W : World} {l : List Res} {A : Res} (h : MemX E w W (l ++ [A])) : MemX E w W (A :: l) := h.perm (swap_perm l [A])
theorem wpList_len_m0 {E : Nat → Prop} {P : Program} {ops : Array Oper} {rest : List Oper} {op : Oper} {a : Act} {w0 w : World} {Q : Exit → Act → World → Prop} {l : List Res} {t kt et : TypeId} {κ ν : Type} [DecidableEq κ] {fk : κ → Value} {fv : ν → Value} {g : Nat} {m : List (κ × ν)} (hgd : Region.wanted op (yielded ops a.tmps) = true) (x : Operand) (ho : op.op = .call { callee := .builtin .len, args := #[x], argTypes := #[t] }) (ht : P.underlying t = some (.map kt et)) (i : Nat) (hM : MemX E w0 w l) (hi : l[i]? = some (mapR P kt fk fv g m)) (hx : a.eval x = .map (some g))
    (h : wpList P ops Q rest (a.put op.dst (.int .i64 m.length)) w) : wpList P ops Q (op :: rest) a w :=
  wpList_step fun K hK => by
    rw [if_pos hgd]
    unfold Oper.wp execOp
    simp only [ho, resolve, invoke, builtin, Sem.run_bind, Sem.run_pure, Result.andThen_ok, List.map_toArray, List.map_cons, List.map_nil, hx, run_len_m ht (hM.map_ i hi)]
    exact hK _ _ h
theorem at_entry_ {P : Program} {ops : Array Oper} {rest : List Oper} {a : Act} {w : World} {Q : Exit → Act → World → Prop} {d : Option Tmp} {ty : TypeId} {x : Operand} {ps : String} {af : Array Edge} {g : Option (Nat × Bool)} (h : wpList P ops Q ({ dst := d, op := .entry x, type := ty, pos := ps, after := af, guard := g } :: rest) a w) : wpList P ops Q ({ dst := d, op := .entry x, type := ty, pos := ps, after := af, guard := g } :: rest) a w := h
theorem at_next_ {P : Program} {ops : Array Oper} {rest : List Oper} {a : Act} {w : World} {Q : Exit → Act → World → Prop} {d : Option Tmp} {ty : TypeId} {x : Operand} {b : Bool} {ps : String} {af : Array Edge} {g : Option (Nat × Bool)} (h : wpList P ops Q ({ dst := d, op := .next x b, type := ty, pos := ps, after := af, guard := g } :: rest) a w) : wpList P ops Q ({ dst := d, op := .next x b, type := ty, pos := ps, after := af, guard := g } :: rest) a w := h
theorem at_range_ {P : Program} {ops : Array Oper} {rest : List Oper} {a : Act} {w : World} {Q : Exit → Act → World → Prop} {d : Option Tmp} {ty T : TypeId} {x : Operand} {ps : String} {af : Array Edge} {g : Option (Nat × Bool)} (h : wpList P ops Q ({ dst := d, op := .range T x, type := ty, pos := ps, after := af, guard := g } :: rest) a w) : wpList P ops Q ({ dst := d, op := .range T x, type := ty, pos := ps, after := af, guard := g } :: rest) a w := h
set_option maxRecDepth 100000 in
set_option maxHeartbeats 16000000 in
theorem w_PollFair (A0 : Option Addr) (n0 c0 : Nat) (css0 : Nat → List Value) (a1 : Int) (w : World) (hR0 : Rows_ w A0 n0 [.int .i64] css0) (hl0 : n0 ≤ 140737488351232) (ha1 : -9223372036854775808 ≤ a1) (ha1' : a1 ≤ 9223372036854775807) :
    Calls Try.prog 11 #[.slice A0 n0 c0, .int .i64 a1] w fun e w' => e = .returned (.bool true) ∧ Below w.heap.size w w' := by
  have hM := Mem.nil w
  go_enter Try.func11, Try.ntmps11
  go_wp2_with fail
  refine (newpoll_any _).mono ?_
  rintro e W1 ⟨g, rfl, hM⟩
  replace hM := pl_start hM
  dsimp only
  have HS := Lib.hid (fun W h => Set_any g (.slice none 0 0) [] (-1) 0 false W h pinv_nil)
  have HS0 := Lib.hid (fun (W : World) h => (HS.out W h).mono (fun e w' (h2 : ∃ n v' ws', e = .returned (.int .i64 n) ∧ PlPre W w' g (.slice none 0 0) [] v' ws' ∧ SetRel [] (-1) 0 false n ws') => (show e = .returned (.int .i64 1) ∧ ∃ v', PlPre W w' g (.slice none 0 0) [] v' [] from by
    obtain ⟨n, v', ws', rfl, h3, h4⟩ := h2
    rcases h4 with ⟨rfl, _, rfl⟩ | ⟨_, hf, _⟩
    · exact ⟨rfl, v', h3⟩
    · omega)))
  clear HS
  go_upto_region 4 with (first | (go_at_call 41; refine (HS0.out _ (pl_hand hM)).mono ?_; rintro x W ⟨rfl, v1, hM6⟩; replace hM := pl_put hM hM6; clear hM6; dsimp only))
  clear HS0
  go_upto_region 5 with (first | ((with_reducible refine at_makeMap_ ?_); refine wpList_makeMap_m rfl rfl Try.prog 3 fInt fInt (pl_end hM) ?_; clear hM; intro gm W hM))
  replace hM := last_front hM
  go_wp2_with fail
  go_loopg [30] n0 (fun gh i wr => ∃ (k : Nat) (ws : List KW) (v : Value) (m : List (Int × Int)), gh = n0 - k ∧ k ≤ n0 ∧ i = .int .i64 k ∧ Mem w wr (mapR Try.prog 3 fInt fInt gm m :: pollL g v ws) ∧ Hid (PInv ws) ∧ Hid (∀ x ∈ ws, fairW x) ∧ Hid (Cnt m ws (fun _ => 0)))
  case atStart => exact ⟨0, [], _, [], by omega, by omega, rfl, hM, Lib.hid pinv_nil, Lib.hid (by simp), Lib.hid ⟨List.Pairwise.nil, rfl, by simp, by simp⟩⟩
  case round =>
    clear hM
    obtain ⟨k, ws, v, m, hgk, hk, rfl, hM, HI, HF, HC⟩ := hrel
    have HGK := Lib.hid hgk
    clear hgk
    by_cases hlt : k < n0
    · obtain ⟨b, off, hA, hrg⟩ := hR0.at_ k hlt
      subst hA
      have hokx := hR0.ok k hlt
      obtain ⟨n, hcs, hn1, hn2⟩ := one_int hokx
      have hcell : wr.cell? ⟨b, off + k, none⟩ = some (.int .i64 n) := by
        have := range_kept hrg hM.b 0 (.int .i64 n) (by rw [hcs]; rfl)
        simpa using this
      have HRS := Lib.hid (fun W => Rest_any n 16 W (by omega) (by omega) (by omega) (by omega))
      have hfr : 0 ≤ n % 16 ∧ n % 16 < 16 := by omega
      clear hcs hrg hokx
      generalize n % 16 = fk at HRS hfr
      have HFR := Lib.hid hfr
      clear hfr
      go_upto_region 9 with (first | (go_at_call 16; refine (calls_b (HRS.out _)).mono ?_; rintro e W ⟨rfl, hb⟩; replace hM := hM.kept hb; clear hb hcell))
      have HS := Lib.hid (fun W h => Set_any g v ws fk 1 false W h HI.out)
      replace hM := hM.perm (swap_perm [mapR Try.prog 3 fInt fInt gm m] (pollL g v ws))
      have HSZ := Lib.hid (fun (W : World) h => (HS.out W h).mono (fun e w' (h2 : ∃ n v' ws', e = .returned (.int .i64 n) ∧ PlPre W w' g v ws v' ws' ∧ SetRel ws fk 1 false n ws') => (show e = .returned (.int .i64 0) ∧ ∃ v' ws', PlPre W w' g v ws v' ws' ∧ SetRel ws fk 1 false 0 ws' from by
        obtain ⟨n, v', ws', rfl, h3, h4⟩ := h2
        have h4' := h4
        rcases h4 with ⟨_, hf, _⟩ | ⟨rfl, _⟩
        · have := HFR.out; omega
        · exact ⟨rfl, v', ws', h3, h4'⟩)))
      clear HS
      go_upto_region 11 with (first | (go_at_call 41; refine (HSZ.out _ (pl_hand hM)).mono ?_; rintro x W ⟨rfl, v1, ws1, hM6, hs1⟩; replace hM := pl_put hM hM6; clear hM6; dsimp only))
      have HI1 := Lib.hid (hs1.inv HI.out)
      have HN1 := Lib.hid (fun W h => Note_any g v1 ws1 fk 1 W h HI1.out)
      have HS1 := Lib.hid hs1
      clear hs1 HSZ
      go_upto_region 12 with (first | (go_at_call 42; refine (HN1.out _ (pl_hand hM)).mono ?_; rintro x W ⟨ws2, rfl, hM6, hs2⟩; replace hM := pl_put hM hM6; clear hM6; dsimp only))
      have HI2 := Lib.hid (hs2.inv HI1.out)
      have HL := Lib.hid (fair_set HI.out HF.out HC.out HS1.out hs2 HFR.out)
      clear hs2 HN1
      replace hM := hM.perm (swap_perm (pollL g v1 ws2) [mapR Try.prog 3 fInt fInt gm m])
      have HKO := Lib.hid (show KeyOk Try.prog 3 fInt fk from keyOk_int (by have := HFR.out; omega))
      go_wp2_with (first | go_skip | ((with_reducible refine at_mapUpdate_ ?_); refine wpList_mapUpdate_m rfl _ _ _ rfl mapTy_fair 0 hM rfl rfl fk rfl HKO.out 0 rfl ?_; clear hM; intro W hM))
      go_roundg (n0 - (k + 1))
      case measure => have := HGK.out; omega
      case rel => exact ⟨k + 1, ws2, v1, _, rfl, by omega, by go_num, hM, HI2, Lib.hid HL.out.2.1, Lib.hid HL.out.2.2⟩
    · obtain rfl : n0 = k := by omega
      clear HGK
      obtain ⟨r, hr, hr8⟩ : ∃ r : Nat, a1 % 16 = r ∧ r < 16 := ⟨(a1 % 16).toNat, by omega, by omega⟩
      have HRS := Lib.hid (fun W => Rest_any a1 16 W (by omega) (by omega) (by omega) (by omega))
      rw [hr] at HRS
      clear hr
      go_upto_region 15 with (first | (go_at_call 16; refine (calls_b (HRS.out _)).mono ?_; rintro e W ⟨rfl, hb⟩; replace hM := hM.kept hb; clear hb))
      clear HRS
      go_wp2_with fail
      have HB0 := Lib.hid (show Bal ws (fun _ => (0 : Int)) 0 from ⟨ws, [], by simp, by simp, by simp⟩)
      go_loopg [49] 40 (fun gh i wr => ∃ (q : Nat) (ws : List KW) (v : Value) (m : List (Int × Int)) (f : Int → Int) (c : Int), gh = 40 - q ∧ q ≤ 40 ∧ i = .int .i64 q ∧ Mem w wr (mapR Try.prog 3 fInt fInt gm m :: pollL g v ws) ∧ Hid (PInv ws) ∧ Hid (∀ x ∈ ws, fairW x) ∧ Hid (Cnt m ws f) ∧ Hid (Bal ws f c) ∧ Hid (0 ≤ c ∧ c ≤ q))
      case atStart => exact ⟨0, ws, v, m, _, 0, by omega, by omega, rfl, hM, HI, HF, HC, HB0, Lib.hid (by omega)⟩
      case round =>
        clear hM HI HF HC HB0
        obtain ⟨q, ws, v, m, f, c, hgq, hq, rfl, hM, HI, HF, HC, HB, HQ⟩ := hrel
        have HGQ := Lib.hid hgq
        clear hgq
        by_cases hlq : q < 40
        · have hq2 := HQ.out
          have e1 : (1 : Int) + (r : Int) = ((r + 1 : Nat) : Int) := by omega
          have hfw := fair_wait (fun x hx => fair_tell (HF.out x hx)) (r + 1)
          rw [← e1] at hfw
          have hW := fun W h => Wait_len g v ws (1 + (r : Int)) W h HI.out (by omega) (by omega)
          simp only [hfw.1, hfw.2, List.length_map] at hW
          have hTl : (ws.take (r + 1)).length = min (r + 1) ws.length := List.length_take
          obtain ⟨T, hT⟩ : ∃ T, T = ws.take (r + 1) := ⟨_, rfl⟩
          obtain ⟨row, hrow⟩ : ∃ z, z = ws.drop (r + 1) ++ (ws.take (r + 1)).map toldW := ⟨_, rfl⟩
          rw [← hT] at hTl
          rw [← hrow, ← hT] at hW
          have HT := Lib.hid hT
          have HRW := Lib.hid hrow
          have HW := Lib.hid hW
          have hml := HC.out.len
          clear hT hrow hW e1 hfw
          have HMN := Lib.hid (show ((1 : Int) + r ≤ m.length ∧ (T.length : Int) = 1 + r) ∨ ((m.length : Int) < 1 + r ∧ (T.length : Int) = m.length) from by omega)
          have hTb : T.length ≤ 16 := by omega
          have HTL := Lib.hid hTl
          have HML := Lib.hid hml
          clear hTl hml
          replace hM := hM.perm (swap_perm [mapR Try.prog 3 fInt fInt gm m] (pollL g v ws))
          go_upto_region 18 with (first | go_skip | (go_at_call 43; refine (HW.out _ (pl_hand hM)).mono ?_; rintro x W ⟨v2, O, oc, rfl, hM6⟩; replace hM := (last_front (hM.back hM6)).perm ((swap_perm (pollL g v2 row) [rowR 2 cWake (.slice O T.length oc) (T.map outW)]).cons _); clear hM6; dsimp only))
          replace hM : Mem w W (mapR Try.prog 3 fInt fInt gm m :: rowR 2 cWake (.slice O T.length oc) (T.map outW) :: pollL g v2 row) := hM
          clear HW
          go_cut [67] (fun b wc => b = .bool false ∧ wc = W)
          case first =>
            rcases HMN.out with ⟨h1, h2⟩ | ⟨h1, h2⟩
            · have h3 : ¬ (m.length : Int) < 1 + r := by omega
              go_wp2_with (first | go_skip | ((with_reducible refine at_len_ ?_); refine wpList_len_m0 (by rfl) _ rfl Try.underlying72 0 hM rfl rfl ?_))
              go_meet
              case rel => exact ⟨rfl, rfl⟩
            · have h3 : ¬ (1 : Int) + r < m.length := by omega
              go_wp2_with (first | go_skip | ((with_reducible refine at_len_ ?_); refine wpList_len_m0 (by rfl) _ rfl Try.underlying72 0 hM rfl rfl ?_))
              go_meet
              case rel => exact ⟨rfl, rfl⟩
          case rest =>
            obtain ⟨rfl, hwc⟩ := hcut
            have hwc' := hwc.symm
            clear hwc
            subst hwc'
            obtain ⟨tn, htn⟩ : ∃ z, z = T.length := ⟨_, rfl⟩
            rw [← htn] at hM hTb ⊢
            have HTN := Lib.hid htn
            clear htn
            have HPI := Lib.hid (fun (p : Nat) (x : KW) (hx : T[p]? = some x) => (by
              have hTd := HT.out
              have hsub : (T.map (·.fd)).Nodup := by
                have h1 : (ws.map (·.fd)).Nodup := HI.out.nd
                have h2 : (T.map (·.fd)).Sublist (ws.map (·.fd)) := by rw [hTd]; exact (List.take_sublist _ _).map _
                exact h1.sublist h2
              refine ⟨?_, ?_⟩
              · intro hm
                obtain ⟨hl1, hx1⟩ := List.getElem?_eq_some_iff.1 hx
                have h3 : (T.map (·.fd)).take p ++ (T.map (·.fd)).drop p = T.map (·.fd) := List.take_append_drop _ _
                rw [← h3, List.nodup_append] at hsub
                refine hsub.2.2 x.fd ?_ x.fd ?_ rfl
                · rw [← List.map_take]; exact hm
                · rw [← List.map_drop]
                  exact List.mem_map.2 ⟨x, List.mem_of_getElem? (i := 0) (by rw [List.getElem?_drop]; simpa using hx), rfl⟩
              · have := List.mem_of_getElem? hx
                rw [hTd] at this
                exact List.mem_of_mem_take this : x.fd ∉ (T.take p).map (·.fd) ∧ x ∈ ws))
            have HC0 := Lib.hid (show Cnt m ws (bumps f ((T.take 0).map (·.fd))) from by rw [List.take_zero, List.map_nil, bumps_nil]; exact HC.out)
            go_upto_region 20 with (fail)
            go_wp2_with fail
            go_loopg [70] tn (fun gh j wr => ∃ (p : Nat) (m2 : List (Int × Int)), gh = tn - p ∧ p ≤ tn ∧ j = .int .i64 p ∧ Mem w wr (mapR Try.prog 3 fInt fInt gm m2 :: rowR 2 cWake (.slice O tn oc) (T.map outW) :: pollL g v2 row) ∧ Hid (Cnt m2 ws (bumps f ((T.take p).map (·.fd)))))
            case atStart => exact ⟨0, m, by omega, by omega, rfl, hM, HC0⟩
            case round =>
              clear hM HC0
              obtain ⟨p, m2, hgp, hp, rfl, hM, HC2⟩ := hrel
              have HGP := Lib.hid hgp
              clear hgp
              by_cases hlp : p < tn
              · obtain ⟨x, hx⟩ : ∃ x, T[p]? = some x := ⟨T[p]'(by rw [← HTN.out]; exact hlp), List.getElem?_eq_getElem (by rw [← HTN.out]; exact hlp)⟩
                have hWr : Win wr 0 2 (.slice O tn oc) (T.map outW).length ((T.map outW).flatMap cWake) := hM.row (f := cWake) (rs := T.map outW) 1 rfl
                obtain ⟨gO, offO, cO, hv, hWA⟩ := hWr.pos (by rw [List.length_map, ← HTN.out]; omega)
                injection hv with hv1 hv3 hv2
                clear hv3
                subst hv1 hv2
                have hr0 := row_range (f := cWake) (size := 2) (fun _ => rfl) hWr p (outW x) (by rw [List.getElem?_map, hx]; rfl)
                obtain ⟨hxn, hxm⟩ := HPI.out p x hx
                have hrf := HB.out.rng hxm
                have hge : mGet m2 x.fd = some (f x.fd) := by
                  rw [HC2.out.get x hxm]
                  unfold bumps
                  rw [if_neg hxn]
                have HCB := Lib.hid (show Cnt (mPut m2 x.fd (f x.fd + 1)) ws (bumps f ((T.take (p + 1)).map (·.fd))) from by
                  have h1 := HC2.out.bump hxm
                  have e1 : bumps f ((T.take p).map (·.fd)) x.fd = f x.fd := by unfold bumps; rw [if_neg hxn]
                  rw [e1, bumps_snoc hxn] at h1
                  rw [List.take_add_one, hx, Option.toList_some, List.map_append]
                  exact h1)
                have hxr := HI.out.rng x hxm
                have HKO := Lib.hid (show KeyOk Try.prog 3 fInt x.fd from keyOk_int (by omega))
                clear hxn hxm hWr hWA hx hxr
                obtain ⟨fx, hfx⟩ : ∃ z, z = f x.fd := ⟨_, rfl⟩
                rw [← hfx] at hge hrf HCB
                have hcq := HQ.out
                clear hfx
                go_upto_region 23 with (first | go_skip | ((with_reducible refine at_load_ (T := 78) ?_); refine wpList_load_mid rfl 78 _ rfl gO (offO + p * 2) rfl (cWake (outW x)) _ hr0 Try.underlying78 rfl sz_Wake ?_) | ((with_reducible refine at_alloc_ (T := 78) ?_); refine wpList_alloc_mem rfl 78 rfl _ zv_Wake _ rfl hM ?_; clear hM hr0; intro gx W hM; replace hM := last_front hM) | ((with_reducible refine at_store_ (T := 78) ?_); refine wpList_store_mem rfl 78 _ _ rfl 0 _ _ _ _ hM rfl rfl rfl rfl sz_Wake rfl ?_; clear hM; intro W hM))
                replace hM : Mem w W (atR gx 78 (cWake (outW x)) :: mapR Try.prog 3 fInt fInt gm m2 :: rowR 2 cWake (.slice (some ⟨gO, offO, none⟩) tn oc) (T.map outW) :: pollL g v2 row) := hM
                have c0 := hM.cells 0 rfl
                have l0 := hM.lt 0 rfl
                simp only [cWake, outW] at c0
                have HG := Lib.hid hge
                go_upto_region 26 with (first | go_skip | ((with_reducible refine at_lookup_ ?_); refine wpList_lookup_m (by rfl) _ _ true rfl mapTy_fair (.int .i64 0) (fun _ => by kernel_rfl) 1 hM rfl rfl x.fd rfl HKO.out ?_; simp only [HG.out, mHas, Option.elim, Option.isSome, if_true]))
                clear hge
                go_wp2_with (first | go_skip | ((with_reducible refine at_lookup_ ?_); refine wpList_lookup_m (by rfl) _ _ false rfl mapTy_fair (.int .i64 0) (fun _ => by kernel_rfl) 1 hM rfl rfl x.fd rfl HKO.out ?_; simp only [HG.out, Option.elim, Bool.false_eq_true, if_false]) | ((with_reducible refine at_mapUpdate_ ?_); refine wpList_mapUpdate_m rfl _ _ _ rfl mapTy_fair 1 hM rfl rfl x.fd rfl HKO.out (fx + 1) rfl ?_; clear hM c0 l0; intro W hM))
                replace hM := (show MemX noE w W ([atR gx 78 (cWake (outW x))] ++ (mapR Try.prog 3 fInt fInt gm (mPut m2 x.fd (fx + 1)) :: rowR 2 cWake (.slice (some ⟨gO, offO, none⟩) tn oc) (T.map outW) :: pollL g v2 row)) from hM).drop_
                go_roundg (tn - (p + 1))
                case measure => have := HGP.out; omega
                case rel => exact ⟨p + 1, _, rfl, by omega, by go_num, hM, HCB⟩
              · obtain rfl : tn = p := by omega
                clear HGP hlp HPI
                have hC3 := HC2.out
                rw [HTN.out, List.take_length] at hC3
                obtain ⟨c2, hcc, hB2⟩ := fair_next HI.out HB.out (r + 1)
                rw [← HRW.out, ← HT.out] at hB2
                have hfd : (row.map (·.fd)).Perm (ws.map (·.fd)) := by rw [HRW.out]; exact fair_fds ws (r + 1)
                have HC3 := Lib.hid (hC3.row hfd)
                have HI3 := Lib.hid (HI.out.perm hfd)
                have HF3 := Lib.hid (show ∀ x ∈ row, fairW x from by
                  rw [HRW.out]
                  intro x hx
                  rcases List.mem_append.1 hx with hx | hx
                  · exact HF.out x (List.mem_of_mem_drop hx)
                  · obtain ⟨y, hy, rfl⟩ := List.mem_map.1 hx
                    exact fair_told (HF.out y (List.mem_of_mem_take hy)))
                have HB3 := Lib.hid hB2
                have hcq := HQ.out
                have HCR := Lib.hid (show 0 ≤ c2 ∧ c2 ≤ (q : Int) + 1 from by omega)
                have HP3 := Lib.hid (fun (z : Int × Int) (hz : z ∈ m2) => (by
                  obtain ⟨x, hx, e1, e2⟩ := HC3.out.val z hz
                  have := HB3.out.rng hx
                  rw [e2, ← e1]; exact this : c2 ≤ z.2 ∧ z.2 ≤ c2 + 1))
                clear hC3 hcc hB2 hfd hcq HC2 HC HB HQ HT HTL HML HMN HF HI HRW
                obtain ⟨es, clock, hes, hM⟩ := hM.mapOpen 0 rfl
                replace hM : Mem w wr (mapE gm es clock :: rowR 2 cWake (.slice O tn oc) (T.map outW) :: pollL g v2 row) := hM
                have hst := hes.st
                have HES := Lib.hid hes
                clear hes
                go_wp2_with (first | go_skip | ((with_reducible refine at_range_ ?_); refine wpList_range_m rfl _ rfl Try.underlying72 0 es clock hM rfl rfl ?_; clear hM; intro rit W hM; replace hM := last_front hM))
                go_frame
                go_loopg [15, 16] (leftOf es #[]).size (fun gh lo hi wr => ∃ (seen : Array Nat) (low high : Int), gh = (leftOf es seen).size ∧ lo = .int .i64 low ∧ hi = .int .i64 high ∧ Mem w wr (itR rit gm clock seen :: mapE gm es clock :: rowR 2 cWake (.slice O tn oc) (T.map outW) :: pollL g v2 row) ∧ Hid (c2 ≤ low ∧ low ≤ 1073741824 ∧ 0 ≤ high ∧ high ≤ c2 + 1))
                case atStart => exact ⟨#[], 1073741824, 0, rfl, rfl, rfl, hM, Lib.hid (by have := HCR.out; omega)⟩
                case round =>
                  clear hM
                  obtain ⟨seen, low, high, hgs, rfl, rfl, hM, HLH⟩ := hrel
                  have HGS := Lib.hid hgs
                  clear hgs
                  have hnh : ¬ (low + 1 < high) := by have := HLH.out; omega
                  have hlw : 0 ≤ low ∧ low ≤ 1073741824 := by have := HLH.out; have := HCR.out; omega
                  rcases Nat.eq_zero_or_pos m2.length with hm0 | hm0
                  · go_upto_region 32 with (first | go_skip | ((with_reducible refine at_next_ ?_); refine wpList_next_m rfl _ rfl 1 0 rit es clock seen hM rfl rfl rfl hst (fun h0 => ?_) (fun e he W hM2 hls => ?_)) | ((with_reducible refine at_entry_ ?_); refine wpList_entry_m rfl _ rfl 1 0 rit es clock seen e hM2 rfl rfl rfl hst (left_mem he) ?_) | ((with_reducible refine at_len_ ?_); replace hM := hM.mapShut 1 rfl HES.out; refine wpList_len_m0 (κ := Int) (ν := Int) (fk := fInt) (fv := fInt) (m := m2) (by rfl) _ rfl Try.underlying72 1 hM rfl rfl ?_))
                    · clear h0
                      replace hM := (show MemX noE w wr ([itR rit gm clock seen] ++ (mapR Try.prog 3 fInt fInt gm m2 :: rowR 2 cWake (.slice O tn oc) (T.map outW) :: pollL g v2 row)) from hM).drop_
                      replace hM := (show MemX noE w wr ([rowR 2 cWake (.slice O tn oc) (T.map outW)] ++ (mapR Try.prog 3 fInt fInt gm m2 :: pollL g v2 row)) from hM.perm (List.Perm.swap _ _ _)).drop_
                      go_roundg (40 - (q + 1))
                      case measure => have := HGQ.out; omega
                      case rel => exact ⟨q + 1, row, v2, m2, _, c2, rfl, by omega, by go_num, hM, HI3, HF3, HC3, HB3, Lib.hid (by have := HCR.out; omega)⟩
                    · obtain ⟨pz, hpz, hk1, hv1⟩ := HES.out.mem (left_mem he)
                      have hzb := HP3.out pz hpz
                      have HE := Lib.hid he
                      clear hk1 hpz he
                      simp only [hv1, fInt]
                      clear hv1
                      generalize pz.2 = zz at hzb ⊢
                      replace hM2 : Mem w W (itR rit gm clock (seen.push e.born) :: mapE gm es clock :: rowR 2 cWake (.slice O tn oc) (T.map outW) :: pollL g v2 row) := hM2
                      have hlh2 := HLH.out
                      rcases Int.lt_trichotomy zz low with h1 | h1 | h1
                      · skip
                        rcases Int.lt_trichotomy zz high with h2 | h2 | h2
                        · skip
                          go_wp2_with (first | go_skip)
                          go_roundg ((leftOf es (seen.push e.born)).size)
                          case measure => have := HGS.out; omega
                          case rel => exact ⟨seen.push e.born, _, _, rfl, rfl, rfl, hM2, Lib.hid (by omega)⟩
                        · subst h2
                          go_wp2_with (first | go_skip)
                          go_roundg ((leftOf es (seen.push e.born)).size)
                          case measure => have := HGS.out; omega
                          case rel => exact ⟨seen.push e.born, _, _, rfl, rfl, rfl, hM2, Lib.hid (by omega)⟩
                        · skip
                          go_wp2_with (first | go_skip)
                          go_roundg ((leftOf es (seen.push e.born)).size)
                          case measure => have := HGS.out; omega
                          case rel => exact ⟨seen.push e.born, _, _, rfl, rfl, rfl, hM2, Lib.hid (by omega)⟩
                      · subst h1
                        rcases Int.lt_trichotomy zz high with h2 | h2 | h2
                        · skip
                          go_wp2_with (first | go_skip)
                          go_roundg ((leftOf es (seen.push e.born)).size)
                          case measure => have := HGS.out; omega
                          case rel => exact ⟨seen.push e.born, _, _, rfl, rfl, rfl, hM2, Lib.hid (by omega)⟩
                        · subst h2
                          go_wp2_with (first | go_skip)
                          go_roundg ((leftOf es (seen.push e.born)).size)
                          case measure => have := HGS.out; omega
                          case rel => exact ⟨seen.push e.born, _, _, rfl, rfl, rfl, hM2, Lib.hid (by omega)⟩
                        · skip
                          go_wp2_with (first | go_skip)
                          go_roundg ((leftOf es (seen.push e.born)).size)
                          case measure => have := HGS.out; omega
                          case rel => exact ⟨seen.push e.born, _, _, rfl, rfl, rfl, hM2, Lib.hid (by omega)⟩
                      · skip
                        rcases Int.lt_trichotomy zz high with h2 | h2 | h2
                        · skip
                          go_wp2_with (first | go_skip)
                          go_roundg ((leftOf es (seen.push e.born)).size)
                          case measure => have := HGS.out; omega
                          case rel => exact ⟨seen.push e.born, _, _, rfl, rfl, rfl, hM2, Lib.hid (by omega)⟩
                        · subst h2
                          go_wp2_with (first | go_skip)
                          go_roundg ((leftOf es (seen.push e.born)).size)
                          case measure => have := HGS.out; omega
                          case rel => exact ⟨seen.push e.born, _, _, rfl, rfl, rfl, hM2, Lib.hid (by omega)⟩
                        · skip
                          go_wp2_with (first | go_skip)
                          go_roundg ((leftOf es (seen.push e.born)).size)
                          case measure => have := HGS.out; omega
                          case rel => exact ⟨seen.push e.born, _, _, rfl, rfl, rfl, hM2, Lib.hid (by omega)⟩
                  · go_upto_region 32 with (first | go_skip | ((with_reducible refine at_next_ ?_); refine wpList_next_m rfl _ rfl 1 0 rit es clock seen hM rfl rfl rfl hst (fun h0 => ?_) (fun e he W hM2 hls => ?_)) | ((with_reducible refine at_entry_ ?_); refine wpList_entry_m rfl _ rfl 1 0 rit es clock seen e hM2 rfl rfl rfl hst (left_mem he) ?_) | ((with_reducible refine at_len_ ?_); replace hM := hM.mapShut 1 rfl HES.out; refine wpList_len_m0 (κ := Int) (ν := Int) (fk := fInt) (fv := fInt) (m := m2) (by rfl) _ rfl Try.underlying72 1 hM rfl rfl ?_))
                    · clear h0
                      replace hM := (show MemX noE w wr ([itR rit gm clock seen] ++ (mapR Try.prog 3 fInt fInt gm m2 :: rowR 2 cWake (.slice O tn oc) (T.map outW) :: pollL g v2 row)) from hM).drop_
                      replace hM := (show MemX noE w wr ([rowR 2 cWake (.slice O tn oc) (T.map outW)] ++ (mapR Try.prog 3 fInt fInt gm m2 :: pollL g v2 row)) from hM.perm (List.Perm.swap _ _ _)).drop_
                      go_roundg (40 - (q + 1))
                      case measure => have := HGQ.out; omega
                      case rel => exact ⟨q + 1, row, v2, m2, _, c2, rfl, by omega, by go_num, hM, HI3, HF3, HC3, HB3, Lib.hid (by have := HCR.out; omega)⟩
                    · obtain ⟨pz, hpz, hk1, hv1⟩ := HES.out.mem (left_mem he)
                      have hzb := HP3.out pz hpz
                      have HE := Lib.hid he
                      clear hk1 hpz he
                      simp only [hv1, fInt]
                      clear hv1
                      generalize pz.2 = zz at hzb ⊢
                      replace hM2 : Mem w W (itR rit gm clock (seen.push e.born) :: mapE gm es clock :: rowR 2 cWake (.slice O tn oc) (T.map outW) :: pollL g v2 row) := hM2
                      have hlh2 := HLH.out
                      rcases Int.lt_trichotomy zz low with h1 | h1 | h1
                      · skip
                        rcases Int.lt_trichotomy zz high with h2 | h2 | h2
                        · skip
                          go_wp2_with (first | go_skip)
                          go_roundg ((leftOf es (seen.push e.born)).size)
                          case measure => have := HGS.out; omega
                          case rel => exact ⟨seen.push e.born, _, _, rfl, rfl, rfl, hM2, Lib.hid (by omega)⟩
                        · subst h2
                          go_wp2_with (first | go_skip)
                          go_roundg ((leftOf es (seen.push e.born)).size)
                          case measure => have := HGS.out; omega
                          case rel => exact ⟨seen.push e.born, _, _, rfl, rfl, rfl, hM2, Lib.hid (by omega)⟩
                        · skip
                          go_wp2_with (first | go_skip)
                          go_roundg ((leftOf es (seen.push e.born)).size)
                          case measure => have := HGS.out; omega
                          case rel => exact ⟨seen.push e.born, _, _, rfl, rfl, rfl, hM2, Lib.hid (by omega)⟩
                      · subst h1
                        rcases Int.lt_trichotomy zz high with h2 | h2 | h2
                        · skip
                          go_wp2_with (first | go_skip)
                          go_roundg ((leftOf es (seen.push e.born)).size)
                          case measure => have := HGS.out; omega
                          case rel => exact ⟨seen.push e.born, _, _, rfl, rfl, rfl, hM2, Lib.hid (by omega)⟩
                        · subst h2
                          go_wp2_with (first | go_skip)
                          go_roundg ((leftOf es (seen.push e.born)).size)
                          case measure => have := HGS.out; omega
                          case rel => exact ⟨seen.push e.born, _, _, rfl, rfl, rfl, hM2, Lib.hid (by omega)⟩
                        · skip
                          go_wp2_with (first | go_skip)
                          go_roundg ((leftOf es (seen.push e.born)).size)
                          case measure => have := HGS.out; omega
                          case rel => exact ⟨seen.push e.born, _, _, rfl, rfl, rfl, hM2, Lib.hid (by omega)⟩
                      · skip
                        rcases Int.lt_trichotomy zz high with h2 | h2 | h2
                        · skip
                          go_wp2_with (first | go_skip)
                          go_roundg ((leftOf es (seen.push e.born)).size)
                          case measure => have := HGS.out; omega
                          case rel => exact ⟨seen.push e.born, _, _, rfl, rfl, rfl, hM2, Lib.hid (by omega)⟩
                        · subst h2
                          go_wp2_with (first | go_skip)
                          go_roundg ((leftOf es (seen.push e.born)).size)
                          case measure => have := HGS.out; omega
                          case rel => exact ⟨seen.push e.born, _, _, rfl, rfl, rfl, hM2, Lib.hid (by omega)⟩
                        · skip
                          go_wp2_with (first | go_skip)
                          go_roundg ((leftOf es (seen.push e.born)).size)
                          case measure => have := HGS.out; omega
                          case rel => exact ⟨seen.push e.born, _, _, rfl, rfl, rfl, hM2, Lib.hid (by omega)⟩
        · go_wp2_with fail
          go_ret
          exact ⟨rfl, hM.b⟩
end Go.Proofs.Ytgdfjkdcdfmifaa
