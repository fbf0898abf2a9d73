/- frag: a table in memory; In as a relation (plain). -/
import Derived.Test.YtmcdmgnpbhkdhaaFgD
import Derived.Test.YtmcdmgnpbhkdhaaFgK
import Derived.Test.YtmcdmgnpbhkdhaaRow
namespace Go.Proofs.Ytmcdmgnpbhkdhaa
open Go.RowKit Go.Lib
set_option linter.unusedVariables false
set_option linter.unusedSimpArgs false

structure FE where
  k : KNm
  g : Nat
  f : FW
def fGP (g : Nat) : Value := .pointer (some ⟨g, 0, none⟩)
def eP (e : FE) : KNm × Nat := (e.k, e.g)
def eR (e : FE) : Res := wR e.g e.f
def tbR (g gm : Nat) : Res := atR g 111 [.map (some gm)]
def mpR (gm : Nat) (es : List FE) : Res := mapR Try.prog 113 fNm fGP gm (es.map eP)
def fgL (g gm : Nat) (es : List FE) : List Res := tbR g gm :: mpR gm es :: es.map eR
theorem mapTy_frag : MapTy Try.prog 109 113 114 fNm fGP := ⟨keyed_Nm, Try.underlying109, fun h => fNm_inj h⟩
structure FInv (es : List FE) : Prop where
  nd : (es.map (·.k)).Nodup
  ok : ∀ e ∈ es, FgOk e.f
  len : es.length ≤ 8
def keyP (p : Pk) : KNm := ⟨p.s, p.d, p.pr, p.id⟩
def newF : FW := ⟨fun _ => 0, fun _ => false, -1, 0, ⟨0, 0, 0, 0, 0, false, false, 0, ⟨#[]⟩⟩, false, 0⟩
theorem newF_ok : FgOk newF := ⟨by decide, by decide, by decide, by decide, by decide, by decide, fun k => by simp [newF]⟩
theorem finv_nil : FInv [] := ⟨by simp, by simp, by simp⟩
theorem FInv.mok {es : List FE} (h : FInv es) : mOk (es.map eP) := by
  have := h.nd
  unfold mOk
  rw [List.pairwise_map]
  rw [List.nodup_iff_pairwise_ne, List.pairwise_map] at this
  exact this
theorem FInv.get {es : List FE} (h : FInv es) {i : Nat} {e : FE} (he : es[i]? = some e) : mGet (es.map eP) e.k = some e.g :=
  mGet_at h.mok (p := eP e) (by rw [List.getElem?_map, he]; rfl)
theorem FInv.at {es : List FE} (h : FInv es) {i j : Nat} {e d : FE} (he : es[i]? = some e) (hd : es[j]? = some d) (hk : e.k = d.k) : i = j := by
  obtain ⟨hi, rfl⟩ := List.getElem?_eq_some_iff.1 he
  obtain ⟨hj, rfl⟩ := List.getElem?_eq_some_iff.1 hd
  have hp := List.pairwise_iff_getElem.1 (List.nodup_iff_pairwise_ne.1 h.nd)
  rcases Nat.lt_trichotomy i j with h3 | h3 | h3
  · exact (hp i j (by simpa using hi) (by simpa using hj) h3 (by simpa using hk)).elim
  · exact h3
  · exact (hp j i (by simpa using hj) (by simpa using hi) h3 (by simpa using hk.symm)).elim
theorem look_cases (es : List FE) (k : KNm) : (∃ (i : Nat) (e : FE), es[i]? = some e ∧ e.k = k) ∨ (∀ e ∈ es, e.k ≠ k) := by
  by_cases h : ∃ e ∈ es, e.k = k
  · obtain ⟨e, he, hk⟩ := h
    obtain ⟨i, hi⟩ := List.getElem?_of_mem he
    exact .inl ⟨i, e, hi, hk⟩
  · exact .inr fun e he hk => h ⟨e, he, hk⟩
theorem look_none {es : List FE} {k : KNm} (h : ∀ e ∈ es, e.k ≠ k) : mGet (es.map eP) k = none :=
  mGet_none fun p hp => by
    obtain ⟨e, he, rfl⟩ := List.mem_map.1 hp
    exact h e he
theorem front_fe {es : List FE} {i : Nat} {e : FE} (he : es[i]? = some e) : es.Perm (e :: es.eraseIdx i) := by
  obtain ⟨hl, rfl⟩ := List.getElem?_eq_some_iff.1 he
  have h3 : es.take i ++ es[i] :: es.drop (i + 1) = es := by rw [← List.drop_eq_getElem_cons hl, List.take_append_drop]
  rw [List.eraseIdx_eq_take_drop_succ]
  conv => lhs; rw [← h3]
  exact List.perm_middle
theorem erase_set {es : List FE} {i : Nat} (e' : FE) : (es.set i e').eraseIdx i = es.eraseIdx i := by
  rw [List.eraseIdx_eq_take_drop_succ, List.eraseIdx_eq_take_drop_succ, List.take_set_of_le (Nat.le_refl _), List.drop_set_of_lt (by omega)]
theorem set_front {es : List FE} {i : Nat} {e : FE} (e' : FE) (he : es[i]? = some e) : (es.set i e').Perm (e' :: es.eraseIdx i) := by
  have hl := (List.getElem?_eq_some_iff.1 he).1
  have := front_fe (es := es.set i e') (i := i) (e := e') (by rw [List.getElem?_set_self hl])
  rwa [erase_set] at this
theorem set_eP {es : List FE} {i : Nat} {e : FE} (e' : FE) (he : es[i]? = some e) (hk : e'.k = e.k) (hg : e'.g = e.g) : (es.set i e').map eP = es.map eP := by
  obtain ⟨hl, rfl⟩ := List.getElem?_eq_some_iff.1 he
  rw [List.map_set]
  apply List.ext_getElem (by simp)
  intro j h1 h2
  rw [List.getElem_set]
  split
  · rename_i h; subst h; simp [eP, hk, hg]
  · rfl
theorem FInv.del {es : List FE} (h : FInv es) {i : Nat} {e : FE} (he : es[i]? = some e) : mDel (es.map eP) e.k = (es.eraseIdx i).map eP := by
  obtain ⟨hl, hee⟩ := List.getElem?_eq_some_iff.1 he
  unfold mDel
  have h3 : es.take i ++ e :: es.drop (i + 1) = es := by rw [← hee, ← List.drop_eq_getElem_cons hl, List.take_append_drop]
  rw [List.eraseIdx_eq_take_drop_succ]
  conv => lhs; rw [← h3]
  rw [List.map_append, List.filter_append, List.map_cons, List.filter_cons, List.map_append]
  have ht : ∀ d ∈ es.take i, d.k ≠ e.k := fun d hd hde => by
    obtain ⟨j, hj⟩ := List.getElem?_of_mem hd
    have hjl : j < i := by have := (List.getElem?_eq_some_iff.1 hj).1; rw [List.length_take] at this; omega
    rw [List.getElem?_take_of_lt hjl] at hj
    have := h.at hj he hde
    omega
  have hd : ∀ d ∈ es.drop (i + 1), d.k ≠ e.k := fun d hd hde => by
    obtain ⟨j, hj⟩ := List.getElem?_of_mem hd
    rw [List.getElem?_drop] at hj
    have := h.at hj he hde
    omega
  have hkeep : ∀ l : List FE, (∀ d ∈ l, d.k ≠ e.k) → (l.map eP).filter (fun p => !decide (p.1 = e.k)) = l.map eP := fun l hl => by
    rw [List.filter_eq_self]
    intro p hp
    obtain ⟨d, hd, rfl⟩ := List.mem_map.1 hp
    have hne := hl d hd
    show (!decide (d.k = e.k)) = true
    rw [decide_eq_false hne]; rfl
  rw [hkeep _ ht, hkeep _ hd]
  simp [eP]
theorem put_none {es : List FE} {k : KNm} (h : ∀ e ∈ es, e.k ≠ k) (g : Nat) (f : FW) : mPut (es.map eP) k g = (es ++ [(⟨k, g, f⟩ : FE)]).map eP := by
  unfold mPut mHas
  rw [look_none h, if_neg (by simp), List.map_append]; rfl
theorem FInv.set {es : List FE} (h : FInv es) {i : Nat} {e e' : FE} (he : es[i]? = some e) (hk : e'.k = e.k) (ok : FgOk e'.f) : FInv (es.set i e') := by
  obtain ⟨hl, rfl⟩ := List.getElem?_eq_some_iff.1 he
  have hm : (es.set i e').map (·.k) = es.map (·.k) := by
    rw [List.map_set]
    apply List.ext_getElem (by simp)
    intro j h1 h2
    rw [List.getElem_set]
    split
    · rename_i h; subst h; simp [hk]
    · rfl
  refine ⟨by rw [hm]; exact h.nd, fun d hd => ?_, by rw [List.length_set]; exact h.len⟩
  rcases List.mem_or_eq_of_mem_set hd with hd | rfl
  · exact h.ok d hd
  · exact ok
theorem FInv.erase {es : List FE} (h : FInv es) (i : Nat) : FInv (es.eraseIdx i) := by
  refine ⟨h.nd.sublist ((List.eraseIdx_sublist _ _).map _), fun d hd => h.ok d (List.mem_of_mem_eraseIdx hd), ?_⟩
  have := List.length_eraseIdx_le es i
  have := h.len
  omega
theorem FInv.push {es : List FE} (h : FInv es) {e : FE} (hno : ∀ d ∈ es, d.k ≠ e.k) (ok : FgOk e.f) (hl : es.length < 8) : FInv (es ++ [e]) := by
  refine ⟨?_, fun d hd => ?_, by rw [List.length_append]; simp; omega⟩
  · rw [List.map_append, List.nodup_append]
    refine ⟨h.nd, by simp, fun a ha b hb => ?_⟩
    obtain ⟨d, hd, rfl⟩ := List.mem_map.1 ha
    simp at hb
    rw [hb]; exact hno d hd
  · rcases List.mem_append.1 hd with hd | hd
    · exact h.ok d hd
    · rw [List.mem_singleton.1 hd]; exact ok
def zPk : Pk := ⟨0, 0, 0, 0, 0, false, false, 0, ⟨#[]⟩⟩
/-- the first n bytes -/
def fgText (f : FW) : ByteArray := byteS ((List.range f.en.toNat).map f.b)
def wholeP (f : FW) : Pk := { f.fi with mf := false, off := 0, b := fgText f }
/-- from where on a fragment's tail goes: the entry e at place i of es -/
def TailR (es : List FE) (i : Nat) (e : FE) (p : Pk) (fr : Nat) (r : Pk) (is : Bool) (er : Int) (es' : List FE) : Prop :=
  (¬ okPut e.f p fr ∧ r = zPk ∧ is = false ∧ er = 4 ∧ es' = es.eraseIdx i) ∨
  (okPut e.f p fr ∧ doneB (putF e.f p fr) = false ∧ r = zPk ∧ is = false ∧ er = 0 ∧ es' = es.set i { e with f := putF e.f p fr }) ∨
  (okPut e.f p fr ∧ doneB (putF e.f p fr) = true ∧ r = wholeP (putF e.f p fr) ∧ is = true ∧ er = 0 ∧ es' = es.eraseIdx i)
def InR (es : List FE) (p : Pk) (r : Pk) (is : Bool) (er : Int) (es' : List FE) : Prop :=
  (ipChk p ≠ 0 ∧ r = zPk ∧ is = false ∧ er = ipChk p ∧ es' = es) ∨
  (ipChk p = 0 ∧ (p.mf = false ∧ p.off = 0) ∧ r = p ∧ is = true ∧ er = 0 ∧ es' = es) ∨
  (ipChk p = 0 ∧ (p.mf = true ∧ p.b.size % 8 ≠ 0 ∨ p.mf = true ∧ p.b.size = 0) ∧ r = zPk ∧ is = false ∧ er = 4 ∧ es' = es) ∨
  (ipChk p = 0 ∧ 4000 < 8 * p.off + p.b.size ∧ r = zPk ∧ is = false ∧ er = 2 ∧ es' = es) ∨
  (ipChk p = 0 ∧ (p.mf = false → p.off ≠ 0) ∧ (p.mf = true → p.b.size % 8 = 0 ∧ 0 < p.b.size) ∧ 8 * p.off + p.b.size ≤ 4000 ∧
    (((∀ e ∈ es, e.k ≠ keyP p) ∧ es.length = 8 ∧ r = zPk ∧ is = false ∧ er = 9 ∧ es' = es) ∨
     (∃ i e, es[i]? = some e ∧ e.k = keyP p ∧ TailR es i e p (8 * p.off).toNat r is er es') ∨
     ((∀ e ∈ es, e.k ≠ keyP p) ∧ es.length < 8 ∧ ∃ gn, TailR (es ++ [⟨keyP p, gn, newF⟩]) es.length ⟨keyP p, gn, newF⟩ p (8 * p.off).toNat r is er es')))
theorem fg_conv {f : FW} (ok : FgOk f) {g : Nat} {W : World} (hA : At W g 118 (fgC f)) (n : Nat) (hn : f.en = n) (c : Nat) :
    (convert 89 9 (.slice (some ⟨g, 0, none⟩) n c)).run Try.prog W = .ok (.string (fgText f)) W := by
  have hl : ((List.range n).map f.b).length = n := by simp
  have hlen : (byteL ((List.range n).map f.b)).length = n := by rw [byteL_len, hl]
  have hback := run_convert_bytes_back (P := Try.prog) W 89 9 5 ⟨g, 0, none⟩ c (byteL ((List.range n).map f.b)) Try.underlying89 Try.underlying5 Try.underlying9 (fun k hk => by
    rw [Addr.add_mid, Nat.zero_add]
    have hk2 : k < n := by omega
    have h1 := byteL_at ((List.range n).map f.b) k hk
    have h2 := ok.en2
    have h3 := (hA.cell k).trans (fgC_b f k (by omega))
    rw [h3, ← h1, List.getElem?_map, List.getElem?_map, List.getElem?_range hk2]
    have := ok.rng k
    simp [b8]
    omega)
  rw [hlen] at hback
  have e : f.en.toNat = n := by omega
  unfold fgText
  rw [e]
  exact hback
end Go.Proofs.Ytmcdmgnpbhkdhaa
