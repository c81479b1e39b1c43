/-
  Seek and the reference's.
-/
import Derived.Test.YteagjjiggneheaaSeek
import Derived.Test.YteagjjiggneheaaRParse
namespace Go.Proofs.Yteagjjiggneheaa
open Go.RowKit
set_option linter.unusedVariables false

def seekV (o : Option (List KV)) (key : List UInt8) : Option KV × Int := match o with
  | none => (none, 3)
  | some l => (l.find? (notLess key), 0)
theorem find_first {key : List UInt8} {l : List KV} {m : Nat} (h : IsFirst key l m) : l.find? (notLess key) = l[m]? := by
  induction l generalizing m with
  | nil => simp
  | cons p t ih =>
    cases m with
    | zero =>
      have := h.2.2 p (by simp)
      simp [this]
    | succ m =>
      have h0 := h.2.1 0 p (by omega) (by simp)
      rw [List.find?_cons_of_neg (by rw [h0]; simp), ih ⟨by have := h.1; simpa using this, fun k q hk hq => h.2.1 (k + 1) q (by omega) (by simpa using hq), fun q hq => h.2.2 q (by simpa using hq)⟩]
      simp
theorem rises_lt {l : List KV} (h : Rises l l.length) {a d : Nat} {p q : KV} (hp : l[a]? = some p) (hq : l[a + d + 1]? = some q) : Op.bytesLess p.1 q.1 = true := by
  induction d generalizing q with
  | zero => exact h a p q (List.getElem?_eq_some_iff.1 hq).1 hp hq
  | succ d ih =>
    have hlt := (List.getElem?_eq_some_iff.1 hq).1
    have hr : l[a + d + 1]? = some l[a + d + 1] := List.getElem?_eq_getElem (by omega)
    exact less_trans (ih hr) (h (a + d + 1) _ q (by omega) hr hq)
theorem rises_mono {l : List KV} (h : Rises l l.length) (key : List UInt8) : Mono key l := by
  intro a b p q hab hp hq hn
  rcases Nat.eq_or_lt_of_le hab with rfl | hlt
  · rw [hp] at hq
    injection hq with hq
    subst hq
    exact hn
  · obtain ⟨d, rfl⟩ : ∃ d, b = a + d + 1 := ⟨b - a - 1, by omega⟩
    have := rises_lt h hp hq
    unfold notLess at hn ⊢
    cases hl : Op.bytesLess q.1 key
    · rfl
    · rw [less_trans this hl] at hn
      cases hn
theorem parseP_rises {b : List UInt8} {l : List KV} (h : parseP b = some l) : Rises l l.length := by
  unfold parseP at h
  cases hs : splitB b with
  | none => rw [hs] at h; cases h
  | some q =>
    obtain ⟨body, heads, every⟩ := q
    rw [hs] at h
    dsimp only at h
    cases hp : allP every body.length 0 [] body with
    | none => rw [hp] at h; cases h
    | some q =>
      obtain ⟨out, hs2⟩ := q
      rw [hp] at h
      dsimp only at h
      split at h
      · injection h with h
        subst h
        obtain ⟨es, _, _, _, h4, _⟩ := (allP_iff (Nat.le_refl _) out hs2).1 hp
        exact (rises_from out).1 h4
      · cases h

theorem bodyOf_len (es : List (Nat × KV)) : es.length ≤ (bodyOf es).length := by
  induction es with
  | nil => simp [bodyOf]
  | cons e t ih =>
    have h : bodyOf (e :: t) = entryB e.1 e.2 ++ bodyOf t := rfl
    have := entryB_pos e.1 e.2
    rw [h, List.length_append, List.length_cons]
    omega
theorem parseP_len {b : List UInt8} {l : List KV} (h : parseP b = some l) : l.length ≤ b.length := by
  unfold parseP at h
  cases hs : splitB b with
  | none => rw [hs] at h; cases h
  | some q =>
    obtain ⟨body, heads, every⟩ := q
    have hb := (splitB_parts hs).2.2.1
    rw [hs] at h
    dsimp only at h
    cases hp : allP every body.length 0 [] body with
    | none => rw [hp] at h; cases h
    | some q =>
      obtain ⟨out, hs2⟩ := q
      rw [hp] at h
      dsimp only at h
      split at h
      · injection h with h
        subst h
        obtain ⟨es, h1, h2, _, _, _⟩ := (allP_iff (Nat.le_refl _) out hs2).1 hp
        have := bodyOf_len es
        rw [← (allE_put h1).1] at this
        rw [h2, List.length_map]
        omega
      · cases h

/-- Bytes lie in no box of slices. -/
theorem Res2.away {q B : Nat} {W : World} {A : Option Addr} {bs : List UInt8} (h : Res2 q W) (hr : Bytes W B A bs) : Away (fun k => k = q) A bs := by
  intro hne a ha hq
  obtain ⟨ad, b, hA, _, _, hc⟩ := hr.at_ (k := 0) (by cases bs with | nil => exact absurd rfl hne | cons _ _ => simp)
  rw [ha] at hA
  injection hA with hA
  subst hA
  have hb : (a.add 0).block = q := by rw [add_block]; exact hq
  unfold World.cell? at hc
  rw [hb, h] at hc
  dsimp only at hc
  split at hc
  · cases hc
  · have h3 : ∀ (i : Nat) (v : Value), (#[.slice none 0 0, .slice none 0 0] : Array Value)[i]? = some v → v = Value.slice none 0 0 := by
      intro i v hv
      match i with
      | 0 => simp at hv; exact hv.symm
      | 1 => simp at hv; exact hv.symm
      | i + 2 => simp at hv
    have := h3 _ _ hc
    cases this
theorem Res2.ok {q : Nat} {W : World} {p : Pr} (h : Res2 q W) (ho : PrOk W p) (u v : Value) : PrOk ((W.setCell ⟨q, 0, none⟩ u).setCell ⟨q, 1, none⟩ v) p := by
  have hs : ((W.setCell ⟨q, 0, none⟩ u).setCell ⟨q, 1, none⟩ v).heap.size = W.heap.size := by simp
  have e1 := set2_away (h.away ho.k) ho.k (p := q) (q := q) (i := 0) (j := 1) rfl rfl u v
  have e2 := set2_away (h.away ho.v) ho.v (p := q) (q := q) (i := 0) (j := 1) rfl rfl u v
  rw [← hs] at e1 e2
  exact ⟨e1, ho.kc, e2, ho.vc⟩

/-- A pair sought. -/
def SeekP (w w' : World) (e : Ending) (r : Option KV × Int) : Prop :=
  ∃ p : Pr, e = .returned (.tuple #[.agg #[.slice p.A p.k.length p.c, .slice p.A2 p.v.length p.c2], .bool r.1.isSome, .int .i64 r.2]) ∧ p.pair = r.1.getD ([], []) ∧ PrOk w' p ∧ Below w.heap.size w w'
theorem PrOk.nil {w : World} : PrOk w ⟨none, 0, [], none, 0, []⟩ := ⟨Bytes.nil, Nat.le_refl _, Bytes.nil, Nat.le_refl _⟩

set_option maxRecDepth 100000 in
set_option maxHeartbeats 2000000 in
theorem seek_any (A AK : Option Addr) (c cK n : Nat) (bs key : List UInt8) (w : World) (hr : Bytes w w.heap.size A bs) (hn : bs.length = n) (hc : n ≤ c) (hl : n ≤ 100000000) (hk : Bytes w w.heap.size AK key) :
    Calls Try.prog 14 #[.slice A n c, .slice AK key.length cK] w fun e w' => SeekP w w' e (seekV (parseP bs) key) := by
  have HPA := hide fun W (hb : Below w.heap.size w W) => parse_any A c n bs W ((hr.below hb).more hb.size) hn hc hl
  go_enter Try.func14, Try.ntmps14
  have hb1 : Below w.heap.size w (w.alloc (.cells #[.slice AK key.length cK] 25)) := (Below.refl _ _).alloc (Nat.le_refl _) _
  have hb2 := hb1.alloc hb1.size (.cells #[.slice none 0 0, .slice none 0 0] 34)
  have hkb : BoxS w.heap.size (.slice AK key.length cK) ((w.alloc (.cells #[.slice AK key.length cK] 25)).alloc (.cells #[.slice none 0 0, .slice none 0 0] 34)) := by
    have h := heap_alloc_new w (.cells #[.slice AK key.length cK] 25)
    exact (((Below.refl (w.alloc (.cells #[.slice AK key.length cK] 25)).heap.size _).alloc (Nat.le_refl _) (.cells #[.slice none 0 0, .slice none 0 0] 34)).block _ (by simp)).trans h
  have hres : Res2 (w.heap.size + 1) ((w.alloc (.cells #[.slice AK key.length cK] 25)).alloc (.cells #[.slice none 0 0, .slice none 0 0] 34)) := by
    have h := heap_alloc_new (w.alloc (.cells #[.slice AK key.length cK] 25)) (.cells #[.slice none 0 0, .slice none 0 0] 34)
    rw [World.size_alloc] at h
    exact h
  have hz : w.heap.size + 1 < ((w.alloc (.cells #[.slice AK key.length cK] 25)).alloc (.cells #[.slice none 0 0, .slice none 0 0] 34)).heap.size := by simp
  go_wp2_with (go_at_call 12; refine halted ?_)
  refine go_on ?_
  generalize ((w.alloc (.cells #[.slice AK key.length cK] 25)).alloc (.cells #[.slice none 0 0, .slice none 0 0] 34)) = W at *
  refine (HPA.out _ hb2).mono ?_
  clear HPA hb1
  rintro e w1 ⟨A1, c1, l, rfl, hmap, hrow, hcap, hb3⟩
  have hbE := hb2.trans (hb3.mono hb2.size)
  have hz1 := hb3.size
  have hkb1 := hkb.below hb3 (by omega)
  have hres1 := hres.below hb3 hz
  clear hkb hres hr
  cases hp : parseP bs with
  | none =>
    rw [hp] at hmap
    dsimp only [parsedR] at *
    have hl0 : l = [] := by simpa using hmap
    have HPN : Hid (parseP bs = none) := hp
    subst hl0
    have hres2 := hres1.below ((Below.refl w1.heap.size w1).alloc (Nat.le_refl _) (.cells #[.slice A1 0 c1] 22)) (by omega)
    have hbF := hbE.alloc hbE.size (.cells #[.slice A1 0 c1] 22)
    have z0 := hres2.cell0
    have z1 := hres2.cell1
    have f0 := hres2.free 0
    have f1 := hres2.free 1
    clear hp hmap hrow hres1 hres2 hkb1
    go_wp2
    refine bodyPost_ret (v := .tuple #[.agg #[.slice none 0 0, .slice none 0 0], .bool false, .int .i64 3]) (by simp [results, Try.results14, go_sem, z0, z1]) rfl ?_
    rw [HPN.out]
    exact ⟨⟨none, 0, [], none, 0, []⟩, rfl, rfl, PrOk.nil, set_below (set_below hbF (by omega) 0 _) (by omega) 1 _⟩
  | some L =>
    rw [hp] at hmap
    dsimp only [parsedR] at *
    subst hmap
    have hmono := rises_mono (parseP_rises hp) key
    have HPN : Hid (parseP bs = some (l.map Pr.pair)) := hp
    have hl1 : l.length ≤ 100000000 := by
      have := parseP_len hp
      rw [List.length_map] at this
      omega
    have hal : Below w1.heap.size w1 (w1.alloc (.cells #[.slice A1 l.length c1] 22)) := (Below.refl w1.heap.size w1).alloc (Nat.le_refl _) _
    have hbF := hbE.trans (hal.mono hbE.size)
    have hbx := hkb1.below hal (by omega)
    have hres2 := hres1.below hal (by omega)
    have hlb : (w1.alloc (.cells #[.slice A1 l.length c1] 22)).cell? ⟨w1.heap.size, 0, none⟩ = some (.slice A1 l.length c1) := by simp
    have hsb : SeekBox (w1.alloc (.cells #[.slice A1 l.length c1] 22)) w1.heap.size w.heap.size A1 c1 l AK cK key := ⟨hlb, hbx.cell, hrow.below hal, (hk.below hbF).more hbF.size⟩
    have HSE := hide (search_any (w1.alloc (.cells #[.slice A1 l.length c1] 22)) w1.heap.size w.heap.size A1 c1 l AK cK key hsb (by omega) hmono)
    have hrow2 := hrow.below hal
    have hwz : w1.heap.size < (w1.alloc (.cells #[.slice A1 l.length c1] 22)).heap.size := by simp
    clear hmono hp hsb hbx hkb1 hres1 hk hrow
    go_wp2_with (go_at_call 33; refine halted ?_)
    refine go_on ?_
    generalize w1.alloc (.cells #[.slice A1 l.length c1] 22) = w2 at *
    refine HSE.out.mono ?_
    clear HSE
    rintro e w3 ⟨⟨m, rfl, hfirst⟩, k, rfl⟩
    have hfind := find_first hfirst
    have hml : m ≤ l.length := by have := hfirst.1; rw [List.length_map] at this; exact this
    have hlb3 : (w2.drewN k).cell? ⟨w1.heap.size, 0, none⟩ = some (.slice A1 l.length c1) := hlb
    have hbG := below_drewN' hbF k
    have hres3 : Res2 (w.heap.size + 1) (w2.drewN k) := hres2
    have z0 := hres3.cell0
    have z1 := hres3.cell1
    have f0 := hres3.free 0
    have f1 := hres3.free 1
    by_cases hme : m = l.length
    · have HV : Hid (seekV (parseP bs) key = (none, 0)) := by
        show _ = _
        rw [HPN.out]
        unfold seekV
        dsimp only
        rw [hfind, hme, List.getElem?_eq_none (by rw [List.length_map]; exact Nat.le_refl _)]
      have hb1 : ((m : Int) == (l.length : Int)) = true := beq_iff_eq.2 (by omega)
      clear hfirst hfind hme hrow2 hres2 hres3 hlb hb2 hb3
      go_wp2
      refine bodyPost_ret (v := .tuple #[.agg #[.slice none 0 0, .slice none 0 0], .bool false, .int .i64 0]) (by simp [results, Try.results14, go_sem, z0, z1]) rfl ?_
      rw [HV.out]
      exact ⟨⟨none, 0, [], none, 0, []⟩, rfl, rfl, PrOk.nil, set_below (set_below hbG (by omega) 0 _) (by omega) 1 _⟩
    · obtain ⟨ad, p, hA, hadb, hpm, hc0, hd0, hpo⟩ := hrow2.get (k := m) (by omega)
      subst hA
      have HV : Hid (seekV (parseP bs) key = (some p.pair, 0)) := by
        show _ = _
        rw [HPN.out]
        unfold seekV
        dsimp only
        rw [hfind, List.getElem?_map, hpm.out]
        rfl
      have hb1 : ((m : Int) == (l.length : Int)) = false := by rw [beq_eq_false_iff_ne]; omega
      have j1 : (m : Int) < (l.length : Int) := by omega
      have hc3 : (w2.drewN k).cell? (ad.add (m * 2)) = some (.slice p.A p.k.length p.c) := hc0
      have hd3 : (w2.drewN k).cell? ⟨(ad.add (m * 2)).block, (ad.add (m * 2)).off + 1, none⟩ = some (.slice p.A2 p.v.length p.c2) := hd0
      have hpo3 : PrOk (w2.drewN k) p := ⟨hpo.k, hpo.kc, hpo.v, hpo.vc⟩
      have hlow := hbE.size
      have hpoE := hres3.ok hpo3 (.slice p.A p.k.length p.c) (.slice p.A2 p.v.length p.c2)
      clear hfirst hfind hme hrow2 hres2 hres3 hlb hb2 hb3 hpm hc0 hd0
      go_wp2
      refine bodyPost_ret (v := .tuple #[.agg #[.slice p.A p.k.length p.c, .slice p.A2 p.v.length p.c2], .bool true, .int .i64 0]) (by simp [results, Try.results14, go_sem, z0, z1]) rfl ?_
      rw [HV.out]
      exact ⟨p, rfl, rfl, hpoE, set_below (set_below hbG (by omega) 0 _) (by omega) 1 _⟩

set_option maxRecDepth 100000 in
set_option maxHeartbeats 2000000 in
theorem rseek_any (A AK : Option Addr) (c cK n : Nat) (bs key : List UInt8) (w : World) (hr : Bytes w w.heap.size A bs) (hn : bs.length = n) (hc : n ≤ c) (hl : n ≤ 20000) (hk : Bytes w w.heap.size AK key) :
    Calls Try.prog 15 #[.slice A n c, .slice AK key.length cK] w fun e w' => SeekP w w' e (seekV (parseQ bs) key) := by
  have HPA := hide fun W (hb : Below w.heap.size w W) => rparse_any A c n bs W ((hr.below hb).more hb.size) hn hc hl
  go_enter Try.func15, Try.ntmps15
  have hb2 : Below w.heap.size w (w.alloc (.cells #[.slice none 0 0, .slice none 0 0] 34)) := (Below.refl _ _).alloc (Nat.le_refl _) _
  have hres : Res2 w.heap.size (w.alloc (.cells #[.slice none 0 0, .slice none 0 0] 34)) := heap_alloc_new w _
  have hz : w.heap.size < (w.alloc (.cells #[.slice none 0 0, .slice none 0 0] 34)).heap.size := by simp
  go_wp2_with (go_at_call 13; refine halted ?_)
  refine go_on ?_
  generalize (w.alloc (.cells #[.slice none 0 0, .slice none 0 0] 34)) = W at *
  refine (HPA.out _ hb2).mono ?_
  clear HPA
  rintro e w1 ⟨A1, c1, l, rfl, hmap, hrow, hcap, hb3⟩
  have hbE := hb2.trans (hb3.mono hb2.size)
  have hz1 := hb3.size
  have hres1 := hres.below hb3 hz
  clear hres hr
  cases hp : parseQ bs with
  | none =>
    rw [hp] at hmap
    dsimp only [parsedR] at *
    have hl0 : l = [] := by simpa using hmap
    have HPN : Hid (parseQ bs = none) := hp
    subst hl0
    have z0 := hres1.cell0
    have z1 := hres1.cell1
    have f0 := hres1.free 0
    have f1 := hres1.free 1
    clear hp hmap hrow hres1
    go_wp2
    refine bodyPost_ret (v := .tuple #[.agg #[.slice none 0 0, .slice none 0 0], .bool false, .int .i64 3]) (by simp [results, Try.results15, go_sem, z0, z1]) rfl ?_
    rw [HPN.out]
    exact ⟨⟨none, 0, [], none, 0, []⟩, rfl, rfl, PrOk.nil, set_below (set_below hbE (by omega) 0 _) (by omega) 1 _⟩
  | some L =>
    rw [hp] at hmap
    dsimp only [parsedR] at *
    subst hmap
    have HPN : Hid (parseQ bs = some (l.map Pr.pair)) := hp
    have hl1 : l.length ≤ 20000 := by
      have hp2 : parseP bs = some (l.map Pr.pair) := by rw [parse_same (by omega)]; exact hp
      have := parseP_len hp2
      rw [List.length_map] at this
      omega
    clear hp
    have hz2 : w.heap.size < w1.heap.size := by omega
    have hkW := (hk.below hbE).more hbE.size
    have z0 := hres1.cell0
    have z1 := hres1.cell1
    have f0 := hres1.free 0
    have f1 := hres1.free 1
    have k2 := fun (m : Nat) => run_str (P := Try.prog) (w := w1.drewN m) (dst := 9) (c := cK) Try.underlying25 Try.underlying5 Try.underlying9 (drewN_bytes hkW) rfl
    have HR1 := hide hres1
    clear hres1 hb3 hkW
    go_wp2
    go_loopw [9] (fun i wr => ∃ k m : Nat, k ≤ l.length ∧ i = .int .i64 (k : Int) ∧ wr = w1.drewN m ∧ Hid (∀ (j : Nat) (p : KV), j < k → (l.map Pr.pair)[j]? = some p → notLess key p = false)) (fun i _ => l.length - (intOf i).toNat)
    case atStart => exact ⟨0, 0, Nat.zero_le _, rfl, rfl, by show ∀ _, _; intro j p hj; omega⟩
    case round =>
      obtain ⟨k, m, hk', rfl, rfl, HS⟩ := hrel
      by_cases hlt : k < l.length
      · obtain ⟨ad, p, rfl, hadb, hpm, hc0, hd0, hpo⟩ := hrow.get hlt
        have k1 := fun (m : Nat) => run_str (P := Try.prog) (w := w1.drewN m) (dst := 9) (c := p.c) Try.underlying25 Try.underlying5 Try.underlying9 (drewN_bytes hpo.k) rfl
        have j1 : (k : Int) < (l.length : Int) := by omega
        have hpm2 : (l.map Pr.pair)[k]? = some p.pair := by rw [List.getElem?_map, hpm.out]; rfl
        have HPM := hide hpm2
        clear hpm2
        cases hless : Op.bytesLess p.k key with
        | true =>
          have hlb : Op.bytesLess (strB p.k).toList (strB key).toList = true := by rw [strB_toList, strB_toList, hless]
          have HS2 : Hid (∀ (j : Nat) (p : KV), j < k + 1 → (l.map Pr.pair)[j]? = some p → notLess key p = false) := by
            show ∀ _, _
            intro j q hj hq
            by_cases hjk : j < k
            · exact HS.out j q hjk hq
            · obtain rfl : j = k := by omega
              rw [HPM.out] at hq
              injection hq with hq
              subst hq
              show (!Op.bytesLess p.k key) = false
              rw [hless]; rfl
          clear hrow hpo hless HS HPM hd0 z0 z1 f0 f1
          go_wp2
          go_quiet (fail)
          go_wp2
          go_roundw
          case rel => exact ⟨k + 1, m + nq, by omega, by go_num, rfl, HS2.out⟩
          case measure => simp [intOf]; omega
        | false =>
          have hlb : Op.bytesLess (strB p.k).toList (strB key).toList = false := by rw [strB_toList, strB_toList, hless]
          have hF : IsFirst key (l.map Pr.pair) k := ⟨by rw [List.length_map]; omega, HS.out, fun q hq => by
            rw [HPM.out] at hq
            injection hq with hq
            subst hq
            show (!Op.bytesLess p.k key) = true
            rw [hless]; rfl⟩
          have HV : Hid (seekV (parseQ bs) key = (some p.pair, 0)) := by
            show _ = _
            rw [HPN.out]
            unfold seekV
            dsimp only
            rw [find_first hF, HPM.out]
          have HPO := hide hpo
          clear hrow hpo hless HS HPM hF HPN
          go_wp2
          go_quiet (fail)
          have hresE : Res2 w.heap.size (w1.drewN (m + nq)) := HR1.out
          have hpoE := hresE.ok ⟨HPO.out.k, HPO.out.kc, HPO.out.v, HPO.out.vc⟩ (.slice p.A p.k.length p.c) (.slice p.A2 p.v.length p.c2)
          have hbG := below_drewN' hbE (m + nq)
          clear k1 k2 HR1
          go_wp2
          refine bodyPost_ret (v := .tuple #[.agg #[.slice p.A p.k.length p.c, .slice p.A2 p.v.length p.c2], .bool true, .int .i64 0]) (by simp [results, Try.results15, go_sem, z0, z1]) rfl ?_
          rw [HV.out]
          exact ⟨p, rfl, rfl, hpoE, set_below (set_below hbG (by omega) 0 _) (by omega) 1 _⟩
      · obtain rfl : k = l.length := by omega
        have hF : IsFirst key (l.map Pr.pair) l.length := ⟨by rw [List.length_map]; exact Nat.le_refl _, HS.out, fun q hq => by
          rw [List.getElem?_eq_none (by rw [List.length_map]; exact Nat.le_refl _)] at hq
          cases hq⟩
        have HV : Hid (seekV (parseQ bs) key = (none, 0)) := by
          show _ = _
          rw [HPN.out]
          unfold seekV
          dsimp only
          rw [find_first hF, List.getElem?_eq_none (by rw [List.length_map]; exact Nat.le_refl _)]
        have hbG := below_drewN' hbE m
        clear hrow HS hF HPN HR1 k2
        go_wp2
        refine bodyPost_ret (v := .tuple #[.agg #[.slice none 0 0, .slice none 0 0], .bool false, .int .i64 0]) (by simp [results, Try.results15, go_sem, z0, z1]) rfl ?_
        rw [HV.out]
        exact ⟨⟨none, 0, [], none, 0, []⟩, rfl, rfl, PrOk.nil, set_below (set_below hbG (by omega) 0 _) (by omega) 1 _⟩
end Go.Proofs.Yteagjjiggneheaa
