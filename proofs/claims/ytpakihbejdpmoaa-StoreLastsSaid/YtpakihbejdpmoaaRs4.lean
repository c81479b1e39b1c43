/-
  The reference's Size, Names, Read, Same.
-/
import Derived.Test.YtpakihbejdpmoaaRsA
import Derived.Test.YtpakihbejdpmoaaRead06
import Derived.BigQuiet
import Derived.Sort.EncStr
namespace Go.Proofs.Ytpakihbejdpmoaa
open Go.RowKit Go.Sort
set_option linter.unusedVariables false

def lenAt (files : List Rf) (k : Nat) : Nat := match files[k]? with
  | some f => f.bs.length
  | none => 0
def rsizeS (s : RS) : Nat := (s.now.map fun e => lenAt s.files e.2).sum
theorem sum_drop {l : Dir} {k : Nat} {e : List UInt8 × Nat} (h : l[k]? = some e) (g : List UInt8 × Nat → Nat) : ((l.drop k).map g).sum = g e + ((l.drop (k + 1)).map g).sum := by
  have hk : k < l.length := (List.getElem?_eq_some_iff.1 h).1
  have hx : l[k] = e := (List.getElem?_eq_some_iff.1 h).2
  rw [List.drop_eq_getElem_cons hk, hx, List.map_cons, List.sum_cons]

set_option maxRecDepth 100000 in
set_option maxHeartbeats 4000000 in
theorem rsize_any (r : Nat) (s : RS) (w : World) (hs : Rm r s w) (hsz : rsizeS s ≤ 1000000000000) (hl : s.now.length ≤ 1000000000) :
    Calls Try.prog 38 #[.pointer (some ⟨r, 0, none⟩)] w fun e w' => e = .returned (.int .i64 (rsizeS s : Int)) ∧ Below w.heap.size w w' := by
  have HS := hide hs
  clear hs
  go_enter Try.func38, Try.ntmps38
  go_wp2
  go_loopw [3, 4] (fun n i wr => ∃ (k : Nat) (v : Int), k ≤ s.now.length ∧ n = .int .i64 v ∧ 0 ≤ v ∧ i = .int .i64 (k : Int) ∧ Hid (v + (((s.now.drop k).map fun e => lenAt s.files e.2).sum : Nat) = (rsizeS s : Int)) ∧ Below w.heap.size w wr) (fun _ i _ => s.now.length - (intOf i).toNat)
  case atStart => exact ⟨0, 0, Nat.zero_le _, rfl, by omega, rfl, by show _ = _; rw [List.drop_zero, Int.zero_add]; rfl, Below.refl _ _⟩
  case round =>
    obtain ⟨k, v, hk, rfl, hv0, rfl, HV, hb⟩ := hrel
    have hsr := HS.out.call hb
    have c1 := hsr.box.cell 1
    have c2 := hsr.box.cell 2
    simp at c1 c2
    by_cases hlt : k < s.now.length
    · obtain ⟨e, he⟩ : ∃ e, s.now[k]? = some e := ⟨_, List.getElem?_eq_getElem hlt⟩
      obtain ⟨ad, hA, -, -, hb2⟩ := (Row.of_own hsr.rn.rnow).en he
      have hix := hsr.rn.nnow e (List.mem_of_getElem? he)
      obtain ⟨f, hf⟩ : ∃ f, s.files[e.2]? = some f := ⟨_, List.getElem?_eq_getElem hix⟩
      obtain ⟨adF, hAF, -, hc, -⟩ := (Row.of_own hsr.rn.rfiles).fi hf
      have hla : lenAt s.files e.2 = f.bs.length := by unfold lenAt; rw [hf]
      have hv := HV.out
      rw [sum_drop he, hla] at hv
      obtain ⟨z, hz⟩ : ∃ z : Int, z = v + (f.bs.length : Int) := ⟨_, rfl⟩
      have hwr : IntKind.i64.wrap (v + (f.bs.length : Int)) = z := by rw [hz]; exact IntWalk.i64_in _ (by omega)
      have HV2 := hide (show z + (((s.now.drop (k + 1)).map fun e => lenAt s.files e.2).sum : Nat) = (rsizeS s : Int) from by omega)
      have hz0 : 0 ≤ z := by omega
      have hlt' : (k : Int) < (s.now.length : Int) := by omega
      have hix' : (e.2 : Int) < (s.files.length : Int) := by omega
      have hi0 : (0 : Int) ≤ (e.2 : Int) := by omega
      rw [hA] at c2
      rw [hAF] at c1
      have HB := hide hb
      generalize e.2 = ix at *
      clear he hf hsr hv hz hla HV hA hAF hb
      go_wp2
      go_quiet (fail)
      have hb3 := below_dN HB.out nq
      have HB3 := hide hb3
      clear hb3
      go_wp2
      case roundEnd => exact ⟨⟨k + 1, z, hlt, by go_num, hz0, by simp, HV2.out, HB3.out⟩, by simp [intOf]; omega⟩
    · have hkE : k = s.now.length := by omega
      subst hkE
      have hv := HV.out
      rw [List.drop_length] at hv
      have hvE : v = (rsizeS s : Int) := by simpa using hv
      subst hvE
      have HB := hide hb
      clear HV hb hsr hv
      go_wp2
      go_ret
      exact ⟨rfl, HB.out⟩

/-- The names, as a row. -/
def RNamR (w : World) (l : Dir) (e : Ending) (w' : World) : Prop := ∃ A c, e = .returned (.slice A l.length c) ∧ w'.ownsRow w.heap.size 9 1 (.slice A l.length c) l.length ((l.map (·.1)).map encStr) ∧ Below w.heap.size w w'
def RnmRel (l : Dir) (w : World) (v i : Value) (wr : World) : Prop :=
  ∃ (k : Nat) (A' : Option Addr) (c' : Nat), k ≤ l.length ∧ i = .int .i64 (k : Int) ∧ v = .slice A' k c' ∧ wr.ownsRow w.heap.size 9 1 (.slice A' k c') k (((l.take k).map (·.1)).map encStr) ∧ Below w.heap.size w wr
theorem info_strR : (Try.prog.info? 9).map (fun i => (i.zero, i.size, i.bytes)) = some (some (.string ⟨#[]⟩), 1, 16) := by kernel_rfl

set_option maxRecDepth 100000 in
set_option maxHeartbeats 4000000 in
theorem rnames_any (r : Nat) (s : RS) (w : World) (hs : Rm r s w) (hl : s.now.length ≤ 1000000000) :
    Calls Try.prog 35 #[.pointer (some ⟨r, 0, none⟩)] w (RNamR w s.now) := by
  have HS := hide hs
  clear hs
  obtain ⟨i0, hi, hz0, hz1, hz2⟩ := info_parts info_strR
  go_enter Try.func35, Try.ntmps35
  go_wp2
  go_loopw [3, 4] (fun v i wr => RnmRel s.now w v i wr) (fun _ i _ => s.now.length - (intOf i).toNat)
  case atStart => exact ⟨0, none, 0, Nat.zero_le _, rfl, rfl, World.ownsRow_nil _ _ _ _, Below.refl _ _⟩
  case round =>
    obtain ⟨k, A', c', hk, rfl, rfl, hown, hb⟩ := hrel
    have hsr := HS.out.call hb
    have c2 := hsr.box.cell 2
    simp at c2
    by_cases hlt : k < s.now.length
    · obtain ⟨e, he⟩ : ∃ e, s.now[k]? = some e := ⟨_, List.getElem?_eq_getElem hlt⟩
      obtain ⟨ad, hA, -, ha, -⟩ := (Row.of_own hsr.rn.rnow).en he
      rw [hA] at c2
      have HOWN := hide hown
      have HB := hide hb
      have HTK := hide (take_next he)
      have hlt' : (k : Int) < (s.now.length : Int) := by omega
      clear hown hb he hsr hA
      go_wp2_with (at_builtin; refine halted ?_)
      refine go_on ?_
      refine wpList_append_own _ rfl (.tmp 14) (.tmp 23) 64 rfl w.heap.size 9 i0 _ 1 16 Try.underlying64 hi hz0 hz1 hz2 rfl (by decide) A' k c' _ rfl (World.ownsRow.alloc HOWN.out _) _ _ 1 _ [.string (strB e.1)] rfl rfl (Row.new wr #[.string (strB e.1)] 9 (0, 0)) (by intro u hu; simp at hu; subst hu; rfl) (by unfold maxLen; omega) (by omega) (by have := HB.out.size; simp; exact Nat.le_succ_of_le this) ?_
      intro n' xs' A5 c5 w5 hn' hxs' hnc _ hown5 hg5 hat5
      obtain rfl : n' = k + 1 := hn'.out
      have hb5 : Below w.heap.size w w5 := (HB.out.alloc HB.out.size _).grown hg5 (by have := HB.out.size; simp; exact Nat.le_succ_of_le this) (fun q hq => (World.ownsRow.lt HOWN.out q (by rw [ownBlock_slice]; exact hq)).1)
      have ex : xs' = ((s.now.take (k + 1)).map (·.1)).map encStr := by
        rw [hxs'.out, HTK.out, List.map_append, List.map_append]
        rfl
      rw [ex] at hown5
      have hrel2 : RnmRel s.now w (.slice A5 (k + 1) c5) (.int .i64 ((k : Int) + 1)) w5 := ⟨k + 1, A5, c5, hlt, by simp, rfl, hown5, hb5⟩
      have HR2 := hide hrel2
      clear hn' hxs' hown5 hg5 hat5 hb5 ex hrel2 ha c2
      go_wp2
      case roundEnd => exact ⟨HR2.out, by simp [intOf]; omega⟩
    · have hkE : k = s.now.length := by omega
      subst hkE
      rw [List.take_of_length_le (Nat.le_refl _)] at hown
      have HF := hide (show RNamR w s.now (.returned (.slice A' s.now.length c')) wr from ⟨A', c', rfl, hown, hb⟩)
      clear hown hb hsr
      go_wp2
      go_ret
      exact HF.out

/-- A file read. -/
def RReadR (s : RS) (w : World) (nm : ByteArray) (E : Int) (e : Ending) (w' : World) : Prop :=
  ∃ A c bs, e = .returned (.tuple #[.slice A bs.length c, .int .i64 E]) ∧ OwnB w' w.heap.size 5 A c bs ∧ Below w.heap.size w w' ∧ (E = 0 → ∃ k f, dFind s.now nm.data.toList = some k ∧ s.files[k]? = some f ∧ bs = f.bs) ∧ (E ≠ 0 → bs = [])

set_option maxRecDepth 100000 in
set_option maxHeartbeats 4000000 in
theorem rread_any (r : Nat) (s : RS) (w : World) (hs : Rm r s w) (nm : ByteArray) (hnm : nm.size ≤ maxLen) (hfl : ∀ f ∈ s.files, f.bs.length ≤ 1000000000000) (hl : s.now.length ≤ 1000000000) :
    Calls Try.prog 32 #[.pointer (some ⟨r, 0, none⟩), .string nm] w (RReadR s w nm (readE s.off (isNm nm) (dFind s.now nm.data.toList))) := by
  have HN1 := hide (isName_any nm w hnm)
  have HFI := hide (find_any s.AN w.heap.size s.now.length s.cN s.now w rfl (Row.of_own hs.rn.rnow) hl nm)
  have c1 := hs.box.cell 1
  have c2 := hs.box.cell 2
  have c6 := hs.box.cell 6
  simp at c1 c2 c6
  obtain ⟨E, HE⟩ : ∃ E, Hid (E = readE s.off (isNm nm) (dFind s.now nm.data.toList)) := ⟨_, rfl⟩
  rw [← HE.out]
  have HFIN := hide (show E ≠ 0 → RReadR s w nm E (.returned (.tuple #[.slice none 0 0, .int .i64 E])) w from fun h0 => ⟨none, 0, [], rfl, OwnB.nil _ _ _, Below.refl _ _, fun h => (h0 h).elim, fun _ => rfl⟩)
  have HS := hide hs
  clear hs hnm
  go_enter Try.func32, Try.ntmps32
  go_wp2_with (go_at_call 57; refine halted ?_)
  refine go_on ?_
  refine HN1.out.mono ?_
  rintro e w' ⟨rfl, rfl⟩
  clear HN1
  cases hoff : s.off with
  | true =>
    have hE : E = 8 := by rw [HE.out, hoff]; rfl
    rw [hoff] at c6
    subst hE
    clear hoff
    go_wp2
    go_ret2
    exact HFIN.out (by decide)
  | false =>
    rw [hoff] at c6
    cases hok : isNm nm with
    | false =>
      have hE : E = 1 := by rw [HE.out, hoff, hok]; rfl
      subst hE
      clear hoff hok
      go_wp2
      go_ret2
      exact HFIN.out (by decide)
    | true =>
      cases hfd : dFind s.now nm.data.toList with
      | none =>
        have hE : E = 4 := by rw [HE.out, hoff, hok, hfd]; rfl
        subst hE
        rw [hfd] at HFI
        clear hoff hok hfd
        go_wp2_with (go_at_call 53; refine halted ?_)
        refine go_on ?_
        refine HFI.out.mono ?_
        rintro e w' ⟨rfl, rfl⟩
        dsimp only [findI]
        go_wp2
        go_ret2
        exact HFIN.out (by decide)
      | some k =>
        have hE : E = 0 := by rw [HE.out, hoff, hok, hfd]; rfl
        subst hE
        have hix := HS.out.rn.nnow _ (dFind_mem hfd)
        obtain ⟨f, hf⟩ : ∃ f, s.files[k]? = some f := ⟨_, List.getElem?_eq_getElem hix⟩
        obtain ⟨adF, hAF, hadl, hc, -⟩ := (Row.of_own HS.out.rn.rfiles).fi hf
        rw [hfd] at HFI
        have HX := hide (And.intro hfd hf)
        have hfm : f ∈ s.files := List.mem_of_getElem? hf
        have hflen := hfl f hfm
        obtain ⟨w1, hw1⟩ : ∃ w1, w1 = w.alloc (.cells #[] 5) := ⟨_, rfl⟩
        have hb1 : Below w.heap.size w w1 := by rw [hw1]; exact below_new _ _
        have hl0 : OwnB w1 w.heap.size 5 (some ⟨w.heap.size, 0, none⟩) 0 [] := by rw [hw1]; exact OwnB.lit w 5 [] (Nat.le_refl _) (by unfold maxLen; simp)
        have hfr : Bytes w1 w1.heap.size f.A f.bs := ((HS.out.call hb1).rn.fb f hfm).bytes
        have d1 := (HS.out.call hb1).box.cell 1
        simp at d1
        rw [hAF] at c1 d1
        have hcw : w1.cell? (adF.add (k * 2)) = some (.slice f.A f.bs.length f.c) := (hb1.cell (lt_of_cell hc)).trans hc
        have hix' : (k : Int) < (s.files.length : Int) := by have : k < s.files.length := hix; omega
        have hk0 : (0 : Int) ≤ (k : Int) := by omega
        have HB1 := hide hb1
        have HL0 := hide hl0
        have HFR := hide hfr
        clear hoff hok hfd hf hb1 hl0 hfr hfl hix hfm
        rw [hw1] at d1 hcw
        go_wp2_with (go_at_call 53; refine halted ?_)
        refine go_on ?_
        refine HFI.out.mono ?_
        rintro e w' ⟨rfl, rfl⟩
        dsimp only [findI]
        go_wp2_with (at_builtin; refine halted ?_)
        refine go_on ?_
        rw [← hw1] at *
        refine wpList_append_bytes _ rfl (.tmp 24) (.tmp 32) 33 rfl w.heap.size 5 Try.underlying33 info_u8 (some ⟨w.heap.size, 0, none⟩) 0 0 [] rfl rfl HL0.out w1.heap.size f.A f.bs.length f.c f.bs rfl rfl HFR.out (by simp; omega) HB1.out.size ?_
        intro ds A' c' w2 hds hdl hown hg _
        obtain rfl : ds = f.bs := by rw [hds.out, List.nil_append]
        have hb2 : Below w.heap.size w w2 := HB1.out.grown hg HB1.out.size (fun k hk => by injection hk with hk; simp at hk; omega)
        have HF := hide (show RReadR s w nm 0 (.returned (.tuple #[.slice A' f.bs.length c', .int .i64 0])) w2 from ⟨A', c', f.bs, rfl, hown, hb2, fun _ => ⟨k, f, HX.out.1, HX.out.2, rfl⟩, fun h => (h rfl).elim⟩)
        clear hds hdl hown hg hb2 d1 hcw hc c1 c2 c6
        go_wp2
        go_ret2
        exact HF.out

/-- Are two lists of names alike? -/
theorem enc_at {l : List (List UInt8)} {k : Nat} {x : List UInt8} (h : l[k]? = some x) : (l.map encStr)[k]? = some (.string (strB x)) := by
  rw [List.getElem?_map, h]
  rfl
set_option maxRecDepth 100000 in
set_option maxHeartbeats 4000000 in
theorem sameN_any (A1 A2 : Option Addr) (B n c1 c2 : Nat) (l : List (List UInt8)) (w : World) (hn : l.length = n) (h1 : Row w B A1 (l.map encStr)) (h2 : Row w B A2 (l.map encStr)) (hB : B ≤ w.heap.size) (hl : n ≤ 1000000000) :
    Calls Try.prog 36 #[.slice A1 n c1, .slice A2 n c2] w fun e w' => e = .returned (.bool true) ∧ Below w.heap.size w w' := by
  subst hn
  have H1 := hide h1
  have H2 := hide h2
  clear h1 h2
  go_enter Try.func36, Try.ntmps36
  go_wp2
  go_loopw [5] (fun i wr => ∃ k : Nat, k ≤ l.length ∧ i = .int .i64 (k : Int) ∧ Below w.heap.size w wr) (fun i _ => l.length - (intOf i).toNat)
  case atStart => exact ⟨0, Nat.zero_le _, rfl, Below.refl _ _⟩
  case round =>
    obtain ⟨k, hk, rfl, hb⟩ := hrel
    by_cases hlt : k < l.length
    · obtain ⟨x, hx⟩ : ∃ x, l[k]? = some x := ⟨_, List.getElem?_eq_getElem hlt⟩
      obtain ⟨a1, rfl, -, ha⟩ := (H1.out.belowLe hb hB) k _ (enc_at hx)
      obtain ⟨a2, rfl, -, hc⟩ := (H2.out.belowLe hb hB) k _ (enc_at hx)
      have hlt' : (k : Int) < (l.length : Int) := by omega
      have HB := hide hb
      clear hb hx
      go_wp2
      go_quiet (fail)
      have HB3 := hide (below_dN HB.out nq)
      go_wp2
      case roundEnd => exact ⟨⟨k + 1, hlt, by simp, HB3.out⟩, by simp [intOf]; omega⟩
    · have hkE : k = l.length := by omega
      subst hkE
      have HB := hide hb
      clear hb
      go_wp2
      go_ret
      exact ⟨rfl, HB.out⟩
end Go.Proofs.Ytpakihbejdpmoaa
