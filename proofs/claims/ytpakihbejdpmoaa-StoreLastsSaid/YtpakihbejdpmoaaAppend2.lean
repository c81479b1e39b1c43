/-
  store's Append: what it does with a file, walked.
-/
import Derived.Test.YtpakihbejdpmoaaAppend1
import Derived.IntWalk
import Derived.Test.YtpakihbejdpmoaaStep
namespace Go.Proofs.Ytpakihbejdpmoaa
open Go.RowKit Go.Maps
set_option linter.unusedVariables false

/-- What an appending to a file that is there answers. -/
def appE (room size n : Nat) : Int := if room < size + n then 6 else 0
/-- What it does. -/
def AppP (q : Nat) (s : SS) (w : World) (f : Fi) (bs : List UInt8) (E : Int) (e : Ending) (w' : World) : Prop :=
  e = .returned (.int .i64 E) ∧ (E = 0 → ∃ A' c', Did q s w { s with files := upd s.files { f with A := A', c := c', bs := f.bs ++ bs } } w') ∧ (E ≠ 0 → Did q s w s w')
theorem BxS.lt {b : Nat} {s : ByteArray} {w : World} (h : BxS b s w) : b < w.heap.size := (Array.getElem?_eq_some_iff.1 h).1
def BxB (b : Nat) (A : Option Addr) (n c : Nat) (w : World) : Prop := w.heap[b]? = some (.cells #[.slice A n c] 33 (0, 0))
def BxQ (b q : Nat) (w : World) : Prop := w.heap[b]? = some (.cells #[.pointer (some ⟨q, 0, none⟩)] 24 (0, 0))
theorem BxB.below {b : Nat} {A : Option Addr} {n c : Nat} {w w' : World} (h : BxB b A n c w) (hb : Below w.heap.size w w') : BxB b A n c w' := (hb.block b (Array.getElem?_eq_some_iff.1 h).1).trans h
theorem BxQ.below {b q : Nat} {w w' : World} (h : BxQ b q w) (hb : Below w.heap.size w w') : BxQ b q w' := (hb.block b (Array.getElem?_eq_some_iff.1 h).1).trans h

set_option maxRecDepth 100000 in
set_option maxHeartbeats 4000000 in
theorem append1_any (q : Nat) (s : SS) (w : World) (hs : Sm q s w) (f : Fi) (hf : f ∈ s.files) (room : Nat) (hroom : s.room = (room : Int)) (hrm : room ≤ 16777216) (hsz : sizeS s ≤ 1000000000000) (hfl : f.bs.length ≤ 1000000000000) (b1 b2 : Nat) (A : Option Addr) (n c : Nat) (bs : List UInt8) (hn : bs.length = n) (hr : Bytes w w.heap.size A bs) (hbl : n ≤ 1000000000)
    (haw : ∀ g ∈ s.files, Away (InRow g.A) A bs) (h1 : BxB b1 A n c w) (h2 : BxQ b2 q w) :
    Calls Try.prog 44 #[.pointer (some ⟨f.q, 0, none⟩), .pointer (some ⟨b1, 0, none⟩), .pointer (some ⟨b2, 0, none⟩)] w fun e w' => AppP q s w f bs (appE room (sizeS s) n) e w' := by
  obtain ⟨E, HEE⟩ : ∃ E, Hid (E = appE room (sizeS s) n) := ⟨_, rfl⟩
  rw [← HEE.out]
  have k1 := Joins.cell_of_block h1 0
  have k2 := Joins.cell_of_block h2 0
  have c0 := hs.box.cell 0
  simp at k1 k2 c0
  go_enter Try.func44, Try.ntmps44
  rw [hroom] at c0
  obtain ⟨z, hz⟩ : ∃ z : Nat, z = sizeS s := ⟨_, rfl⟩
  have HSZ := hide fun W (hb : Below w.heap.size w W) => size_any q s W (hs.call hb) hsz
  have hb1 : b1 < w.heap.size := (Array.getElem?_eq_some_iff.1 h1).1
  have hb2 : b2 < w.heap.size := (Array.getElem?_eq_some_iff.1 h2).1
  have hq := hs.kq.lt
  have HK := hide fun W (hb' : Below w.heap.size w W) => show W.cell? ⟨b1, 0, none⟩ = some (.slice A n c) ∧ W.cell? ⟨b2, 0, none⟩ = some (.pointer (some ⟨q, 0, none⟩)) ∧ W.cell? ⟨q, 0, none⟩ = some (.int .i64 (room : Int)) from
    ⟨(hb'.cell (p := ⟨b1, 0, none⟩) hb1).trans k1, (hb'.cell (p := ⟨b2, 0, none⟩) hb2).trans k2, (hb'.cell (p := ⟨q, 0, none⟩) hq).trans c0⟩
  rw [← hz] at hsz HSZ HEE
  have HZ := hide hz
  have hBd := below_dN (Below.refl w.heap.size w) 1
  have hSd : w.drew.cell? ⟨b1, 0, none⟩ = some (.slice A n c) ∧ w.drew.cell? ⟨b2, 0, none⟩ = some (.pointer (some ⟨q, 0, none⟩)) ∧ w.drew.cell? ⟨q, 0, none⟩ = some (.int .i64 (room : Int)) := HK.out _ hBd
  have s1 : IntKind.i64.wrap ((room : Int) - (z : Int)) = (room : Int) - (z : Int) := IntWalk.i64_in _ (by omega)
  have HS := hide hs
  have HR := hide hr
  have HAW := hide haw
  have HF := hide hf
  have H1 := hide h1
  clear hz hs hr haw hf h1 h2 k1 k2 c0 hroom
  by_cases hfull : room < z + n
  · have HE : Hid (E = 6) := HEE.out.trans (if_pos hfull)
    have hlt : (room : Int) - (z : Int) < (n : Int) := by omega
    clear hfull
    go_wp2
    go_region_held3 (fun W => W.cell? ⟨b1, 0, none⟩ = some (.slice A n c) ∧ W.cell? ⟨b2, 0, none⟩ = some (.pointer (some ⟨q, 0, none⟩)) ∧ W.cell? ⟨q, 0, none⟩ = some (.int .i64 (room : Int)))
      (with_reducible assumption)
      ((go_at_call 17; (refine (HSZ.out _ hBd).mono ?_); rintro e w2 ⟨rfl, hb3⟩; have hb4 := hBd.trans (hb3.mono hBd.size); have hS3 := HK.out _ hb4))
    go_wp2
    go_ret
    exact ⟨by rw [HE.out]; rfl, ⟨fun h => absurd (HE.out.symm.trans h) (by decide), fun _ => Did.call HS.out hb4⟩⟩
  · have HE : Hid (E = 0) := HEE.out.trans (if_neg hfull)
    have hge : (n : Int) ≤ (room : Int) - (z : Int) := by omega
    clear hfull
    go_wp2
    go_region_held3 (fun W => W.cell? ⟨b1, 0, none⟩ = some (.slice A n c) ∧ W.cell? ⟨b2, 0, none⟩ = some (.pointer (some ⟨q, 0, none⟩)) ∧ W.cell? ⟨q, 0, none⟩ = some (.int .i64 (room : Int)))
      (with_reducible assumption)
      ((go_at_call 17; (refine (HSZ.out _ hBd).mono ?_); rintro e w2 ⟨rfl, hb3⟩; have hb4 := hBd.trans (hb3.mono hBd.size); have hS3 := HK.out _ hb4))
    have hs2 := HS.out.call hb4
    have hfb := hs2.fbox f HF.out
    have hown := hs2.frow f HF.out
    have hr2 := (HR.out.below hb4).more hb4.size
    have d0 := Joins.cell_of_block hfb 0
    have g0 := Joins.unfrozen_of_block hfb 0
    simp at d0
    have hfq : f.q < w2.heap.size := (hs2.kf HF.out).lt
    have e1 := hS3.1
    have HS2 := hide hs2
    have HFB := hide hfb
    have HOWN := hide hown
    have HR2 := hide hr2
    clear hs2 hfb hown hr2 hSd hS3 s1 HSZ HK
    go_wp2
    go_region_law
      (first
        | (refine step_append_bytes _ rfl (.tmp 19) (.tmp 20) 33 rfl 0 5 Try.underlying33 info_u8 f.A f.bs.length f.c f.bs rfl rfl (show OwnB w2.drew 0 5 f.A f.c f.bs from HOWN.out) w2.heap.size A n c bs rfl hn.symm (show Bytes w2.drew w2.heap.size A bs from HR2.out) (by omega) (Nat.zero_le _) ?_
           intro ds A5 c5 w5 hds hdl hown5 hg5 hat5
           have hk5 : Kept (InRow f.A) w2 w5 := (Kept.of_below (below_dN (Below.refl w2.heap.size w2) 1)).trans (Kept.of_grown hg5 (fun k e => e))
           have hfb5 : FiB f w5 := (hk5.block f.q hfq (fun e => (HS2.out.kr HF.out e).ne (HS2.out.kf HF.out) (by decide) rfl)).trans HFB.out
           have d5 := Joins.cell_of_block hfb5 0
           have g5 := Joins.unfrozen_of_block hfb5 0
           simp at d5))
    all_goals
      have hk6 : Kept (fun k => k = f.q ∨ InRow f.A k) w2 (w5.setCell ⟨f.q, 0, none⟩ (.slice A5 ds.length c5)) := (hk5.wider fun k _ e => .inr e).trans (Kept.set w5 (.inl rfl) 0 _)
      have hfb6 : FiB { f with A := A5, c := c5, bs := ds } (w5.setCell ⟨f.q, 0, none⟩ (.slice A5 ds.length c5)) := Joins.block_setCell hfb5 _
      have hown6 := (keptQ w5 f.q 0 (.slice A5 ds.length c5)).own hown5 (fun k hk e => (Kb.of_row hown5 hk).ne ⟨_, _, hfb5⟩ (by decide) e)
      have hat6 : ∀ k, InRow A5 k → InRow f.A k ∨ w2.heap.size ≤ k := by
        intro k hk
        rcases hat5 with e | e
        · exact .inl (by unfold InRow at hk ⊢; rw [← e]; exact hk)
        · refine .inr ?_
          unfold InRow at hk
          rw [e] at hk
          injection hk with hk
          rw [← hk]
          exact Nat.le_refl _
      have hdl : ds.length = f.bs.length + bs.length := by rw [hds.out, List.length_append]
      have hsm := HS2.out.turnFile (f' := { f with A := A5, c := c5, bs := ds }) HF.out rfl hk6 hfb6 hown6 (by have := HS2.out.fsure f HF.out; dsimp only; omega) hat6
      have hdid : Did q s w { s with files := upd s.files { f with A := A5, c := c5, bs := f.bs ++ bs } } (w5.setCell ⟨f.q, 0, none⟩ (.slice A5 ds.length c5)) := by
        rw [← hds.out]
        refine ⟨hsm, (Kept.of_below hb4).trans_in hk6 (fun k hk e => .inr (.inr (.inr (.inr (.inr (.inl ⟨f, HF.out, e⟩)))))), ?_⟩
        have hz := hb4.size
        rintro k (h | h | h | h | h | ⟨g, hg, h⟩ | h)
        · exact .inl (.inl h)
        · exact .inl (.inr (.inl h))
        · exact .inl (.inr (.inr (.inl h)))
        · exact .inl (.inr (.inr (.inr (.inl h))))
        · exact .inl (.inr (.inr (.inr (.inr (.inl h)))))
        · rcases mem_upd hg with rfl | ⟨g1, _⟩
          · rcases h with h | h
            · exact .inl (.inr (.inr (.inr (.inr (.inr (.inl ⟨f, HF.out, .inl h⟩))))))
            · rcases hat6 k h with h | h
              · exact .inl (.inr (.inr (.inr (.inr (.inr (.inl ⟨f, HF.out, .inr h⟩))))))
              · exact .inr (Nat.le_trans hz h)
          · exact .inl (.inr (.inr (.inr (.inr (.inr (.inl ⟨g, g1, h⟩))))))
        · exact .inl (.inr (.inr (.inr (.inr (.inr (.inr h))))))
      have HDID := hide hdid
      clear hk6 hfb6 hown6 hat6 hsm hdid hk5 hfb5 hown5 hg5 hat5 hdl
      go_wp2
      go_ret
      exact ⟨by rw [HE.out]; rfl, ⟨fun _ => ⟨A5, c5, HDID.out⟩, fun h => absurd HE.out h⟩⟩
end Go.Proofs.Ytpakihbejdpmoaa
