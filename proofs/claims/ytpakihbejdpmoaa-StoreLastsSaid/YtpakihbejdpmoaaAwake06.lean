/-
  awake: a store of one file.
-/
import Derived.Test.YtpakihbejdpmoaaNew
namespace Go.Proofs.Ytpakihbejdpmoaa
open Go.RowKit Go.Maps
set_option linter.unusedVariables false

/-- A store of one file alone. -/
def One (s : SS) (room : Int) (nm : ByteArray) (bs : List UInt8) : Prop := s.room = room ∧ ∃ f : Fi, s.files = [f] ∧ f.bs = bs ∧ s.now = [(nm.data.toList, f.q)]
theorem One.size {s : SS} {room : Int} {nm : ByteArray} {bs : List UInt8} (h : One s room nm bs) : sizeS s = bs.length := by
  obtain ⟨_, f, h1, h2, h3⟩ := h
  unfold sizeS
  rw [h1, h3]
  simp [lenOf, h2]
theorem One.find {s : SS} {room : Int} {nm : ByteArray} {bs : List UInt8} (h : One s room nm bs) : ∃ q, dFind s.now nm.data.toList = some q := by
  obtain ⟨_, f, h1, h2, h3⟩ := h
  rw [h3]
  exact ⟨f.q, by simp [dFind]⟩
theorem One.len {s : SS} {room : Int} {nm : ByteArray} {bs : List UInt8} (h : One s room nm bs) : ∀ f ∈ s.files, f.bs.length = bs.length := by
  obtain ⟨_, f, h1, h2, h3⟩ := h
  intro g hg
  rw [h1] at hg
  rw [List.mem_singleton.1 hg, h2]
theorem One.made {s s' : SS} {nm : ByteArray} {m : Int × List UInt8 × Bool} (h : CreS s nm m s') (hf : s.files = []) (hn : s.now = []) (hE : createE m (dFind s.now nm.data.toList).isSome = 0) : One s' s.room nm [] := by
  obtain ⟨h1, h2, h3, h4, h5⟩ := h
  rw [if_pos hE] at h5
  obtain ⟨qf, g1, g2, g3, g4⟩ := h5
  refine ⟨h1, ⟨qf, none, 0, [], 0⟩, by rw [g2, hf]; rfl, rfl, ?_⟩
  rw [g3, hn]
  rfl
theorem One.put {s s' : SS} {room : Int} {nm : ByteArray} {bs ds : List UInt8} {m : Int × List UInt8 × Bool} {E : Int} (h : One s room nm bs) (h1 : AppS s nm ds m E s') : (E = 0 → One s' room nm (bs ++ ds)) ∧ (E ≠ 0 → One s' room nm bs) := by
  obtain ⟨hr, f, g1, g2, g3⟩ := h
  obtain ⟨a1, a2, a3, a4, a5, a6, a7, a8⟩ := h1
  refine ⟨fun hE => ?_, fun hE => ⟨a1.trans hr, f, (a8 hE).trans g1, g2, a3.trans g3⟩⟩
  obtain ⟨f', hf, h2, A, c, h3⟩ := a7 hE
  rw [g1] at hf
  rw [List.mem_singleton.1 hf] at h3
  refine ⟨a1.trans hr, { f with A := A, c := c, bs := f.bs ++ ds }, ?_, by rw [g2], a3.trans g3⟩
  rw [h3, g1]
  simp [upd]
theorem newS_size (room : Int) (bn bd : Nat) : sizeS (newS room bn bd) = 0 := rfl

set_option maxRecDepth 100000 in
set_option maxHeartbeats 4000000 in
theorem awake_any (w : World) : Calls Try.prog 9 #[] w fun e w' => e = .returned (.bool true) ∧ Below w.heap.size w w' := by
  go_enter Try.func9, Try.ntmps9
  go_wp2_with (go_at_call 10; refine halted ?_)
  refine go_on ?_
  refine (new_ok w 10 (by omega) (by omega)).mono ?_
  rintro e w1 ⟨q, bn, bd, rfl, hs, hb, ho⟩
  have HS := hide hs
  have HB := hide hb
  have HO := hide ho
  clear hs hb ho
  go_wp2_with (go_at_call 15; refine halted ?_)
  refine go_on ?_
  have hE : createE (meetE (isNm ⟨#[97]⟩) (newS 10 bn bd).off (newS 10 bn bd).plan) (dFind (newS 10 bn bd).now (⟨#[97]⟩ : ByteArray).data.toList).isSome = 0 := by
    show createE (meetE (isNm ⟨#[97]⟩) false []) (dFind [] (⟨#[97]⟩ : ByteArray).data.toList).isSome = 0
    decide
  refine (create_any q _ w1 HS.out ⟨#[97]⟩ (by decide) (Nat.zero_le _) (Nat.zero_le _) (Nat.zero_le _)).mono ?_
  rintro e w2 ⟨rfl, s2, hd, hc⟩
  have hone := One.made hc rfl rfl hE
  rw [hE]
  have hpl : s2.plan = [] := hc.2.2.1
  have hof : s2.off = false := hc.2.2.2.1
  have HD := hide hd
  have HO1 := hide hone
  have HP := hide hpl
  have HF := hide hof
  clear hd hone hpl hof hc hE
  go_wp2_with (go_at_call 18; refine halted ?_)
  refine go_on ?_
  have hA : Below w2.heap.size w2 (w2.alloc (.cells #[.int .u8 7] 5)) := (Below.refl _ _).alloc (Nat.le_refl _) _
  have hr : Bytes (w2.alloc (.cells #[.int .u8 7] 5)) (w2.alloc (.cells #[.int .u8 7] 5)).heap.size (some ⟨w2.heap.size, 0, none⟩) [7] := (OwnB.lit (base := 0) w2 5 (bs := [7]) (Nat.zero_le _) (by decide)).bytes
  have haw : Away (s2.own q) (some ⟨w2.heap.size, 0, none⟩) [7] := by
    intro _ a ha h
    injection ha with ha
    subst ha
    exact absurd (HD.out.sm.lt h) (Nat.lt_irrefl _)
  generalize w2.alloc (.cells #[.int .u8 7] 5) = u at *
  have hE : appendE (meetE (isNm ⟨#[97]⟩) s2.off s2.plan) (dFind s2.now (⟨#[97]⟩ : ByteArray).data.toList) 10 (sizeS s2) 1 = 0 := by
    obtain ⟨q', hq'⟩ := HO1.out.find
    rw [HP.out, HF.out, HO1.out.size, hq', show meetE (isNm ⟨#[97]⟩) false [] = (0, [], false) by decide]
    rfl
  refine (append_any q s2 u (HD.out.sm.call hA) ⟨#[97]⟩ (by decide) (by rw [HP.out]; exact Nat.zero_le _) 10 HO1.out.1 (by omega) (by rw [HO1.out.size]; exact Nat.zero_le _) (fun f hf => by rw [HO1.out.len f hf]; exact Nat.zero_le _) _ 1 1 [7] rfl hr (by omega) haw).mono ?_
  rintro e w3 ⟨rfl, s3, hd3, ha3⟩
  rw [hE] at ha3 ⊢
  have hone := (HO1.out.put ha3).1 rfl
  have HD3 := hide ((HD.out.trans (Did.call HD.out.sm hA)).trans hd3)
  have hsz : sizeS s3 = 1 := hone.size
  have HZ := hide (size_any q s3 w3 hd3.sm (by rw [hsz]; omega))
  rw [hsz] at HZ
  clear hA hr haw hE hd3 ha3 hone hsz
  go_wp2_with (go_at_call 17; refine halted ?_)
  refine go_on ?_
  refine HZ.out.mono ?_
  rintro e w4 ⟨rfl, hb4⟩
  have HB4 := hide ((HB.out.trans (HD3.out.kept.below HO.out HB.out.size)).trans (hb4.mono (Nat.le_trans HB.out.size HD3.out.kept.size)))
  clear HZ
  go_wp2
  go_ret
  exact ⟨rfl, HB4.out⟩
end Go.Proofs.Ytpakihbejdpmoaa
