/-
  store's New, Off; the document's New.
-/
import Derived.Test.YtpakihbejdpmoaaAppend
namespace Go.Proofs.Ytpakihbejdpmoaa
open Go.RowKit Go.Maps
set_option linter.unusedVariables false

/-- A new store. -/
def newS (room : Int) (bn bd : Nat) : SS := ⟨room, bn, bd, [], [], none, 0, [], none, 0, [], false, []⟩
theorem newS_own {room : Int} {q bn bd k : Nat} (h : (newS room bn bd).own q k) : k = q ∨ k = bn ∨ k = bd := by
  rcases h with h | h | h | h | h | ⟨f, hf, _⟩ | ⟨p, hp, _⟩
  · exact .inl h
  · exact .inr (.inl h)
  · exact .inr (.inr h)
  · unfold InRow newS at h; simp at h
  · unfold InRow newS at h; simp at h
  · cases hf
  · cases hp
theorem newS_sm {room : Int} {q bn bd : Nat} {w : World} (hb : StB q (newS room bn bd) w) (hn : OwnsDir w bn []) (hd : OwnsDir w bd []) (hne : bn ≠ bd) : Sm q (newS room bn bd) w :=
  ⟨hb, hn, hd, hne, World.ownsRow_nil _ _ _ _, Bytes.nil, Nat.le_refl _, fun k h => by unfold InRow newS at h; simp at h, fun f h => (by cases h), fun f h => (by cases h), fun f h => (by cases h), List.Pairwise.nil, fun f h => (by cases h), fun f h => (by cases h), fun f h => (by cases h), fun f h => (by cases h)⟩
def NewOk (w : World) (room : Int) (e : Ending) (w' : World) : Prop := ∃ q bn bd, e = .returned (.tuple #[.pointer (some ⟨q, 0, none⟩), .int .i64 0]) ∧ Sm q (newS room bn bd) w' ∧ Below w.heap.size w w' ∧ ∀ k, (newS room bn bd).own q k → w.heap.size ≤ k

set_option maxRecDepth 100000 in
set_option maxHeartbeats 4000000 in
theorem new_no (w : World) (room : Int) (h : room < 1 ∨ 16777216 < room) :
    Calls Try.prog 10 #[.int .i64 room] w fun e w' => e = .returned (.tuple #[.pointer none, .int .i64 1]) ∧ w' = w := by
  go_enter Try.func10, Try.ntmps10
  by_cases h1 : room < 1
  · go_wp2
    go_ret2
    exact ⟨rfl, rfl⟩
  · have h2 : 16777216 < room := by omega
    go_wp2
    go_ret2
    exact ⟨rfl, rfl⟩

set_option maxRecDepth 100000 in
set_option maxHeartbeats 4000000 in
theorem new_ok (w : World) (room : Int) (h1 : ¬ room < 1) (h2 : ¬ 16777216 < room) :
    Calls Try.prog 10 #[.int .i64 room] w (NewOk w room) := by
  have hmm := @run_makeMap Try.prog
  go_enter Try.func10, Try.ntmps10
  go_wp2
  go_ret2
  have n1 : OwnsDir (w.alloc (.map #[] 0)) w.heap.size [] := OwnsDir.of (World.ownsMap_made w _ _ _)
  have n2 : OwnsDir ((w.alloc (.map #[] 0)).alloc (.map #[] 0)) (w.heap.size + 1) [] := by
    have := World.ownsMap_made (w.alloc (.map #[] 0)) Try.prog 9 ptrR
    rw [World.size_alloc] at this
    exact OwnsDir.of this
  have kk : ∀ (v : World) (o : Obj), Kept (fun _ => False) v (v.alloc o) := fun v o => Kept.of_below ((Below.refl v.heap.size v).alloc (Nat.le_refl _) o)
  have n3 := dir_kept (dir_kept n1 (kk _ (.map #[] 0)) (fun h => h)) (kk _ (.cells #[.int .i64 room, .map (some w.heap.size), .map (some (w.heap.size + 1)), .slice none 0 0, .slice none 0 0, .bool false] 58)) (fun h => h)
  have n4 := dir_kept n2 (kk _ (.cells #[.int .i64 room, .map (some w.heap.size), .map (some (w.heap.size + 1)), .slice none 0 0, .slice none 0 0, .bool false] 58)) (fun h => h)
  have hb := heap_alloc_new ((w.alloc (.map #[] 0)).alloc (.map #[] 0)) (.cells #[.int .i64 room, .map (some w.heap.size), .map (some (w.heap.size + 1)), .slice none 0 0, .slice none 0 0, .bool false] 58)
  rw [World.size_alloc, World.size_alloc] at hb
  refine ⟨w.heap.size + 1 + 1, w.heap.size, w.heap.size + 1, rfl, newS_sm hb n3 n4 (by omega), (((Below.refl _ _).alloc (Nat.le_refl _) _).alloc (by simp) _).alloc (by simp; omega) _, ?_⟩
  intro k hk
  rcases newS_own hk with rfl | rfl | rfl
  · omega
  · omega
  · omega

set_option maxRecDepth 100000 in
set_option maxHeartbeats 4000000 in
theorem off_any (q : Nat) (s : SS) (w : World) (hs : Sm q s w) :
    Calls Try.prog 19 #[.pointer (some ⟨q, 0, none⟩)] w fun e w' => e = .returned (.bool s.off) ∧ w' = w := by
  have c5 := hs.box.cell 5
  simp at c5
  go_enter Try.func19, Try.ntmps19
  clear hs
  go_wp2
  go_ret
  exact ⟨rfl, rfl⟩

def RNewR (w : World) (room : Int) (e : Ending) (w' : World) : Prop := ∃ p, e = .returned (.tuple #[.pointer p, .int .i64 (if room < 1 ∨ 16777216 < room then 1 else 0)]) ∧ Below w.heap.size w w'
set_option maxRecDepth 100000 in
set_option maxHeartbeats 4000000 in
theorem rnew_any (w : World) (room : Int) :
    Calls Try.prog 11 #[.int .i64 room] w (RNewR w room) := by
  go_enter Try.func11, Try.ntmps11
  by_cases h1 : room < 1
  · go_wp2
    go_ret2
    exact ⟨none, by rw [if_pos (.inl h1)]; rfl, Below.refl _ _⟩
  · by_cases h2 : 16777216 < room
    · go_wp2
      go_ret2
      exact ⟨none, by rw [if_pos (.inr h2)]; rfl, Below.refl _ _⟩
    · go_wp2
      go_ret2
      exact ⟨_, by rw [if_neg (by omega)]; rfl, (Below.refl _ _).alloc (Nat.le_refl _) _⟩
end Go.Proofs.Ytpakihbejdpmoaa
