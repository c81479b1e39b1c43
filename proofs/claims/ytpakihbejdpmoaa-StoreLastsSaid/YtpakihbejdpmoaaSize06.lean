/-
  store's Size.
-/
import Derived.Test.YtpakihbejdpmoaaCreate
import Derived.Maps.Ext
namespace Go.Proofs.Ytpakihbejdpmoaa
open Go.RowKit Go.Maps
set_option linter.unusedVariables false

/-- How many bytes a file has. -/
def lenOf (files : List Fi) (q : Nat) : Nat := match files.find? fun f => f.q == q with
  | some f => f.bs.length
  | none => 0
/-- How many bytes the files of names have that are left. -/
def leftSum (files : List Fi) (left : Lit → Bool) (l : Dir) : Nat := match l with
  | [] => 0
  | e :: r => (if left (.string e.1) then lenOf files e.2 else 0) + leftSum files left r
def sizeS (s : SS) : Nat := (s.now.map fun e => lenOf s.files e.2).sum
theorem find_fi {files : List Fi} (hp : files.Pairwise fun f g => f.q ≠ g.q) {f : Fi} (hf : f ∈ files) : files.find? (fun g => g.q == f.q) = some f := by
  induction files with
  | nil => cases hf
  | cons g r ih =>
    rw [List.pairwise_cons] at hp
    rcases List.mem_cons.1 hf with h | h
    · subst h
      simp
    · have hne : g.q ≠ f.q := hp.1 f h
      rw [List.find?_cons_of_neg (by simpa using hne)]
      exact ih hp.2 h
theorem lenOf_mem {files : List Fi} (hp : files.Pairwise fun f g => f.q ≠ g.q) {f : Fi} (hf : f ∈ files) : lenOf files f.q = f.bs.length := by
  unfold lenOf
  rw [find_fi hp hf]
theorem leftSum_all {files : List Fi} {left : Lit → Bool} {l : Dir} (h : ∀ e ∈ l, left (.string e.1) = true) : leftSum files left l = (l.map fun e => lenOf files e.2).sum := by
  induction l with
  | nil => rfl
  | cons e r ih =>
    unfold leftSum
    rw [if_pos (h e (List.mem_cons_self ..)), ih (fun x hx => h x (List.mem_cons_of_mem _ hx))]
    simp
theorem leftSum_none {files : List Fi} {left : Lit → Bool} {l : Dir} (h : ∀ k, left k = false) : leftSum files left l = 0 := by
  induction l with
  | nil => rfl
  | cons e r ih => unfold leftSum; rw [if_neg (by rw [h]; simp), ih]
theorem leftSum_same {files : List Fi} {left left' : Lit → Bool} {l : Dir} (h : ∀ e ∈ l, left (.string e.1) = left' (.string e.1)) : leftSum files left l = leftSum files left' l := by
  induction l with
  | nil => rfl
  | cons e r ih =>
    unfold leftSum
    rw [h e (List.mem_cons_self ..), ih (fun x hx => h x (List.mem_cons_of_mem _ hx))]
theorem leftSum_strike {files : List Fi} {left : Lit → Bool} {l : Dir} {nm : List UInt8} {q : Nat} (hd : l.Pairwise fun a b => a.1 ≠ b.1) (hm : (nm, q) ∈ l) (hl : left (.string nm) = true) :
    leftSum files left l = leftSum files (fun z => left z && !z.sameKey (.string nm)) l + lenOf files q := by
  induction l with
  | nil => cases hm
  | cons e r ih =>
    rw [List.pairwise_cons] at hd
    unfold leftSum
    rcases List.mem_cons.1 hm with h | h
    · subst h
      have h1 : leftSum files (fun z => left z && !z.sameKey (.string nm)) r = leftSum files left r := leftSum_same fun x hx => by
        have := hd.1 x hx
        have hk : Lit.sameKey (.string x.1) (.string nm) = false := by
          show (x.1 == nm) = false
          rw [beq_eq_false_iff_ne]
          exact fun e => this e.symm
        rw [hk]; simp
      rw [h1]
      dsimp only
      have hk : Lit.sameKey (.string nm) (.string nm) = true := by show (nm == nm) = true; simp
      rw [hl, hk]
      simp
      omega
    · have hne : e.1 ≠ nm := hd.1 _ h
      have hk : Lit.sameKey (.string e.1) (.string nm) = false := by
        show (e.1 == nm) = false
        rw [beq_eq_false_iff_ne]; exact hne
      rw [ih hd.2 h, hk]
      simp
      omega
theorem dir_apart {w : World} {b : Nat} {l : Dir} (h : OwnsDir w b l) : l.Pairwise fun a b => a.1 ≠ b.1 := by
  obtain ⟨es, hes, hp⟩ := World.ownsMap.tidy h (string_keyed Try.underlying9)
  unfold dirD at hes
  injection hes with hes
  rw [← hes, List.pairwise_map] at hp
  exact hp.imp fun h e => h (by unfold enD; rw [e])
theorem dir_entry {l : Dir} {nm : List UInt8} {y : DataW Unit} (h : ∀ zd, (dirD l).atKey (.string nm) zd = y) : ∃ q, dFind l nm = some q ∧ y = .lit (.int .i64 (q : Int)) := by
  cases hf : dFind l nm with
  | some q =>
    have := h (.map [])
    rw [dirD_at, hf] at this
    exact ⟨q, rfl, this.symm⟩
  | none =>
    have h1 := h (.lit (.bool true))
    have h2 := h (.lit (.bool false))
    rw [dirD_at, hf] at h1 h2
    dsimp only at h1 h2
    rw [← h2] at h1
    injection h1 with h1
    injection h1 with h1
    cases h1

set_option maxRecDepth 100000 in
set_option maxHeartbeats 4000000 in
theorem size_any (q : Nat) (s : SS) (w : World) (hs : Sm q s w) (hsz : sizeS s ≤ 1000000000000) :
    Calls Try.prog 17 #[.pointer (some ⟨q, 0, none⟩)] w fun e w' => e = .returned (.int .i64 (sizeS s : Int)) ∧ Below w.heap.size w w' := by
  have c1 := hs.box.cell 1
  simp at c1
  go_enter Try.func17, Try.ntmps17
  have HS := hide hs
  have HN := hide hs.mnow
  clear hs
  go_wp2_with (at_range; refine halted ?_)
  refine go_on ?_
  refine wpList_range_own _ rfl (.tmp 9) 55 rfl 9 68 (string_keyed Try.underlying9) Try.underlying55 ptrR s.bn s.now.length (dirD s.now) rfl HN.out ?_
  intro w0 hrg0 hg0 hs0
  have hb0 : Below w.heap.size w w0 := (Below.refl _ _).grown hg0 (Nat.le_refl _) (fun k hk => by cases hk)
  have hap := dir_apart HN.out
  have HAP := hide hap
  have h00 : Hid (0 + leftSum s.files (Maps.has (dirD s.now)) s.now = sizeS s) := by
    show _ = _
    rw [Nat.zero_add, leftSum_all]
    · rfl
    · intro e he
      rw [dirD_has]
      unfold dFind
      rw [Option.isSome_map, List.isSome_find?]
      exact List.any_eq_true.2 ⟨e, he, by simp⟩
  clear hap c1 hg0 hs0
  go_wp2
  go_frame
  go_loopw [3] (fun n wr => ∃ (left : Lit → Bool) (cnt v : Nat), n = .int .i64 (v : Int) ∧ v ≤ sizeS s ∧ wr.ranges Try.prog 9 ptrR s.bn w.heap.size s.now.length (dirD s.now) left cnt ∧ Hid (v + leftSum s.files left s.now = sizeS s) ∧ Below w.heap.size w wr) (fun _ wr => wr.rangeLeft s.bn w.heap.size)
  case atStart => exact ⟨_, _, 0, rfl, Nat.zero_le _, hrg0, h00, hb0⟩
  case round =>
    obtain ⟨left, cnt, v, rfl, hv, hrg, HV, hb⟩ := hrel
    go_wp2_with (at_next; refine halted ?_)
    refine go_on ?_
    have HRG := hide hrg
    clear hrg hrg0
    refine wpList_next_ranges _ rfl (.tmp 10) rfl 9 (string_keyed Try.underlying9) ptrR strV Value.pointer (fun key kl hk => by obtain ⟨x, hx, _⟩ := WideMaps.string_of_keyOf Try.underlying9 hk; exact ⟨x, hx⟩)
      (fun v y hv => by rcases ptrR_inv hv with ⟨h, _⟩ | ⟨b, h, _⟩; exact ⟨none, h⟩; exact ⟨_, h⟩) s.bn w.heap.size s.now.length (dirD s.now) left cnt rfl HRG.out ?_ ?_
    · intro hc0 hl0
      have hvs : v = sizeS s := by have := HV.out; rw [leftSum_none hl0] at this; omega
      clear hl0 HRG HV
      go_wp2
      go_ret
      exact ⟨rfl, hb⟩
    · intro x c kl y w2 cnt2 hkey hlk hv2 hat hrg2 hlt hg2 hs2 hen
      obtain ⟨x', ex, hkl, _⟩ := WideMaps.string_of_keyOf Try.underlying9 hkey
      subst hkl
      obtain ⟨qf, hfd, hy⟩ := dir_entry hat
      have hcv : Value.pointer c = .pointer (some ⟨qf, 0, none⟩) := by
        obtain ⟨y1, y2⟩ := y
        dsimp only at hy
        subst hy
        exact ptrR_some hv2
      injection hcv with hcv
      subst hcv
      have hst := leftSum_strike (files := s.files) HAP.out (dFind_mem hfd) hlk
      have hv3 := HV.out
      rw [hst] at hv3
      obtain ⟨f, hf, hfq⟩ := HS.out.nnow _ (dFind_mem hfd)
      have hlo : lenOf s.files qf = f.bs.length := by rw [← show f.q = qf from hfq]; exact lenOf_mem (HS.out.fap.imp fun h => h.1) hf
      rw [hlo] at hv3
      have HV3 : Hid (v + f.bs.length + leftSum s.files (fun z => left z && !z.sameKey (.string x'.data.toList)) s.now = sizeS s) := by show _ = _; omega
      have hb2 : Below w.heap.size w w2 := hb.grown hg2 hb.size (fun k hk => by injection hk with hk; omega)
      have hfb : FiB f w2 := (hb2.block f.q (HS.out.kf hf).lt).trans (HS.out.fbox f hf)
      have c0 := Joins.cell_of_block hfb 0
      simp at c0
      have hfq' : f.q = qf := hfq
      rw [hfq'] at c0
      have hle : v + f.bs.length ≤ sizeS s := by omega
      have HRG2 := hide hrg2
      have HLT : Hid (w2.rangeLeft s.bn w.heap.size < wr.rangeLeft s.bn w.heap.size) := by show _ < _; rw [hrg2.left_eq, HRG.out.left_eq]; exact hlt
      have HE := hide hen
      have hfc : f.bs.length ≤ 1000000000000 := by omega
      clear hkey hlk hv2 hat hy hfd hst hv3 hf hfq hlo hfb hrg2 hlt hg2 hs2 hen HV HRG hfq'
      have hen2 := HE.out
      go_wp2
      go_roundw
      case rel => exact ⟨_, cnt2, v + f.bs.length, by go_num, hle, HRG2.out, HV3.out, hb2⟩
      case measure => exact HLT.out
end Go.Proofs.Ytpakihbejdpmoaa
