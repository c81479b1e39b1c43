/-
  store's Crash: what it leaves, in plain words.
-/
import Derived.Test.YtpakihbejdpmoaaSortD06
import Derived.Test.YtpakihbejdpmoaaRemove06
namespace Go.Proofs.Ytpakihbejdpmoaa
open Go.RowKit Go.Maps
set_option linter.unusedVariables false

/-- A directory with changes made. -/
def apps (l : List Kp) (d : Dir) : Dir := l.foldl (fun d p => p.ch.app d) d
theorem apps_succ {l : List Kp} {k : Nat} {p : Kp} (h : l[k]? = some p) (d : Dir) : apps (l.take (k + 1)) d = p.ch.app (apps (l.take k) d) := by
  unfold apps
  rw [List.take_add_one, h, List.foldl_append]
  rfl
theorem dIns_len (e : List UInt8 × Nat) (l : Dir) : (dIns e l).length = l.length + 1 := by
  induction l with
  | nil => rfl
  | cons y r ih =>
    unfold dIns
    split
    · rfl
    · rw [List.length_cons, List.length_cons, ih]
theorem app_len (c : Chg) (l : Dir) : (c.app l).length ≤ l.length + 1 := by
  have hd : ∀ (l : Dir) nm, (dDel l nm).length ≤ l.length := fun l nm => List.length_filter_le _ _
  unfold Chg.app
  cases c with
  | put nm q => show (dIns _ _).length ≤ _; rw [dIns_len]; exact Nat.succ_le_succ (hd _ _)
  | ren a b q => show (dIns _ _).length ≤ _; rw [dIns_len]; exact Nat.succ_le_succ (Nat.le_trans (hd _ _) (hd _ _))
  | del nm => exact Nat.le_succ_of_le (hd _ _)
theorem apps_len (l : List Kp) (d : Dir) : (apps l d).length ≤ d.length + l.length := by
  unfold apps
  induction l generalizing d with
  | nil => exact Nat.le_refl _
  | cons p r ih =>
    have h1 := ih (p.ch.app d)
    have h2 := app_len p.ch d
    rw [List.foldl_cons, List.length_cons]
    omega
/-- The names of a change are such as a map takes as keys. -/
def Chg.small (c : Chg) : Prop := match c with
  | .put nm _ => nm.size ≤ maxLen
  | .ren a b _ => a.size ≤ maxLen ∧ b.size ≤ maxLen
  | .del nm => nm.size ≤ maxLen
/-- The files of a directory with changes made. -/
theorem app_files {c : Chg} {d : Dir} {files : List Fi} (hd : ∀ e ∈ d, ∃ f ∈ files, f.q = e.2) (hc : c.among files) : ∀ e ∈ c.app d, ∃ f ∈ files, f.q = e.2 := by
  intro e he
  unfold Chg.app at he
  unfold Chg.among at hc
  cases c with
  | put nm q =>
    rcases mem_dPut he with rfl | h
    · exact hc
    · exact hd e h
  | ren a b q =>
    rcases mem_dPut he with rfl | h
    · exact hc
    · exact hd e (mem_dDel h)
  | del nm => exact hd e (mem_dDel he)
theorem apps_files {l : List Kp} {d : Dir} {files : List Fi} (hd : ∀ e ∈ d, ∃ f ∈ files, f.q = e.2) (hl : ∀ p ∈ l, p.ch.among files) : ∀ e ∈ apps l d, ∃ f ∈ files, f.q = e.2 := by
  unfold apps
  induction l generalizing d with
  | nil => exact hd
  | cons p r ih => exact ih (app_files hd (hl p (List.mem_cons_self ..))) (fun x hx => hl x (List.mem_cons_of_mem _ hx))
/-- How many changes are made. -/
def nCh (ch : Int) (n : Nat) : Nat := (min (max ch 0) (n : Int)).toNat
/-- How many bytes of a file stay that were not synced. -/
def keepN (kl : List Int) (i : Nat) (f : Fi) : Nat := match kl[i]? with
  | some v => (min (max v 0) ((f.bs.length : Int) - (f.sure : Int))).toNat
  | none => 0
theorem keepN_le {kl : List Int} {i : Nat} {f : Fi} (h : f.sure ≤ f.bs.length) : f.sure + keepN kl i f ≤ f.bs.length := by
  unfold keepN
  split
  · omega
  · omega
def Fi.cut (f : Fi) (n : Nat) : Fi := { f with bs := f.bs.take (f.sure + n), sure := f.sure + n }
/-- The files behind the one of block q, the i-th of its directory, was cut. -/
def cutAt (kl : List Int) (i q : Nat) (fs : List Fi) : List Fi := match fs.find? fun f => f.q == q with
  | some f => upd fs (f.cut (keepN kl i f))
  | none => fs
def cutN (kl : List Int) (d : Dir) (fs : List Fi) : Nat → List Fi
  | 0 => fs
  | k + 1 => match d[k]? with
    | some e => cutAt kl k e.2 (cutN kl d fs k)
    | none => cutN kl d fs k
theorem upd_own {fs : List Fi} {f f' : Fi} (hf : f ∈ fs) (h1 : f'.q = f.q) (h2 : f'.A = f.A) : ∀ g ∈ upd fs f', ∃ g0 ∈ fs, g0.q = g.q ∧ g0.A = g.A := by
  intro g hg
  rcases mem_upd hg with rfl | ⟨h3, _⟩
  · exact ⟨f, hf, h1.symm, h2.symm⟩
  · exact ⟨g, h3, rfl, rfl⟩
theorem cutAt_own {kl : List Int} {i q : Nat} {fs : List Fi} : ∀ g ∈ cutAt kl i q fs, ∃ g0 ∈ fs, g0.q = g.q ∧ g0.A = g.A := by
  unfold cutAt
  split
  · rename_i f hf
    exact upd_own (List.mem_of_find?_eq_some hf) rfl rfl
  · intro g hg; exact ⟨g, hg, rfl, rfl⟩
theorem cutN_own {kl : List Int} {d : Dir} {fs : List Fi} (k : Nat) : ∀ g ∈ cutN kl d fs k, ∃ g0 ∈ fs, g0.q = g.q ∧ g0.A = g.A := by
  induction k with
  | zero => intro g hg; exact ⟨g, hg, rfl, rfl⟩
  | succ k ih =>
    unfold cutN
    split
    · intro g hg
      obtain ⟨g1, h1, h2, h3⟩ := cutAt_own g hg
      obtain ⟨g0, h4, h5, h6⟩ := ih g1 h1
      exact ⟨g0, h4, h5.trans h2, h6.trans h3⟩
    · exact ih
/-- What a crash leaves. -/
def craD (s : SS) (ch : Int) : Dir := apps (s.kept.take (nCh ch s.kept.length)) s.disk
def CraS (s : SS) (ch : Int) (kl : List Int) (s' : SS) : Prop :=
  s'.room = s.room ∧ s'.kept = [] ∧ s'.plan = [] ∧ s'.off = false ∧ s'.now = craD s ch ∧ s'.disk = craD s ch ∧ s'.files = cutN kl (craD s ch) s.files (craD s ch).length
def CraR (q : Nat) (s : SS) (w : World) (ch : Int) (kl : List Int) (e : Ending) (w' : World) : Prop :=
  e = .returned (.tuple #[]) ∧ ∃ s', Did q s w s' w' ∧ CraS s ch kl s'
/-- What stands under the k-th name of a directory. -/
theorem find_at {d : Dir} (hd : d.Pairwise fun a b => a.1 ≠ b.1) {k : Nat} {e : List UInt8 × Nat} (h : d[k]? = some e) : dFind d e.1 = some e.2 := by
  unfold dFind
  have hm : e ∈ d := List.mem_of_getElem? h
  clear h k
  induction d with
  | nil => cases hm
  | cons x r ih =>
    rw [List.pairwise_cons] at hd
    rcases List.mem_cons.1 hm with h | h
    · subst h; simp
    · have hne : ¬ x.1 = e.1 := hd.1 e h
      rw [List.find?_cons_of_neg (by simpa using hne)]
      exact ih hd.2 h
theorem OwnB.cut {w : World} {base : Nat} {t : TypeId} {A : Option Addr} {c : Nat} {bs : List UInt8} (h : OwnB w base t A c bs) {n : Nat} (hn : n ≤ bs.length) : OwnB w base t A c (bs.take n) := by
  have hl : (bs.take n).length = n := by rw [List.length_take]; omega
  unfold OwnB at h ⊢
  rw [hl]
  refine ⟨by simp; omega, ?_⟩
  rcases h.2 with ⟨h1, h2⟩ | ⟨g, cap, cur, h1, h2, h3, h4, h5, h6, h7⟩
  · injection h1 with h1 h1' h1''
    have : n = 0 := by omega
    subst this
    exact .inl ⟨by rw [h1, h1''], rfl⟩
  · injection h1 with h1 _ h1'
    refine .inr ⟨g, cap, cur, by rw [h1, h1'], h2, h3, by omega, h5, h6, ?_⟩
    rw [List.map_take, ← h7, List.take_take]
    congr 1
    omega
end Go.Proofs.Ytpakihbejdpmoaa
