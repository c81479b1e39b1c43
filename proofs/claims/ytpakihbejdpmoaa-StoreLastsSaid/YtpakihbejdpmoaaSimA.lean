/-
  Both stores, alike, in plain words. What both stores do at each act, in plain words. Arguments of the laws of stores: lists of acts. Both stores in memory; how much they hold. An act at both stores: what all ways share.
-/
import Derived.Test.YtpakihbejdpmoaaRs7
import Derived.Test.YtpakihbejdpmoaaRs8
import Derived.Test.YtpakihbejdpmoaaCrash1
import Derived.Test.YtpakihbejdpmoaaRename
import Derived.Test.YtpakihbejdpmoaaRemove06
import Derived.Test.YtpakihbejdpmoaaSyncDir
import Derived.Test.YtpakihbejdpmoaaRdBytes
import Derived.Test.YtpakihbejdpmoaaKept
namespace Go.Proofs.Ytpakihbejdpmoaa
open Go.RowKit
set_option linter.unusedVariables false

def qsOf (files : List Fi) : List Nat := files.map (·.q)
def mapD (qs : List Nat) (l : Dir) : Dir := l.map fun e => (e.1, qs.getD e.2 0)
def chOf (qs : List Nat) (c : Rk) : Chg := if c.kind = 0 then .put (strB c.nm) (qs.getD c.ix 0) else if c.kind = 1 then .ren (strB c.nm) (strB c.to) (qs.getD c.ix 0) else .del (strB c.nm)
theorem mapD_find (qs : List Nat) (l : Dir) (nm : List UInt8) : dFind (mapD qs l) nm = (dFind l nm).map fun k => qs.getD k 0 := by
  unfold mapD dFind
  rw [List.find?_map]
  have : ((fun e : List UInt8 × Nat => e.1 == nm) ∘ fun e : List UInt8 × Nat => (e.1, qs.getD e.2 0)) = fun e => e.1 == nm := rfl
  rw [this]
  cases l.find? fun e => e.1 == nm <;> rfl
theorem mapD_some (qs : List Nat) (l : Dir) (nm : List UInt8) : (dFind (mapD qs l) nm).isSome = (dFind l nm).isSome := by
  rw [mapD_find, Option.isSome_map]
theorem mapD_del (qs : List Nat) (l : Dir) (nm : List UInt8) : dDel (mapD qs l) nm = mapD qs (dDel l nm) := by
  unfold mapD dDel
  rw [List.filter_map]
  rfl
theorem mapD_ins (qs : List Nat) (l : Dir) (nm : List UInt8) (k : Nat) : dIns (nm, qs.getD k 0) (mapD qs l) = mapD qs (dIns (nm, k) l) := by
  unfold mapD
  induction l with
  | nil => rfl
  | cons y r ih =>
    rw [List.map_cons]
    unfold dIns
    dsimp only
    split
    · rfl
    · rw [List.map_cons, ih]
theorem mapD_put (qs : List Nat) (l : Dir) (nm : List UInt8) (k : Nat) : dPut (mapD qs l) nm (qs.getD k 0) = mapD qs (dPut l nm k) := by
  unfold dPut
  rw [mapD_del, mapD_ins]
theorem getD_more {qs : List Nat} {q k : Nat} (h : k < qs.length) : (qs ++ [q]).getD k 0 = qs.getD k 0 := by
  rw [List.getD_eq_getElem?_getD, List.getD_eq_getElem?_getD, List.getElem?_append_left h]
theorem getD_end (qs : List Nat) (q : Nat) : (qs ++ [q]).getD qs.length 0 = q := by
  rw [List.getD_eq_getElem?_getD, List.getElem?_append_right (Nat.le_refl _), Nat.sub_self]
  rfl
theorem mapD_more {qs : List Nat} {q : Nat} {l : Dir} (h : ∀ e ∈ l, e.2 < qs.length) : mapD (qs ++ [q]) l = mapD qs l := by
  unfold mapD
  refine List.map_congr_left fun e he => ?_
  rw [getD_more (h e he)]
theorem chOf_more {qs : List Nat} {q : Nat} {l : List Rk} (h : ∀ c ∈ l, c.kind = 0 ∨ c.kind = 1 → c.ix < qs.length) : l.map (chOf (qs ++ [q])) = l.map (chOf qs) := by
  refine List.map_congr_left fun c hc => ?_
  unfold chOf
  split
  · rename_i h0
    rw [getD_more (h c hc (.inl h0))]
  · split
    · rename_i h1
      rw [getD_more (h c hc (.inr h1))]
    · rfl
theorem strB_list (a : List UInt8) : (strB a).data.toList = a := rfl
theorem app_map (qs : List Nat) (c : Rk) (d : Dir) : (chOf qs c).app (mapD qs d) = mapD qs (madeD d c) := by
  unfold chOf madeD
  split
  · show dPut (mapD qs d) (strB c.nm).data.toList _ = _
    rw [strB_list, mapD_put]
  · split
    · show dPut (dDel (mapD qs d) (strB c.nm).data.toList) (strB c.to).data.toList _ = _
      rw [strB_list, strB_list, mapD_del, mapD_put]
    · show dDel (mapD qs d) (strB c.nm).data.toList = _
      rw [strB_list, mapD_del]
theorem apps_map (qs : List Nat) : ∀ (ks : List Kp) (cs : List Rk) (d : Dir), ks.map (·.ch) = cs.map (chOf qs) → apps ks (mapD qs d) = mapD qs (madesD cs d)
  | [], [], d, _ => rfl
  | [], _ :: _, d, h => by simp at h
  | _ :: _, [], d, h => by simp at h
  | k :: ks, c :: cs, d, h => by
    simp only [List.map_cons, List.cons.injEq] at h
    unfold apps madesD
    rw [List.foldl_cons, List.foldl_cons, h.1, app_map]
    exact apps_map qs ks cs (madeD d c) h.2
/-- Both stores, alike. -/
structure Sim (s : SS) (p : PS) : Prop where
  room : p.room = s.room
  files : p.files = s.files.map fun f => (f.bs, f.sure)
  now : s.now = mapD (qsOf s.files) p.now
  disk : s.disk = mapD (qsOf s.files) p.disk
  kept : s.kept.map (·.ch) = p.kept.map (chOf (qsOf s.files))
  plan : p.plan = s.plan
  off : p.off = s.off
  inow : ∀ e ∈ p.now, e.2 < p.files.length
  idisk : ∀ e ∈ p.disk, e.2 < p.files.length
  ikept : ∀ c ∈ p.kept, c.kind = 0 ∨ c.kind = 1 → c.ix < p.files.length
def Far (files : List Fi) : Prop := files.Pairwise fun f g => f.q ≠ g.q
section
variable {s s' : SS} {p : PS}
theorem Sim.len (h : Sim s p) : p.files.length = s.files.length := by rw [h.files, List.length_map]
theorem Sim.qlen (h : Sim s p) : (qsOf s.files).length = p.files.length := by rw [h.len]; unfold qsOf; rw [List.length_map]
theorem qsOf_at {files : List Fi} {k : Nat} {f : Fi} (h : files[k]? = some f) : (qsOf files).getD k 0 = f.q := by
  unfold qsOf
  rw [List.getD_eq_getElem?_getD, List.getElem?_map, h]
  rfl
/-- The file under a name. -/
theorem Sim.file (h : Sim s p) {nm : List UInt8} {k : Nat} (hf : dFind p.now nm = some k) : ∃ f, s.files[k]? = some f ∧ dFind s.now nm = some f.q ∧ p.files[k]? = some (f.bs, f.sure) := by
  have hk := h.inow _ (dFind_mem hf)
  dsimp only at hk
  rw [h.len] at hk
  obtain ⟨f, hx⟩ : ∃ f, s.files[k]? = some f := ⟨_, List.getElem?_eq_getElem hk⟩
  refine ⟨f, hx, ?_, ?_⟩
  · rw [h.now, mapD_find, hf]
    show some ((qsOf s.files).getD k 0) = _
    rw [qsOf_at hx]
  · rw [h.files, List.getElem?_map, hx]
    rfl
theorem Sim.none (h : Sim s p) {nm : List UInt8} (hf : dFind p.now nm = none) : dFind s.now nm = none := by
  rw [h.now, mapD_find, hf]
  rfl
theorem Sim.some_eq (h : Sim s p) (nm : List UInt8) : (dFind s.now nm).isSome = (dFind p.now nm).isSome := by rw [h.now, mapD_some]
theorem far_at {files : List Fi} (hp : Far files) {f g : Fi} {k : Nat} (h : files[k]? = some f) (hg : g ∈ files) (e : g.q = f.q) : g = f :=
  fi_eq hp hg (List.mem_of_getElem? h) e
theorem upd_set {files : List Fi} (hp : Far files) {k : Nat} {f g : Fi} (h : files[k]? = some f) (e : g.q = f.q) : upd files g = files.set k g := by
  have hk := (List.getElem?_eq_some_iff.1 h).1
  have hx := (List.getElem?_eq_some_iff.1 h).2
  unfold upd
  apply List.ext_getElem
  · simp
  · intro i h1 h2
    rw [List.getElem_map, List.getElem_set]
    have hi : i < files.length := by simpa using h1
    by_cases hik : k = i
    · subst hik
      rw [if_pos rfl, hx, if_pos e.symm]
    · rw [if_neg hik, if_neg]
      intro hq
      have hpw := List.pairwise_iff_getElem.1 hp
      rcases Nat.lt_or_ge i k with h3 | h3
      · exact hpw i k hi hk h3 (by rw [hx, hq, e])
      · exact hpw k i hk hi (by omega) (by rw [hx, hq, e])
theorem qsOf_set {files : List Fi} {k : Nat} {f g : Fi} (h : files[k]? = some f) (e : g.q = f.q) : qsOf (files.set k g) = qsOf files := by
  unfold qsOf
  rw [List.map_set, e]
  have hk := (List.getElem?_eq_some_iff.1 h).1
  have hx := (List.getElem?_eq_some_iff.1 h).2
  apply List.ext_getElem
  · simp
  · intro i h1 h2
    rw [List.getElem_set]
    split
    · rename_i e2
      subst e2
      rw [List.getElem_map, hx]
    · rfl
theorem files_set {files : List Fi} {k : Nat} {f : Fi} (h : files[k]? = some f) (g : Fi) : (files.set k g).map (fun f => (f.bs, f.sure)) = updAt (files.map fun f => (f.bs, f.sure)) k fun _ => (g.bs, g.sure) := by
  unfold updAt
  rw [List.getElem?_map, h, List.map_set]
  rfl
/-- A file turned. -/
theorem Sim.turn (h : Sim s p) (hp : Far s.files) {k : Nat} {f g : Fi} (hf : s.files[k]? = some f) (e : g.q = f.q) {x : List UInt8 × Nat} (hx : (g.bs, g.sure) = x) {t : SS} (ht : t.files = upd s.files g) (h1 : t.room = s.room) (h2 : t.now = s.now) (h3 : t.disk = s.disk) (h4 : t.kept = s.kept) (m : Int × List UInt8 × Bool) (h5 : t.plan = m.2.1) (h6 : t.off = m.2.2)
    {y : List UInt8 × Nat → List UInt8 × Nat} (hy : y (f.bs, f.sure) = x) : Sim t { p.met m with files := updAt p.files k y } := by
  have hu := upd_set hp hf e
  have hl : (updAt p.files k y).length = p.files.length := by unfold updAt; split <;> simp
  have hfx : p.files[k]? = some (f.bs, f.sure) := by rw [h.files, List.getElem?_map, hf]; rfl
  refine ⟨by rw [h1]; exact h.room, ?_, ?_, ?_, ?_, by rw [h5]; rfl, by rw [h6]; rfl, ?_, ?_, ?_⟩
  · show updAt p.files k y = _
    rw [ht, hu, files_set hf, hx, ← h.files]
    unfold updAt
    rw [hfx]
    show p.files.set k (y (f.bs, f.sure)) = _
    rw [hy]
  · rw [h2, ht, hu, qsOf_set hf e]; exact h.now
  · rw [h3, ht, hu, qsOf_set hf e]; exact h.disk
  · rw [h4, ht, hu, qsOf_set hf e]; exact h.kept
  · intro z hz; show z.2 < (updAt p.files k y).length; rw [hl]; exact h.inow z hz
  · intro z hz; show z.2 < (updAt p.files k y).length; rw [hl]; exact h.idisk z hz
  · intro z hz h0; show z.ix < (updAt p.files k y).length; rw [hl]; exact h.ikept z hz h0
/-- The plan and the power turned alone. -/
theorem Sim.meet (h : Sim s p) {t : SS} (m : Int × List UInt8 × Bool) (h0 : t.files = s.files) (h1 : t.room = s.room) (h2 : t.now = s.now) (h3 : t.disk = s.disk) (h4 : t.kept.map (·.ch) = s.kept.map (·.ch)) (h5 : t.plan = m.2.1) (h6 : t.off = m.2.2) : Sim t (p.met m) :=
  ⟨by rw [h1]; exact h.room, by rw [h0]; exact h.files, by rw [h2, h0]; exact h.now, by rw [h3, h0]; exact h.disk, by rw [h4, h0]; exact h.kept, by rw [h5]; rfl, by rw [h6]; rfl, h.inow, h.idisk, h.ikept⟩
end
theorem sum_congr2 (g1 g2 : List UInt8 × Nat → Nat) (l : Dir) (h : ∀ e ∈ l, g1 e = g2 e) : (l.map g1).sum = (l.map g2).sum := by rw [List.map_congr_left h]
theorem Sim.size {s : SS} {p : PS} (h : Sim s p) (hp : Far s.files) : sizeS s = psize p := by
  unfold sizeS psize
  rw [h.now]
  unfold mapD
  rw [List.map_map]
  refine sum_congr2 _ _ _ fun e he => ?_
  have hk := h.inow e he
  rw [h.len] at hk
  obtain ⟨f, hx⟩ : ∃ f, s.files[e.2]? = some f := ⟨_, List.getElem?_eq_getElem hk⟩
  show lenOf s.files ((qsOf s.files).getD e.2 0) = _
  rw [qsOf_at hx, lenOf_mem hp (List.mem_of_getElem? hx), h.files, List.getElem?_map, hx]
  rfl
end Go.Proofs.Ytpakihbejdpmoaa
namespace Go.Proofs.Ytpakihbejdpmoaa
open Go.RowKit
set_option linter.unusedVariables false

section
variable {s s' : SS} {p : PS} {m : Int × List UInt8 × Bool}
theorem sim_create (h : Sim s p) {nm : ByteArray} (hc : CreS s nm m s') : createE m (dFind s.now nm.data.toList).isSome = (pCreate p nm m).1 ∧ Sim s' (pCreate p nm m).2 := by
  obtain ⟨h1, h2, h3, h4, h5⟩ := hc
  unfold pCreate
  rw [h.some_eq] at h5 ⊢
  by_cases h0 : m.1 = 0
  case neg =>
    have e : createE m (dFind p.now nm.data.toList).isSome = m.1 := by unfold createE; rw [if_pos h0]
    rw [e, if_neg h0] at h5
    rw [e, if_pos h0]
    exact ⟨rfl, h.meet m h5.1 h1 h5.2.1 h2 (by rw [h5.2.2]) h3 h4⟩
  have hn0 : ¬ m.1 ≠ 0 := fun h => h h0
  cases hf : (dFind p.now nm.data.toList).isSome with
  | true =>
    have e : createE m true = 5 := by unfold createE; rw [if_neg hn0]; rfl
    rw [hf, e, if_neg (by decide)] at h5
    rw [e, if_neg hn0, if_pos rfl]
    exact ⟨rfl, h.meet m h5.1 h1 h5.2.1 h2 (by rw [h5.2.2]) h3 h4⟩
  | false =>
    have e : createE m false = 0 := by unfold createE; rw [if_neg hn0]; rfl
    rw [hf, e, if_pos rfl] at h5
    rw [e, if_neg hn0, if_neg (by decide)]
    obtain ⟨qf, hn, h5, h6, h7⟩ := h5
    have hq : qsOf s'.files = qsOf s.files ++ [qf] := by unfold qsOf; rw [h5, List.map_append]; rfl
    have hl := h.qlen
    have hle : (p.files ++ [(([] : List UInt8), 0)]).length = p.files.length + 1 := by simp
    refine ⟨rfl, by rw [h1]; exact h.room, ?_, ?_, ?_, ?_, by rw [h3]; rfl, by rw [h4]; rfl, ?_, ?_, ?_⟩
    · show p.files ++ [([], 0)] = _
      rw [h5, List.map_append, h.files]
      rfl
    · show s'.now = mapD _ (madeD p.now ⟨0, nm.data.toList, [], p.files.length⟩)
      rw [h6, hq, ← app_map, mapD_more (by rw [hl]; exact h.inow), ← h.now]
      unfold chOf
      rw [if_pos rfl]
      show _ = dPut s.now (strB nm.data.toList).data.toList ((qsOf s.files ++ [qf]).getD p.files.length 0)
      rw [← hl, getD_end]
      rfl
    · show s'.disk = mapD _ p.disk
      rw [h2, hq, mapD_more (by rw [hl]; exact h.idisk), ← h.disk]
    · show _ = (p.kept ++ [(⟨0, nm.data.toList, [], p.files.length⟩ : Rk)]).map (chOf (qsOf s'.files))
      rw [h7, hq, List.map_append, chOf_more (by rw [hl]; exact h.ikept), ← h.kept]
      congr 1
      show _ = [chOf (qsOf s.files ++ [qf]) ⟨0, nm.data.toList, [], p.files.length⟩]
      unfold chOf
      rw [if_pos rfl]
      show [Chg.put nm qf] = [Chg.put (strB nm.data.toList) ((qsOf s.files ++ [qf]).getD p.files.length 0)]
      rw [← hl, getD_end]
      rfl
    · show ∀ e ∈ madeD p.now ⟨0, nm.data.toList, [], p.files.length⟩, e.2 < (p.files ++ [([], 0)]).length
      rw [hle]
      exact madeD_ix (fun e he => Nat.lt_succ_of_lt (h.inow e he)) (fun _ => Nat.lt_succ_self _)
    · show ∀ e ∈ p.disk, e.2 < (p.files ++ [([], 0)]).length
      rw [hle]
      exact fun e he => Nat.lt_succ_of_lt (h.idisk e he)
    · show ∀ c ∈ p.kept ++ [(⟨0, nm.data.toList, [], p.files.length⟩ : Rk)], _ → c.ix < (p.files ++ [([], 0)]).length
      rw [hle]
      intro c hc hk
      rcases List.mem_append.1 hc with hc | hc
      · exact Nat.lt_succ_of_lt (h.ikept c hc hk)
      · rw [List.mem_singleton.1 hc]
        exact Nat.lt_succ_self _
theorem sim_sync (h : Sim s p) (hp : Far s.files) {nm : ByteArray} {E : Int} (hE : E = synE m (dFind s.now nm.data.toList)) (hc : SynS s nm m E s') : E = (pSync p nm m).1 ∧ Sim s' (pSync p nm m).2 := by
  obtain ⟨h1, h2, h3, h4, h5, h6, h7, h8⟩ := hc
  unfold pSync
  unfold synE at hE
  by_cases h0 : m.1 = 0
  case neg =>
    rw [if_pos h0] at hE ⊢
    have hne : E ≠ 0 := by rw [hE]; exact h0
    exact ⟨hE, h.meet m (h8 hne) h1 h3 h2 (by rw [h4]) h5 h6⟩
  rw [if_neg (by omega)] at hE ⊢
  cases hf : dFind p.now nm.data.toList with
  | none =>
    rw [h.none hf] at hE
    have hE : E = 4 := hE
    exact ⟨hE, h.meet m (h8 (by rw [hE]; decide)) h1 h3 h2 (by rw [h4]) h5 h6⟩
  | some k =>
    obtain ⟨f, hx, hfs, hfp⟩ := h.file hf
    rw [hfs] at hE
    refine ⟨hE, ?_⟩
    obtain ⟨g, hg, hgq, hgf⟩ := h7 hE
    rw [hfs] at hgq
    injection hgq with hgq
    have hgf2 := far_at hp hx hg hgq.symm
    subst hgf2
    exact h.turn hp hx rfl (g := { g with sure := g.bs.length }) rfl hgf h1 h3 h2 h4 m h5 h6 rfl
theorem sim_append (h : Sim s p) (hp : Far s.files) {nm : ByteArray} {bs : List UInt8} {E : Int} {room : Nat} (hr : s.room = (room : Int)) (hE : E = appendE m (dFind s.now nm.data.toList) room (sizeS s) bs.length) (hc : AppS s nm bs m E s') : E = (pAppend p nm bs m).1 ∧ Sim s' (pAppend p nm bs m).2 := by
  obtain ⟨h1, h2, h3, h4, h5, h6, h7, h8⟩ := hc
  unfold pAppend
  unfold appendE at hE
  by_cases h0 : m.1 = 0
  case neg =>
    rw [if_pos h0] at hE ⊢
    have hne : E ≠ 0 := by rw [hE]; exact h0
    exact ⟨hE, h.meet m (h8 hne) h1 h3 h2 (by rw [h4]) h5 h6⟩
  rw [if_neg (by omega)] at hE ⊢
  cases hf : dFind p.now nm.data.toList with
  | none =>
    rw [h.none hf] at hE
    have hE : E = 4 := hE
    exact ⟨hE, h.meet m (h8 (by rw [hE]; decide)) h1 h3 h2 (by rw [h4]) h5 h6⟩
  | some k =>
    obtain ⟨f, hx, hfs, hfp⟩ := h.file hf
    rw [hfs] at hE
    dsimp only at hE ⊢
    unfold appE at hE
    rw [h.size hp] at hE
    by_cases hfull : room < psize p + bs.length
    · rw [if_pos hfull] at hE
      rw [if_pos (by rw [h.room, hr]; omega)]
      exact ⟨hE, h.meet m (h8 (by rw [hE]; decide)) h1 h3 h2 (by rw [h4]) h5 h6⟩
    · rw [if_neg hfull] at hE
      rw [if_neg (by rw [h.room, hr]; omega)]
      refine ⟨hE, ?_⟩
      obtain ⟨g, hg, hgq, A, c, hgf⟩ := h7 hE
      rw [hfs] at hgq
      injection hgq with hgq
      have hgf2 := far_at hp hx hg hgq.symm
      subst hgf2
      exact h.turn hp hx rfl (g := { g with A := A, c := c, bs := g.bs ++ bs }) rfl hgf h1 h3 h2 h4 m h5 h6 rfl
/-- A change made and kept. -/
theorem sim_chg (h : Sim s p) {t : SS} (c : Rk) (hc : c.kind = 0 ∨ c.kind = 1 → c.ix < p.files.length) (h0 : t.files = s.files) (h1 : t.room = s.room) (h2 : t.now = (chOf (qsOf s.files) c).app s.now) (h3 : t.disk = s.disk) (h4 : t.kept.map (·.ch) = s.kept.map (·.ch) ++ [chOf (qsOf s.files) c]) (h5 : t.plan = m.2.1) (h6 : t.off = m.2.2) : Sim t ((p.met m).chg c) := by
  refine ⟨by rw [h1]; exact h.room, by rw [h0]; exact h.files, ?_, by rw [h3, h0]; exact h.disk, ?_, by rw [h5]; rfl, by rw [h6]; rfl, madeD_ix h.inow hc, h.idisk, ?_⟩
  · rw [h2, h0, h.now, app_map]
    rfl
  · show _ = (p.kept ++ [c]).map _
    rw [h4, h0, List.map_append, ← h.kept]
    rfl
  · show ∀ x ∈ p.kept ++ [c], _
    intro x hx hk
    rcases List.mem_append.1 hx with hx | hx
    · exact h.ikept x hx hk
    · rw [List.mem_singleton.1 hx] at hk ⊢
      exact hc hk
theorem sim_rename (h : Sim s p) {fr to : ByteArray} {E : Int} (hE : E = renE m (dFind s.now fr.data.toList)) (hc : RenT s fr to m E s') : E = (pRename p fr to m).1 ∧ Sim s' (pRename p fr to m).2 := by
  obtain ⟨h7, h8⟩ := hc
  unfold pRename
  unfold renE at hE
  by_cases h0 : m.1 = 0
  case neg =>
    rw [if_pos h0] at hE ⊢
    have hne : E ≠ 0 := by rw [hE]; exact h0
    obtain ⟨AP, cP, rfl⟩ := h8 hne
    exact ⟨hE, h.meet m rfl rfl rfl rfl rfl rfl rfl⟩
  rw [if_neg (by omega)] at hE ⊢
  cases hf : dFind p.now fr.data.toList with
  | none =>
    rw [h.none hf] at hE
    have hE : E = 4 := hE
    obtain ⟨AP, cP, rfl⟩ := h8 (by rw [hE]; decide)
    exact ⟨hE, h.meet m rfl rfl rfl rfl rfl rfl rfl⟩
  | some k =>
    obtain ⟨f, hx, hfs, hfp⟩ := h.file hf
    rw [hfs] at hE
    refine ⟨hE, ?_⟩
    obtain ⟨qf, AP, cP, hq, g1, g2, g3, g4, g5, g6, g7⟩ := h7 hE
    rw [hfs] at hq
    injection hq with hq
    dsimp only at g1 g2 g3 g4 g5 g6 g7 ⊢
    by_cases he : fr = to
    · rw [if_pos he] at g6 g7 ⊢
      exact h.meet m g5 g1 g6 g2 g7 g3 g4
    · rw [if_neg he] at g6 g7 ⊢
      have hch : chOf (qsOf s.files) ⟨1, fr.data.toList, to.data.toList, k⟩ = .ren fr to qf := by
        unfold chOf
        rw [if_neg (by show ¬ (1 : Nat) = 0; decide), if_pos rfl]
        show Chg.ren _ _ ((qsOf s.files).getD k 0) = _
        rw [qsOf_at hx, hq]
        rfl
      have hk := (List.getElem?_eq_some_iff.1 hfp).1
      exact sim_chg h ⟨1, fr.data.toList, to.data.toList, k⟩ (fun _ => hk) g5 g1 (by rw [hch]; exact g6) g2 (by rw [hch]; exact g7) g3 g4
theorem sim_remove (h : Sim s p) {nm : ByteArray} {E : Int} (hE : E = renE m (dFind s.now nm.data.toList)) (hc : RemT s nm m E s') : E = (pRemove p nm m).1 ∧ Sim s' (pRemove p nm m).2 := by
  obtain ⟨h7, h8⟩ := hc
  unfold pRemove
  unfold renE at hE
  by_cases h0 : m.1 = 0
  case neg =>
    rw [if_pos h0] at hE ⊢
    have hne : E ≠ 0 := by rw [hE]; exact h0
    obtain ⟨AP, cP, rfl⟩ := h8 hne
    exact ⟨hE, h.meet m rfl rfl rfl rfl rfl rfl rfl⟩
  rw [if_neg (by omega)] at hE ⊢
  cases hf : dFind p.now nm.data.toList with
  | none =>
    rw [h.none hf] at hE
    have hE : E = 4 := hE
    obtain ⟨AP, cP, rfl⟩ := h8 (by rw [hE]; decide)
    exact ⟨hE, h.meet m rfl rfl rfl rfl rfl rfl rfl⟩
  | some k =>
    obtain ⟨f, hx, hfs, hfp⟩ := h.file hf
    rw [hfs] at hE
    refine ⟨hE, ?_⟩
    obtain ⟨qf, AP, cP, hq, g1, g2, g3, g4, g5, g6, g7⟩ := h7 hE
    dsimp only at g1 g2 g3 g4 g5 g6 g7 ⊢
    have hch : chOf (qsOf s.files) ⟨2, nm.data.toList, [], 0⟩ = .del nm := by
      unfold chOf
      rw [if_neg (by show ¬ (2 : Nat) = 0; decide), if_neg (by show ¬ (2 : Nat) = 1; decide)]
      rfl
    exact sim_chg h ⟨2, nm.data.toList, [], 0⟩ (fun h => by rcases h with h | h <;> cases h) g5 g1 (by rw [hch]; exact g6) g2 (by rw [hch]; exact g7) g3 g4
theorem sim_syncDir (h : Sim s p) (hc : SydS s m s') : m.1 = (pSyncDir p m).1 ∧ Sim s' (pSyncDir p m).2 := by
  obtain ⟨h1, h2, h3, h4, h5, h6, h7⟩ := hc
  unfold pSyncDir
  by_cases h0 : m.1 = 0
  case neg =>
    rw [if_pos h0]
    exact ⟨rfl, h.meet m h3 h1 h2 (h7 h0).1 (by rw [(h7 h0).2]) h4 h5⟩
  rw [if_neg (by omega)]
  refine ⟨h0, by rw [h1]; exact h.room, by rw [h3]; exact h.files, by rw [h2, h3]; exact h.now, by rw [(h6 h0).1, h3]; exact h.now, by rw [(h6 h0).2]; rfl, by rw [h4]; rfl, by rw [h5]; rfl, h.inow, h.inow, fun c hc => by cases hc⟩
theorem sim_cutAt (hp : Far s.files) (kl : List Int) (i : Nat) {k : Nat} {f : Fi} {fs : List Fi} (hfar : Far fs) (hf : fs[k]? = some f) : qsOf (cutAt kl i f.q fs) = qsOf fs ∧ (cutAt kl i f.q fs).map (fun f => (f.bs, f.sure)) = updAt (fs.map fun f => (f.bs, f.sure)) k (cutP kl i) := by
  have hfd : fs.find? (fun g => g.q == f.q) = some f := find_fi hfar (List.mem_of_getElem? hf)
  unfold cutAt
  rw [hfd]
  dsimp only
  have hu := upd_set (g := f.cut (keepN kl i f)) hfar hf rfl
  rw [hu]
  refine ⟨qsOf_set hf rfl, ?_⟩
  rw [files_set hf]
  unfold updAt
  rw [List.getElem?_map, hf]
  rfl
theorem far_qs {fs gs : List Fi} (h : qsOf fs = qsOf gs) (hp : Far gs) : Far fs := by
  unfold Far at hp ⊢
  have h1 : (qsOf gs).Pairwise (· ≠ ·) := by unfold qsOf; rw [List.pairwise_map]; exact hp
  rw [← h] at h1
  unfold qsOf at h1
  rw [List.pairwise_map] at h1
  exact h1
theorem sim_cutN (h : Sim s p) (hp : Far s.files) (kl : List Int) (d : Dir) (hd : ∀ e ∈ d, e.2 < p.files.length) (k : Nat) : qsOf (cutN kl (mapD (qsOf s.files) d) s.files k) = qsOf s.files ∧ (cutN kl (mapD (qsOf s.files) d) s.files k).map (fun f => (f.bs, f.sure)) = pCutN kl d p.files k := by
  induction k with
  | zero => exact ⟨rfl, h.files.symm⟩
  | succ k ih =>
    have hm : (mapD (qsOf s.files) d)[k]? = (d[k]?).map fun e => (e.1, (qsOf s.files).getD e.2 0) := by unfold mapD; rw [List.getElem?_map]
    unfold cutN pCutN
    rw [hm]
    cases hk : d[k]? with
    | none => exact ih
    | some e =>
      dsimp only [Option.map]
      have hix := hd e (List.mem_of_getElem? hk)
      have hlen : (cutN kl (mapD (qsOf s.files) d) s.files k).length = p.files.length := by
        have := congrArg List.length ih.1
        rw [h.qlen] at this
        unfold qsOf at this
        rw [List.length_map] at this
        exact this
      obtain ⟨f, hf⟩ : ∃ f, (cutN kl (mapD (qsOf s.files) d) s.files k)[e.2]? = some f := ⟨_, List.getElem?_eq_getElem (by omega)⟩
      have hq : (qsOf s.files).getD e.2 0 = f.q := by rw [← ih.1, qsOf_at hf]
      rw [hq]
      obtain ⟨g1, g2⟩ := sim_cutAt (s := s) hp kl k (far_qs ih.1 hp) hf
      exact ⟨g1.trans ih.1, by rw [g2, ih.2]⟩
theorem pCutN_len (kl : List Int) (d : Dir) (fs : List (List UInt8 × Nat)) (k : Nat) : (pCutN kl d fs k).length = fs.length := by
  induction k with
  | zero => rfl
  | succ k ih =>
    unfold pCutN
    split
    · unfold updAt
      split
      · rw [List.length_set, ih]
      · exact ih
    · exact ih
theorem sim_craD (h : Sim s p) (ch : Int) : craD s ch = mapD (qsOf s.files) (pCraD p ch) := by
  have hlen : s.kept.length = p.kept.length := by
    have := congrArg List.length h.kept
    rwa [List.length_map, List.length_map] at this
  unfold craD pCraD
  rw [hlen, h.disk]
  exact apps_map _ _ _ _ (by rw [List.map_take, List.map_take, h.kept])
theorem sim_crash (h : Sim s p) (hp : Far s.files) {ch : Int} {kl : List Int} (hc : CraS s ch kl s') : Sim s' (pCrash p ch kl) := by
  obtain ⟨h1, h2, h3, h4, h5, h6, h7⟩ := hc
  have hD := sim_craD h ch
  have hix : ∀ e ∈ pCraD p ch, e.2 < p.files.length := madesD_ix h.idisk (fun c hc => h.ikept c (List.mem_of_mem_take hc))
  have hlD : (craD s ch).length = (pCraD p ch).length := by rw [hD]; unfold mapD; rw [List.length_map]
  obtain ⟨g1, g2⟩ := sim_cutN h hp kl (pCraD p ch) hix (pCraD p ch).length
  rw [← hD, ← hlD, ← h7] at g1 g2
  have hl : (pCutN kl (pCraD p ch) p.files (pCraD p ch).length).length = p.files.length := pCutN_len ..
  rw [hlD] at g2
  refine ⟨by rw [h1]; exact h.room, g2.symm, ?_, ?_, by rw [h2]; rfl, by rw [h3]; rfl, by rw [h4]; rfl, ?_, ?_, fun c hc => by cases hc⟩
  · rw [h5, g1, hD]; rfl
  · rw [h6, g1, hD]; rfl
  · show ∀ e ∈ pCraD p ch, e.2 < (pCutN kl (pCraD p ch) p.files (pCraD p ch).length).length
    rw [hl]; exact hix
  · show ∀ e ∈ pCraD p ch, e.2 < (pCutN kl (pCraD p ch) p.files (pCraD p ch).length).length
    rw [hl]; exact hix
end
end Go.Proofs.Ytpakihbejdpmoaa
namespace Go.Proofs.Ytpakihbejdpmoaa
open Go.ChangeShapes Go.WideShapes Go.ChangeAt Go.RowKit
set_option linter.unusedVariables false

/-- An act that came in. -/
structure Ac where
  do_ : Int
  nm : ByteArray
  to : ByteArray
  n : Int
  AB : Option Addr
  cB : Nat
  bs : List UInt8
  AK : Option Addr
  cK : Nat
  kl : List Int
def Ac.cells (a : Ac) : List Value := [.int .i64 a.do_, .string a.nm, .string a.to, .int .i64 a.n, .slice a.AB a.bs.length a.cB, .slice a.AK a.kl.length a.cK]
def Ac.v (a : Ac) : Value := .agg #[.int .i64 a.do_, .string a.nm, .string a.to, .int .i64 a.n, .slice a.AB a.bs.length a.cB, .slice a.AK a.kl.length a.cK]
structure Ac.Ok (a : Ac) (w : World) (B : Nat) : Prop where
  bytes : Bytes w B a.AB a.bs
  keep : Row w B a.AK (a.kl.map (Value.int .i64))
  bl : a.bs.length ≤ 9223372036854775807
  kl : a.kl.length ≤ 9223372036854775807
  nm : a.nm.size ≤ maxLen
  to : a.to.size ≤ maxLen
theorem Ac.Ok.belowLe {a : Ac} {w w' : World} {B B' : Nat} (h : a.Ok w B) (hb : Below B' w w') (hB : B ≤ B') : a.Ok w' B := ⟨Row.belowLe h.bytes hb hB, h.keep.belowLe hb hB, h.bl, h.kl, h.nm, h.to⟩
def ActRow (w : World) (B : Nat) (A : Option Addr) (l : List Ac) : Prop := Row w B A (l.flatMap Ac.cells) ∧ ∀ a ∈ l, a.Ok w B
theorem ActRow.belowLe {w w' : World} {B B' : Nat} {A : Option Addr} {l : List Ac} (h : ActRow w B A l) (hb : Below B' w w') (hB : B ≤ B') : ActRow w' B A l := ⟨h.1.belowLe hb hB, fun s hs => (h.2 s hs).belowLe hb hB⟩
theorem acCells_at {l : List Ac} {k : Nat} {a : Ac} (h : l[k]? = some a) {j : Nat} {v : Value} (hj : a.cells[j]? = some v) : (l.flatMap Ac.cells)[k * 6 + j]? = some v := by
  induction l generalizing k with
  | nil => simp at h
  | cons x r ih =>
    have hl : x.cells.length = 6 := rfl
    have hlj : j < 6 := (List.getElem?_eq_some_iff.1 hj).1
    rw [List.flatMap_cons]
    cases k with
    | zero =>
      simp only [List.getElem?_cons_zero, Option.some.injEq] at h
      subst h
      rw [Nat.zero_mul, Nat.zero_add, List.getElem?_append_left (by omega)]
      exact hj
    | succ k =>
      simp only [List.getElem?_cons_succ] at h
      rw [List.getElem?_append_right (by omega), hl, show (k + 1) * 6 + j - 6 = k * 6 + j by omega]
      exact ih h
/-- The cells of an act. -/
theorem ActRow.at_ {w : World} {B : Nat} {A : Option Addr} {l : List Ac} (h : ActRow w B A l) {k : Nat} {a : Ac} (hk : l[k]? = some a) :
    ∃ ad, A = some ad ∧ ad.block < B ∧ ∀ j v, a.cells[j]? = some v → w.cell? ((ad.add (k * 6)).add j) = some v := by
  obtain ⟨ad, hA, hlt, _⟩ := h.1 _ _ (acCells_at hk (j := 0) rfl)
  refine ⟨ad, hA, hlt, fun j v hj => ?_⟩
  obtain ⟨ad', hA', _, hc⟩ := h.1 _ _ (acCells_at hk hj)
  rw [hA] at hA'
  injection hA' with hA'
  subst hA'
  rw [add_add']
  exact hc

section
variable {H : Type} {enc : TypeId × Value → H} {w : World} {base : Nat} {held : Bool}
theorem cells_intA : Try.prog.cellsOf 3 = 1 := by kernel_rfl
theorem cells_strA : Try.prog.cellsOf 9 = 1 := by kernel_rfl
theorem cells_byA : Try.prog.cellsOf 5 = 1 := by kernel_rfl
theorem cells_bytesA : Try.prog.cellsOf 33 = 1 := by kernel_rfl
theorem cells_intsA : Try.prog.cellsOf 34 = 1 := by kernel_rfl
theorem cells_ac : Try.prog.cellsOf 36 = 6 := by kernel_rfl

theorem read_ac (l : List Value) (h : Rd enc Try.prog w base held 36 l) : ∃ a : Ac, l = a.cells ∧ a.Ok w w.heap.size := by
  have hl := h.len Try.underlying36 cells_ac
  match l, hl with
  | [x0, x1, x2, x3, x4, x5], _ =>
    have f0 := h.field Try.underlying36 0 3 0 1 rfl cells_intA
    have f1 := h.field Try.underlying36 1 9 1 1 rfl cells_strA
    have f2 := h.field Try.underlying36 2 9 2 1 rfl cells_strA
    have f3 := h.field Try.underlying36 3 3 3 1 rfl cells_intA
    have f4 := h.field Try.underlying36 4 33 4 1 rfl cells_bytesA
    have f5 := h.field Try.underlying36 5 34 5 1 rfl cells_intsA
    obtain ⟨z0, e0, w0⟩ := f0.int Try.underlying3
    obtain ⟨s1, e1, w1⟩ := f1.string Try.underlying9
    obtain ⟨s2, e2, w2⟩ := f2.string Try.underlying9
    obtain ⟨z3, e3, w3⟩ := f3.int Try.underlying3
    obtain ⟨AB, bs, cB, e4, hbc, hbm, hby⟩ := f4.bytes Try.underlying33 Try.underlying5 cells_byA
    obtain ⟨AK, kl, cK, e5, hk, hm, hg, hrow⟩ := Rd.slice (fun a : Int => [Value.int .i64 a]) (fun _ => True) Try.underlying34 cells_intA (by omega) (fun l hl => by
      obtain ⟨z, hz, _⟩ := Rd.int Try.underlying3 hl
      exact ⟨z, hz, trivial⟩) f5
    have hfl : kl.flatMap (fun a : Int => [Value.int .i64 a]) = kl.map (Value.int .i64) := by
      clear hg hrow e5 hk
      induction kl with
      | nil => rfl
      | cons b l ih => simp [ih]
    rw [hfl] at hrow
    simp at e0 e1 e2 e3 e4 e5
    exact ⟨⟨z0, s1, s2, z3, AB, cB, bs, AK, cK, kl⟩, by rw [e0, e1, e2, e3, e4, e5]; rfl, hby, hrow, by unfold maxLen at hbm; dsimp only; omega, by unfold maxLen at hm; dsimp only; omega, w1, w2⟩
set_option maxRecDepth 100000 in
theorem open_act {r : Reach} {b0 : Nat} {v : Value} {d : DataW H} {ps : List MemPlace} (hv : Value.okWide Try.prog w r b0 36 v) (h : DataW.Trod enc Try.prog w base (fun _ => true) held 36 v d ps) : ∃ a : Ac, v = a.v ∧ a.Ok w w.heap.size := by
  obtain ⟨cs, rfl, hsz⟩ := okWide_struct Try.underlying36 hv
  obtain ⟨l⟩ := cs
  have hr := Rd.of_trod h
  simp only [Value.cells] at hr
  obtain ⟨p, rfl, hp⟩ := read_ac _ hr
  exact ⟨p, rfl, hp⟩
set_option maxRecDepth 100000 in
theorem open_acts {r : Reach} {b0 : Nat} {v : Value} {d : DataW H} {ps : List MemPlace} (hv : Value.okWide Try.prog w r b0 22 v) (h : DataW.Trod enc Try.prog w base (fun _ => true) held 22 v d ps) :
    ∃ A l c, v = .slice A (l : List Ac).length c ∧ ActRow w w.heap.size A l ∧ l.length ≤ 9223372036854775807 := by
  obtain ⟨a1, len1, cap1, rfl⟩ := okWide_slice Try.underlying22 hv
  obtain ⟨A, l, k, e0, hk, hm, hg, hrow⟩ := Rd.slice Ac.cells (fun s => s.Ok w w.heap.size) Try.underlying22 cells_ac (by omega) read_ac (Rd.of_trod h)
  simp [Value.cells] at e0
  obtain ⟨rfl, rfl, rfl⟩ := e0
  exact ⟨_, l, _, rfl, ⟨hrow, hg⟩, by unfold maxLen at hm; omega⟩
end
end Go.Proofs.Ytpakihbejdpmoaa
namespace Go.Proofs.Ytpakihbejdpmoaa
open Go.RowKit
set_option linter.unusedVariables false

/-- How much a store holds behind k acts. -/
structure Fit (k : Nat) (p : PS) : Prop where
  now : p.now.length ≤ p.disk.length + p.kept.length
  sum : p.disk.length + p.kept.length ≤ k
  files : p.files.length ≤ k
  plan : p.plan.length ≤ 100000
  bytes : ∀ f ∈ p.files, f.1.length ≤ k * 100000
  names : ∀ c ∈ p.kept, c.nm.length ≤ 1000 ∧ c.to.length ≤ 1000
  room : 0 ≤ p.room ∧ p.room ≤ 16777216
set_option maxRecDepth 100000 in
theorem cap_more {n k : Nat} (h : n ≤ k * 100000) : n ≤ (k + 1) * 100000 := Nat.le_trans h (Nat.mul_le_mul_right _ (Nat.le_succ k))
set_option maxRecDepth 100000 in
theorem cap_add {n m k : Nat} (h : n ≤ k * 100000) (h2 : m ≤ n + 100000) : m ≤ (k + 1) * 100000 := by
  rw [Nat.succ_mul]
  exact Nat.le_trans h2 (Nat.add_le_add_right h _)
set_option maxRecDepth 100000 in
theorem cap_top {n k : Nat} (h : n ≤ k * 100000) (hk : k ≤ 1000) : n ≤ 100000000 := Nat.le_trans h (Nat.mul_le_mul_right 100000 hk)
theorem meetE_len (ok off : Bool) (plan : List UInt8) : (meetE ok off plan).2.1.length ≤ plan.length := by
  unfold meetE
  split
  · exact Nat.le_refl _
  · split
    · exact Nat.le_refl _
    · split
      · exact Nat.le_refl _
      · split
        · simp
        · split <;> simp
section
variable {k : Nat} {p : PS}
theorem Fit.more (h : Fit k p) : Fit (k + 1) p := ⟨h.now, by have := h.sum; omega, by have := h.files; omega, h.plan, fun f hf => cap_more (h.bytes f hf), h.names, h.room⟩
theorem Fit.met (h : Fit k p) (ok off : Bool) (plan : List UInt8) (hp : plan = p.plan) : Fit k (p.met (meetE ok off plan)) := ⟨h.now, h.sum, h.files, by have := meetE_len ok off plan; have := h.plan; show (meetE ok off plan).2.1.length ≤ _; rw [hp] at *; omega, h.bytes, h.names, h.room⟩
theorem Fit.chg (h : Fit k p) {c : Rk} (hc : c.nm.length ≤ 1000 ∧ c.to.length ≤ 1000) : Fit (k + 1) (p.chg c) := by
  refine ⟨?_, ?_, by have := h.files; show p.files.length ≤ _; omega, h.plan, fun f hf => cap_more (h.bytes f hf), ?_, h.room⟩
  · have h1 := madeD_len p.now c
    have h2 := h.now
    show (madeD p.now c).length ≤ p.disk.length + (p.kept ++ [c]).length
    rw [List.length_append]
    simp only [List.length_singleton]
    omega
  · have h2 := h.sum
    show p.disk.length + (p.kept ++ [c]).length ≤ _
    rw [List.length_append]
    simp only [List.length_singleton]
    omega
  · show ∀ x ∈ p.kept ++ [c], _
    intro x hx
    rcases List.mem_append.1 hx with hx | hx
    · exact h.names x hx
    · rw [List.mem_singleton.1 hx]
      exact hc
theorem updAt_len (l : List (List UInt8 × Nat)) (k : Nat) (g : List UInt8 × Nat → List UInt8 × Nat) : (updAt l k g).length = l.length := by unfold updAt; split <;> simp
theorem updAt_all {l : List (List UInt8 × Nat)} {j : Nat} {g : List UInt8 × Nat → List UInt8 × Nat} {N M : Nat} (h : ∀ f ∈ l, f.1.length ≤ N) (hN : N ≤ M) (hg : ∀ f ∈ l, (g f).1.length ≤ M) : ∀ f ∈ updAt l j g, f.1.length ≤ M := by
  intro f hf
  unfold updAt at hf
  split at hf
  · rename_i y hy
    rcases List.mem_or_eq_of_mem_set hf with h1 | h1
    · exact Nat.le_trans (h f h1) hN
    · rw [h1]; exact hg y (List.mem_of_getElem? hy)
  · exact Nat.le_trans (h f hf) hN
theorem Fit.upd (h : Fit k p) {j : Nat} {g : List UInt8 × Nat → List UInt8 × Nat} (hg : ∀ f ∈ p.files, (g f).1.length ≤ f.1.length + 100000) : Fit (k + 1) { p with files := updAt p.files j g } :=
  ⟨h.now, by have := h.sum; show p.disk.length + p.kept.length ≤ _; omega, by have := h.files; show (updAt p.files j g).length ≤ _; rw [updAt_len]; omega, h.plan, updAt_all h.bytes (cap_more (Nat.le_refl _)) (fun f hf => cap_add (h.bytes f hf) (hg f hf)), h.names, h.room⟩
theorem fit_create (h : Fit k p) (nm : ByteArray) (hn : nm.size ≤ 1000) (ok off : Bool) (plan : List UInt8) (hp : plan = p.plan) : Fit (k + 1) (pCreate p nm (meetE ok off plan)).2 := by
  have hm := h.met ok off plan hp
  unfold pCreate
  generalize meetE ok off plan = m at *
  split
  · exact hm.more
  · split
    · exact hm.more
    · have hm2 : Fit k (p.met m) := hm
      have hnl : nm.data.toList.length ≤ 1000 := by rw [Array.length_toList]; exact hn
      have h3 := hm2.chg (c := ⟨0, nm.data.toList, [], p.files.length⟩) ⟨hnl, by simp⟩
      refine ⟨h3.now, h3.sum, ?_, h3.plan, ?_, h3.names, h3.room⟩
      · show (p.files ++ [(([] : List UInt8), 0)]).length ≤ k + 1
        have := h.files
        simp
        omega
      · show ∀ f ∈ p.files ++ [(([] : List UInt8), 0)], _
        intro f hf
        rcases List.mem_append.1 hf with hf | hf
        · exact cap_more (h.bytes f hf)
        · rw [List.mem_singleton.1 hf]; simp
theorem fit_sync (h : Fit k p) (nm : ByteArray) (ok off : Bool) (plan : List UInt8) (hp : plan = p.plan) : Fit (k + 1) (pSync p nm (meetE ok off plan)).2 := by
  have hm := h.met ok off plan hp
  unfold pSync
  generalize meetE ok off plan = m at *
  split
  · exact hm.more
  · split
    · exact hm.more
    · exact Fit.upd (p := p.met m) hm (fun f hf => by dsimp only; omega)
theorem fit_append (h : Fit k p) (nm : ByteArray) (bs : List UInt8) (hb : bs.length ≤ 100000) (ok off : Bool) (plan : List UInt8) (hp : plan = p.plan) : Fit (k + 1) (pAppend p nm bs (meetE ok off plan)).2 := by
  have hm := h.met ok off plan hp
  unfold pAppend
  generalize meetE ok off plan = m at *
  split
  · exact hm.more
  · split
    · exact hm.more
    · split
      · exact hm.more
      · exact Fit.upd (p := p.met m) hm (fun f hf => by dsimp only; rw [List.length_append]; omega)
theorem fit_rename (h : Fit k p) (fr to : ByteArray) (hn : fr.size ≤ 1000) (ht : to.size ≤ 1000) (ok off : Bool) (plan : List UInt8) (hp : plan = p.plan) : Fit (k + 1) (pRename p fr to (meetE ok off plan)).2 := by
  have hm := h.met ok off plan hp
  unfold pRename
  generalize meetE ok off plan = m at *
  split
  · exact hm.more
  · split
    · exact hm.more
    · dsimp only
      split
      · exact hm.more
      · exact hm.chg ⟨by rw [Array.length_toList]; exact hn, by rw [Array.length_toList]; exact ht⟩
theorem fit_remove (h : Fit k p) (nm : ByteArray) (hn : nm.size ≤ 1000) (ok off : Bool) (plan : List UInt8) (hp : plan = p.plan) : Fit (k + 1) (pRemove p nm (meetE ok off plan)).2 := by
  have hm := h.met ok off plan hp
  unfold pRemove
  generalize meetE ok off plan = m at *
  split
  · exact hm.more
  · split
    · exact hm.more
    · exact hm.chg ⟨by rw [Array.length_toList]; exact hn, by simp⟩
theorem fit_syncDir (h : Fit k p) (ok off : Bool) (plan : List UInt8) (hp : plan = p.plan) : Fit (k + 1) (pSyncDir p (meetE ok off plan)).2 := by
  have hm := h.met ok off plan hp
  unfold pSyncDir
  generalize meetE ok off plan = m at *
  split
  · exact hm.more
  · have h1 := h.now
    have h2 := h.sum
    exact ⟨by show p.now.length ≤ p.now.length + 0; omega, by show p.now.length + 0 ≤ k + 1; omega, by have := h.files; show p.files.length ≤ _; omega, hm.plan, fun f hf => cap_more (h.bytes f hf), fun c hc => (by cases hc), h.room⟩
theorem fit_plan (h : Fit k p) (l : List UInt8) (hl : l.length ≤ 100000) : Fit (k + 1) (p.met (0, l, p.off)) :=
  ⟨h.now, by have := h.sum; show p.disk.length + p.kept.length ≤ _; omega, by have := h.files; show p.files.length ≤ _; omega, hl, fun f hf => cap_more (h.bytes f hf), h.names, h.room⟩
theorem fit_crash (h : Fit k p) (ch : Int) (kl : List Int) : Fit (k + 1) (pCrash p ch kl) := by
  have hD : (pCraD p ch).length ≤ k := by
    have h1 := madesD_len (p.kept.take (nCh ch p.kept.length)) p.disk
    have h2 := h.sum
    rw [List.length_take] at h1
    unfold pCraD
    omega
  refine ⟨by show (pCraD p ch).length ≤ (pCraD p ch).length + 0; omega, by show (pCraD p ch).length + 0 ≤ k + 1; omega, ?_, by show 0 ≤ _; omega, ?_, fun c hc => (by cases hc), h.room⟩
  · show (pCutN kl (pCraD p ch) p.files (pCraD p ch).length).length ≤ _
    rw [pCutN_len]
    have := h.files
    omega
  · show ∀ f ∈ pCutN kl (pCraD p ch) p.files (pCraD p ch).length, _
    have : ∀ j, ∀ f ∈ pCutN kl (pCraD p ch) p.files j, f.1.length ≤ k * 100000 := by
      intro j
      induction j with
      | zero => exact h.bytes
      | succ j ih =>
        unfold pCutN
        split
        · refine updAt_all ih (Nat.le_refl _) (fun f hf => ?_)
          unfold cutP
          dsimp only
          rw [List.length_take]
          have := ih f hf
          omega
        · exact ih
    intro f hf
    exact cap_more (this _ f hf)
end

/-- Both stores in memory. -/
structure Bt (B q r : Nat) (s : SS) (x : RS) (w : World) : Prop where
  sm : Sm q s w
  rm : Rm r x w
  sim : Sim s x.abs
  apart : ∀ k, s.own q k → ¬ x.own r k
  slow : ∀ k, s.own q k → B ≤ k
  rlow : ∀ k, x.own r k → B ≤ k
  le : B ≤ w.heap.size
section
variable {B q r : Nat} {s s' : SS} {x x' : RS} {w w1 w2 w3 : World}
theorem Bt.call (h : Bt B q r s x w) (hb : Below w.heap.size w w1) : Bt B q r s x w1 := ⟨h.sm.call hb, h.rm.call hb, h.sim, h.apart, h.slow, h.rlow, Nat.le_trans h.le hb.size⟩
/-- The program's store has done something. -/
theorem Bt.left (h : Bt B q r s x w) (hd : Did q s w s' w1) : Rm r x w1 ∧ (∀ k, s'.own q k → ¬ x.own r k) ∧ (∀ k, s'.own q k → B ≤ k) ∧ Below B w w1 := by
  obtain ⟨h1, h2⟩ := hd.below h.slow h.le
  refine ⟨h.rm.stay hd.kept (fun k h1 => h.apart k h1), fun k hk hx => ?_, h2, h1⟩
  rcases hd.own k hk with h3 | h3
  · exact h.apart k h3 hx
  · have := h.rm.lt hx
    omega
/-- Both have done something. -/
theorem Bt.both (h : Bt B q r s x w) (hd : Did q s w s' w1) (hr : RDid r x w1 x' w2) (hs : Sim s' x'.abs) : Bt B q r s' x' w2 ∧ Below B w w2 := by
  obtain ⟨h1, h2, h3, h4⟩ := h.left hd
  have hB1 : B ≤ w1.heap.size := Nat.le_trans h.le hd.kept.size
  obtain ⟨h5, h6⟩ := hr.below h.rlow hB1
  refine ⟨⟨hd.sm.stay hr.kept (fun k hk hs' => h2 k hs' hk), hr.sm, hs, fun k hk hx => ?_, h3, h6, Nat.le_trans hB1 h5.size⟩, h4.trans h5⟩
  rcases hr.own k hx with h7 | h7
  · exact h2 k hk h7
  · have := hd.sm.lt hk
    omega
theorem away_of {w : World} {B : Nat} {A : Option Addr} {bs : List UInt8} {S : Nat → Prop} (h : Bytes w B A bs) (hS : ∀ k, S k → B ≤ k) : Away S A bs := by
  intro hne ad hA hs
  obtain ⟨b, hb⟩ : ∃ b, bs[0]? = some b := ⟨_, List.getElem?_eq_getElem (List.length_pos_iff.2 hne)⟩
  obtain ⟨ad', hA', hlt, _⟩ := h 0 (byv b) (by rw [List.getElem?_map, hb]; rfl)
  rw [hA] at hA'
  injection hA' with hA'
  subst hA'
  have := hS _ hs
  omega
theorem far_sm (h : Sm q s w) : Far s.files := h.fap.imp fun h => h.1
theorem Fit.small {k : Nat} (h : Fit k x.abs) (hk : k ≤ 1000) : x.small := by
  have h1 := h.now
  have h2 := h.sum
  have h3 := h.files
  have h4 := h.plan
  have e3 : x.abs.files.length = x.files.length := by show (x.files.map _).length = _; rw [List.length_map]
  have e1 : x.abs.now.length = x.now.length := rfl
  have e2 : x.abs.disk.length = x.disk.length := rfl
  have e4 : x.abs.kept.length = x.kept.length := rfl
  have e5 : x.abs.plan.length = x.plan.length := rfl
  refine ⟨by omega, by omega, by omega, by omega, by omega, fun f hf => ?_⟩
  have := cap_top (h.bytes (f.bs, f.sure) (List.mem_map.2 ⟨f, hf, rfl⟩)) hk
  dsimp only at this
  omega
theorem psize_le {p : PS} {N : Nat} (h : ∀ f ∈ p.files, f.1.length ≤ N) : psize p ≤ p.now.length * N := by
  unfold psize
  generalize p.now = l
  induction l with
  | nil => simp
  | cons e r ih =>
    rw [List.map_cons, List.sum_cons, List.length_cons, Nat.succ_mul]
    split
    · rename_i f hx
      have := h f (List.mem_of_getElem? hx)
      omega
    · omega
theorem Fit.size {k : Nat} {p : PS} (h : Fit k p) (hk : k ≤ 1000) : psize p ≤ 1000000000000 := by
  have h1 := psize_le (fun f hf => cap_top (h.bytes f hf) hk)
  have h2 := h.now
  have h3 := h.sum
  omega
theorem Bt.flen {k : Nat} (h : Bt B q r s x w) (hf : Fit k x.abs) (hk : k ≤ 1000) : ∀ f ∈ s.files, f.bs.length ≤ 100000000 := fun f hm => by
  exact cap_top (hf.bytes (f.bs, f.sure) (by rw [h.sim.files]; exact List.mem_map.2 ⟨f, hm, rfl⟩)) hk
theorem Bt.lens {k : Nat} (h : Bt B q r s x w) (hf : Fit k x.abs) (hk : k ≤ 1000) : s.now.length ≤ 1000 ∧ s.kept.length ≤ 1000 ∧ s.disk.length ≤ 1000 ∧ s.plan.length ≤ 100000 := by
  have h1 := hf.now
  have h2 := hf.sum
  have h4 := hf.plan
  have e1 : s.now.length = x.abs.now.length := by rw [h.sim.now]; unfold mapD; rw [List.length_map]
  have e2 : s.disk.length = x.abs.disk.length := by rw [h.sim.disk]; unfold mapD; rw [List.length_map]
  have e3 : s.kept.length = x.abs.kept.length := by
    have := congrArg List.length h.sim.kept
    rwa [List.length_map, List.length_map] at this
  have e4 : s.plan = x.abs.plan := h.sim.plan.symm
  rw [e4]
  omega
theorem Bt.small {k : Nat} (h : Bt B q r s x w) (hf : Fit k x.abs) : ∀ p ∈ s.kept, p.ch.small := by
  intro y hy
  have hm : y.ch ∈ x.abs.kept.map (chOf (qsOf s.files)) := by rw [← h.sim.kept]; exact List.mem_map.2 ⟨y, hy, rfl⟩
  obtain ⟨c, hc, he⟩ := List.mem_map.1 hm
  obtain ⟨h1, h2⟩ := hf.names c hc
  rw [← he]
  have z : ∀ l : List UInt8, (strB l).size = l.length := fun l => by unfold strB ByteArray.size; simp
  by_cases k0 : c.kind = 0
  · rw [show chOf (qsOf s.files) c = .put (strB c.nm) ((qsOf s.files).getD c.ix 0) from by unfold chOf; rw [if_pos k0]]
    show (strB c.nm).size ≤ maxLen
    rw [z]
    unfold maxLen
    omega
  by_cases k1 : c.kind = 1
  · rw [show chOf (qsOf s.files) c = .ren (strB c.nm) (strB c.to) ((qsOf s.files).getD c.ix 0) from by unfold chOf; rw [if_neg k0, if_pos k1]]
    show (strB c.nm).size ≤ maxLen ∧ (strB c.to).size ≤ maxLen
    rw [z, z]
    unfold maxLen
    omega
  · rw [show chOf (qsOf s.files) c = .del (strB c.nm) from by unfold chOf; rw [if_neg k0, if_neg k1]]
    show (strB c.nm).size ≤ maxLen
    rw [z]
    unfold maxLen
    omega
end
end Go.Proofs.Ytpakihbejdpmoaa
namespace Go.Proofs.Ytpakihbejdpmoaa
open Go.RowKit
set_option linter.unusedVariables false

/-- An act that is not too long. -/
structure Ac.Sz (a : Ac) : Prop where
  bs : a.bs.length ≤ 100000
  nm : a.nm.size ≤ 1000
  to : a.to.size ≤ 1000
/-- What an act at both does. -/
def DoR (B q r k : Nat) (w : World) (e : Ending) (w' : World) : Prop := e = .returned (.bool true) ∧ Below B w w' ∧ ∃ s' x', Bt B q r s' x' w' ∧ Fit (k + 1) x'.abs
theorem box_act (w : World) (a : Ac) : ∃ w1, w1 = w.alloc (.cells #[.int .i64 a.do_, .string a.nm, .string a.to, .int .i64 a.n, .slice a.AB a.bs.length a.cB, .slice a.AK a.kl.length a.cK] 36) ∧ Below w.heap.size w w1 ∧
    ∀ W : World, W.heap[w.heap.size]? = w1.heap[w.heap.size]? → W.cell? ⟨w.heap.size, 0, none⟩ = some (.int .i64 a.do_) ∧ W.cell? ⟨w.heap.size, 1, none⟩ = some (.string a.nm) ∧ W.cell? ⟨w.heap.size, 2, none⟩ = some (.string a.to) ∧ W.cell? ⟨w.heap.size, 3, none⟩ = some (.int .i64 a.n) ∧
      W.cell? ⟨w.heap.size, 4, none⟩ = some (.slice a.AB a.bs.length a.cB) ∧ W.cell? ⟨w.heap.size, 5, none⟩ = some (.slice a.AK a.kl.length a.cK) := by
  refine ⟨_, rfl, below_new _ _, fun W hW => ?_⟩
  have h := hW.trans (heap_alloc_new w _)
  exact ⟨Joins.cell_of_block h 0, Joins.cell_of_block h 1, Joins.cell_of_block h 2, Joins.cell_of_block h 3, Joins.cell_of_block h 4, Joins.cell_of_block h 5⟩
theorem big_of {n : Nat} (h : n ≤ 1000) : n ≤ maxLen := by unfold maxLen; omega
end Go.Proofs.Ytpakihbejdpmoaa
