/- strings.Builder: String, as a function of the library. No condition. -/
import Derived.Test.YtfkmdajlpnkebaaDoorAi28
namespace Go.Proofs.YtfkmdajlpnkebaaDoor.Ai
open Go

section
variable {K : Sites} {base : World} {J : Inj} {st : St} {w : World}

/-- An object that is given up. -/
theorem Sim.kill (h : Sim K base J st w) (id : Nat) : Sim K base J (st.set id .dead) w := by
  have hget : ∀ (i : Nat) x, (st.set id .dead)[i]? = some x → x = .dead ∨ st[i]? = some x := by
    intro i x e
    rw [List.getElem?_set] at e
    split at e
    · split at e
      · cases e; exact .inl rfl
      · cases e
    · exact .inr e
  refine ⟨h.os, h.output, h.size, h.old, h.imOk, fun r b e => by simpa using h.ρlt r b e, fun i n v e => ⟨by simpa using (h.τlt i n v e).1, fun m l ty e' => ?_⟩, fun r o e => ?_, fun r o b e e' => ?_, fun r o b e e' ht => ?_⟩
  · rcases hget i _ e' with h' | h'
    · cases h'
    · exact (h.τlt i n v e).2 m l ty h'
  · rcases hget r o e with rfl | h'
    · trivial
    · exact h.obj r o h'
  · rcases hget r o e with rfl | h'
    · cases e'
    · obtain ⟨h1, h2, h3⟩ := h.own r o b h' e'
      refine ⟨h1, h2, fun r' o' e3 e4 => ?_⟩
      rcases hget r' o' e3 with rfl | h''
      · cases e4
      · exact h3 r' o' h'' e4
  · rcases hget r o e with rfl | h'
    · cases e'
    · exact h.noIm r o b h' e' ht

/-- A block that nobody owns is marked. -/
theorem Sim.mark (h : Sim K base J st w) {w' : World} {g : Nat} (hbase : base.heap.size ≤ g) (hos : w'.os = w.os) (hout : w'.output = w.output) (hsz : w'.heap.size = w.heap.size)
    (hoth : ∀ b, b ≠ g → w'.heap[b]? = w.heap[b]?) (hg : ∀ o, w'.cell? ⟨g, o, none⟩ = w.cell? ⟨g, o, none⟩) (hown : ∀ (r : Nat) o, st[r]? = some o → ownB J r o ≠ some g) : Sim K base J st w' := by
  refine ⟨hos.trans h.os, hout.trans h.output, hsz ▸ h.size, fun b hb => (hoth b (by omega)).trans (h.old b hb), fun b o v e => ?_, fun r b e => hsz ▸ h.ρlt r b e, h.τlt, fun r o e => ?_, fun r o b e e' => hsz ▸ h.own r o b e e', h.noIm⟩
  · by_cases hb : b = g
    · subst hb; rw [hg]; exact h.imOk b o v e
    · rw [cell_congr (hoth b hb)]; exact h.imOk b o v e
  · exact (h.obj r o e).frame (Inj.le.refl J) (fun b hb => hoth b (by rintro rfl; exact hown r o e hb)) (fun _ _ _ _ _ e => e)
end

theorem ofBytes_get : ∀ {es : List AV} {s : List UInt8}, ofBytes es = some s → s.length = es.length ∧ ∀ (i : Nat) b, s[i]? = some b → es[i]? = some (.int .u8 b.toNat)
  | [], s, h => by simp [ofBytes] at h; subst h; simp
  | e :: es, s, h => by
    cases e with
    | int k n =>
      cases k with
      | u8 =>
        simp only [ofBytes] at h
        split at h
        · rename_i hn
          obtain ⟨q, hq, rfl⟩ := Option.map_eq_some_iff.1 h
          obtain ⟨h1, h2⟩ := ofBytes_get hq
          refine ⟨by simp [h1], fun i b hb => ?_⟩
          cases i with
          | zero =>
            simp at hb
            subst hb
            simp
            omega
          | succ i => simpa using h2 i b (by simpa using hb)
        · cases h
      | _ => simp [ofBytes] at h
    | _ => simp [ofBytes] at h

theorem freeze_facts (w : World) (g n : Nat) (c : Array Value) (t : TypeId) (fr : Nat × Nat) (hg : w.heap[g]? = some (.cells c t fr)) :
    (w.freeze ⟨g, 0, none⟩ n).os = w.os ∧ (w.freeze ⟨g, 0, none⟩ n).output = w.output ∧ (w.freeze ⟨g, 0, none⟩ n).heap.size = w.heap.size ∧ (∀ b, b ≠ g → (w.freeze ⟨g, 0, none⟩ n).heap[b]? = w.heap[b]?) ∧
      ∀ o, (w.freeze ⟨g, 0, none⟩ n).cell? ⟨g, o, none⟩ = w.cell? ⟨g, o, none⟩ := by
  unfold World.freeze
  split
  · exact ⟨rfl, rfl, rfl, fun _ _ => rfl, fun _ => rfl⟩
  · refine ⟨rfl, rfl, by simp, fun b hb => by simp [Array.getElem?_modify, Ne.symm hb], fun o => ?_⟩
    simp [World.cell?, Array.getElem?_modify, hg]

theorem string_task {P : Program} {gl : List (Nat × AV)} {A : AProg} {B : World → Prop} {f T T5 : Nat} (he : ∀ args w, (callFunc f args).run P w = .ok (.enter f args) w)
    (C0 : ∀ (b : Nat) (w : World), w.cell? ⟨b, 1, none⟩ = some (.slice none 0 0) → Calls P f #[selfP b] w fun e w' => e = .returned (.string ⟨#[]⟩) ∧ w' = w.drew)
    (C1 : ∀ (b g cap : Nat) (cur : Array Value) (fr : Nat × Nat) (l : List UInt8) (w : World), l ≠ [] → w.cell? ⟨b, 1, none⟩ = some (.slice (some ⟨g, 0, none⟩) l.length cap) → w.heap[g]? = some (.cells cur T5 fr) → l.length ≤ cap → l.length ≤ cur.size →
      l.length ≤ 9223372036854775807 → (∀ (j : Nat) x, l[j]? = some x → w.cell? ⟨g, j, none⟩ = some (.int .u8 x.toNat)) →
      Calls P f #[selfP b] w fun e w' => e = .returned (.string ⟨l.toArray⟩) ∧ w' = w.drew.freeze ⟨g, 0, none⟩ l.length)
    {args : List AV} {st : St} {o : AOut} {st' : St} (hh : stringA T T5 args st = some (o, st')) :
    TaskOk P gl A B (.call f args) st (outRes st' o) := by
  unfold stringA at hh
  split at hh
  · rename_i r
    cases hbo : bldOf st r T with
    | none => simp [hbo] at hh
    | some ab =>
      obtain ⟨a, b⟩ := ab
      have hst := bldOf_some hbo
      rw [hbo] at hh
      intro base J w cargs hS hG hR
      simp only [Reps, Rep] at hR
      obtain ⟨y, ys, e1, ⟨bl, hb, rfl⟩, rfl⟩ := hR
      obtain rfl : cargs = #[selfP bl] := by apply Array.toList_inj.1; simpa [selfP] using e1
      obtain ⟨b', c, t, h1, ⟨fr, h2, hfr⟩, h3, h4, h5, hty⟩ := hS.obj r _ hst
      rw [hb] at h1; cases h1
      obtain ⟨rfl, hsz⟩ := hty T rfl
      simp only [List.length_cons, List.length_nil, Nat.zero_add, Nat.reduceAdd] at hsz h4
      have hct : c.toList.take 2 = c.toList := List.take_of_length_le (by simp [hsz])
      rw [hct] at h4
      simp only [Reps] at h4
      obtain ⟨x, xs, ex, hx, x2, xs2, ex2, hx2, rfl⟩ := h4
      subst ex2
      obtain rfl : c = #[x, x2] := by apply Array.toList_inj.1; simpa using ex
      have hc1 : w.cell? ⟨bl, 1, none⟩ = some x2 := by rw [cell_of_heap h2]; rfl
      refine .inl ⟨he _ _, callsIn_wide.2 ?_⟩
      cases b with
      | nilSl =>
        simp only [Option.some.injEq, Prod.mk.injEq] at hh
        obtain ⟨rfl, rfl⟩ := hh
        simp only [Rep] at hx2
        subst hx2
        refine (C0 bl w hc1).mono fun e w' ⟨h1, h2'⟩ => ?_
        subst h2'
        exact ⟨J, Inj.le.refl J, hS.same rfl rfl rfl, .str [], .string ⟨#[]⟩, rfl, by simp only [Rep]; exact ⟨_, rfl, rfl⟩, h1⟩
      | lst m es ap =>
        cases ap with
        | tok id =>
          by_cases hm : m = 1
          · subst hm
            simp only at hh
            split at hh
            · rename_i hcond
              obtain ⟨hne, hidr, hgr⟩ := hcond
              cases hid : st[id]? with
              | none => simp [hid] at hh
              | some ob =>
                rw [hid] at hh
                cases ob with
                | tok m2 n ty =>
                  cases ty with
                  | none => simp at hh
                  | some T6 =>
                    by_cases hm2 : m2 = 1
                    · subst hm2
                      simp only at hh
                      split at hh
                      · rename_i hn
                        obtain ⟨rfl, rfl⟩ := hn
                        obtain ⟨s, hs, hh⟩ := Option.map_eq_some_iff.1 hh
                        simp only [Prod.mk.injEq] at hh
                        obtain ⟨rfl, rfl⟩ := hh
                        obtain ⟨hsl, hsget⟩ := ofBytes_get hs
                        simp only [Rep] at hx2
                        obtain ⟨htok, hval⟩ := hx2
                        have hτ := htok id rfl
                        have hlen : 0 < es.length := List.length_pos_iff.2 hne
                        rcases hS.obj id _ hid with ⟨h0, _⟩ | ⟨ad, cap, cc, tt, q1, q2, q0, q3, q4, q5, q6, q7⟩
                        · omega
                        · obtain ⟨rfl, hoff⟩ := q7 T6 rfl
                          rw [hτ] at q1
                          cases q1
                          obtain ⟨g, off, spot⟩ := ad
                          simp only at q2 hoff q4 q5
                          subst q2 hoff
                          rcases hval with ⟨e2, _⟩ | ⟨ad', cap', e2, _, _, _, hel⟩
                          · cases e2
                          · cases e2
                            have hcell : ∀ (j : Nat) x, s[j]? = some x → w.cell? ⟨g, j, none⟩ = some (.int .u8 x.toNat) := by
                              intro j x hj
                              obtain ⟨z, hz, _, _, hrow⟩ := hel.get j _ (hsget j x hj)
                              simp only [Rep] at hz
                              subst hz
                              have := hS.imOk _ _ _ (hrow 0 (.int .u8 x.toNat) (by simp [Value.cells]))
                              simpa using this
                            have hown : ownB J id (.tok 1 es.length (some tt)) = some g := by simp [ownB, hτ]; omega
                            obtain ⟨o1, o2, o3⟩ := hS.own id _ g hid hown
                            have hkill := hS.kill id
                            have hC := C1 bl g cap cc (0, 0) s w (by intro e; subst e; simp at hsl; omega) (by rw [hsl]; exact hc1) q4 (by omega) (by omega) (by unfold great at hgr; omega) hcell
                            refine hC.mono fun e w' ⟨he', hw'⟩ => ?_
                            obtain ⟨f1, f2, f3, f4, f5⟩ := freeze_facts w.drew g s.length cc tt (0, 0) q4
                            have hmark : Sim (SitesOf P gl A) base J (st.set id .dead) w' := by
                              subst hw'
                              refine hkill.mark o1 f1 f2 f3 f4 f5 (fun r' o' e3 e4 => ?_)
                              rw [List.getElem?_set] at e3
                              split at e3
                              · split at e3
                                · cases e3; cases e4
                                · cases e3
                              · rename_i hne'
                                exact hne' (o3 r' o' e3 e4).symm
                            have hgb : g ≠ bl := by
                              rintro rfl
                              exact hidr (o3 r _ hst hb).symm
                            have hstr : (st.set id .dead)[r]? = some (.cells (some t) [a, .lst 1 es (.tok id)]) := by
                              rw [List.getElem?_set_ne hidr]; exact hst
                            have hw2 : w'.heap[bl]? = some (.cells #[x, .slice (some ⟨g, 0, none⟩) es.length cap] t fr) := by
                              subst hw'; rw [f4 bl (Ne.symm hgb)]; exact h2
                            refine ⟨J, Inj.le.refl J, hmark.upd hstr hb rfl (by simp) rfl (by simp) rfl rfl rfl (fun _ _ => rfl) ?_, .str s, .string ⟨s.toArray⟩, rfl, by simp only [Rep]; exact ⟨_, rfl, by simp⟩, he'⟩
                            refine ⟨bl, _, t, hb, ⟨fr, hw2, hfr⟩, by simp, ?_, ?_, fun T hT => ⟨Option.some.inj hT, by simp⟩⟩
                            · simp only [List.length_cons, List.length_nil, Nat.zero_add, Nat.reduceAdd, List.take_of_length_le, Reps]
                              refine ⟨x, _, rfl, hx, _, _, rfl, ?_, rfl⟩
                              simp only [Rep]
                              refine ⟨fun id' e => (by cases e), .inr ⟨⟨g, 0, none⟩, cap, rfl, fun _ => rfl, q3, fun e => (by cases e), hel⟩⟩
                            · simp only [List.all_cons, List.all_nil, Bool.and_true, Bool.and_eq_true] at h5 ⊢
                              exact ⟨h5.1, rfl⟩
                      · cases hh
                    · exfalso; revert hh; split <;> simp_all
                | _ => simp at hh
            · cases hh
          · exfalso; revert hh; split <;> simp_all
        | _ => simp at hh
      | _ => simp at hh
  · cases hh
end Go.Proofs.YtfkmdajlpnkebaaDoor.Ai
