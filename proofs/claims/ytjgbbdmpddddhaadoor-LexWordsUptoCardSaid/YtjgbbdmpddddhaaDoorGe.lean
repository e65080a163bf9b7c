/- Chapter 03: the laws, run; what the rows need. No condition. -/
import Derived.Test.YtjgbbdmpddddhaaDoorGd
import Derived.Test.YtjgbbdmpddddhaaDoorEc
set_option linter.unusedVariables false
set_option linter.unusedSimpArgs false
namespace Go.Proofs.YtjgbbdmpddddhaaDoor
open Go Ai

theorem fn3 : A.fn 3 = some a3 := by kernel_rfl
theorem prim3 : A.prim 3 = none := by kernel_rfl
theorem fn5 : A.fn 5 = some a5 := by kernel_rfl
theorem prim5 : A.prim 5 = none := by kernel_rfl

theorem lexS_len : ∀ (n : Nat) (l : List UInt8), l.length ≤ n → ∀ p ts, lexS l p = .ok ts → ts.length ≤ l.length + 1
  | 0, l, hl, p, ts, h => by
    have : l = [] := List.eq_nil_of_length_eq_zero (by omega)
    subst this
    rw [lexS_nil] at h; cases h; simp
  | n + 1, [], _, p, ts, h => by rw [lexS_nil] at h; cases h; simp
  | n + 1, c :: l, hl, p, ts, h => by
    cases hb : (tokOf (c :: l) p).2 with
    | false => rw [lexS_bad hb] at h; cases h
    | true =>
      obtain ⟨x, hx⟩ : ∃ x, x = (tokOf (c :: l) p).1 := ⟨_, rfl⟩
      have htk : tokOf (c :: l) p = (x, true) := by rw [hx, ← hb]
      have hpos := tokOf_pos hb
      rw [htk] at hpos
      simp only at hpos
      rw [lexS_tok htk, lexK] at h
      obtain ⟨us, hu, rfl⟩ := map_ok h
      have hsk := skipN_le false ((c :: l).drop x.text.length)
      have hld : ((c :: l).drop x.text.length).length = l.length + 1 - x.text.length := by simp
      have := lexS_len n _ (by rw [List.length_drop, hld]; simp at hl; omega) _ _ hu
      rw [List.length_drop, hld] at this
      simp only [List.length_cons]; omega
theorem lexP_cases (s : List UInt8) : ∃ (ts : List Tok) (m : Nat) (ap : Ap) (c : Int) (p : Nat), lexP s = (.lst m (ts.map Tok.av) ap, flt c p) ∧ (ts ≠ [] → m = 4) ∧ ts.length ≤ 20001 ∧
    ((20000 < s.length ∧ ts = [] ∧ c = 10) ∨ (s.length ≤ 20000 ∧ c = 0 ∧ lexK s 0 = .ok ts) ∨ (s.length ≤ 20000 ∧ c = 1 ∧ ts = [] ∧ lexK s 0 = .error p)) := by
  by_cases hb : 20000 < s.length
  · exact ⟨[], 1, .tight, 10, 0, by simp [lexP, hb, noToks], by simp, by simp, .inl ⟨hb, rfl, rfl⟩⟩
  · cases hx : lexK s 0 with
    | ok ts =>
      have := lexS_len _ _ (Nat.le_refl _) _ _ hx
      rw [List.length_drop] at this
      exact ⟨ts, 4, .no, 0, 0, by simp [lexP, hb, hx, toksAv], fun _ => rfl, by omega, .inr (.inl ⟨by omega, rfl, rfl⟩)⟩
    | error p => exact ⟨[], 1, .tight, 1, p, by simp [lexP, hb, hx, noToks], by simp, by simp, .inr (.inr ⟨by omega, rfl, rfl, rfl⟩)⟩
theorem law3_run {s : List UInt8} (hs : s.length ≤ 281474976710656) : runL A (.seqc 3 [.str s]) [] = some ⟨.ret, ⟨[.bool true], []⟩, []⟩ := by
  refine (task_of_aw (N := 27) prim3 fn3 rfl rfl StOk.nil ?_).2
  intro e he ha K hK
  have a0 := ha 0
  clear ha
  simp at a0
  obtain ⟨ts, m, ap, c, p, hl, hm, hlen, _⟩ := lexP_cases s
  have h1 := lex_call hs StOk.nil
  have st1 : ∀ a b, StOk [.cells none [.int .i64 a, .int .i64 b]] := fun _ _ => rfl
  have st2 : ∀ a b c d, StOk [.cells none [.int .i64 a, .int .i64 b], .cells none [.int .i64 c, .int .i64 d]] := fun _ _ _ _ => rfl
  have h2 := fun a b => refLex_call hs (st1 a b)
  have h3 := fun a b c d => same_call (us := ts) (vs := ts) (m := m) (m' := m) (ap := ap) (ap' := ap) (by omega) (fun h => ⟨hm h, hm h⟩) (st2 a b c d)
  rw [hl] at h1
  simp only [hl] at h2
  simp [flt] at h1 h2 h3
  simp [a3, he, a0, alive_call, h1, h2, h3, putCells, takeVar, eqCells, keyKind, sameKey]
  exact hK _ _ _ (.inl rfl) (by simp) ⟨_, rfl, by simp [he, AV.still]⟩
theorem law5_run {s : List UInt8} (hs : s.length ≤ 281474976710656) : runL A (.seqc 5 [.str s]) [] = some ⟨.ret, ⟨[.bool true], []⟩, []⟩ := by
  refine (task_of_aw (N := 46) prim5 fn5 rfl rfl StOk.nil ?_).2
  intro e he ha K hK
  have a0 := ha 0
  clear ha
  simp at a0
  by_cases hbig : 3000 < s.length
  · have hbig' : (3000 : Int) < (s.length : Int) := by omega
    simp [a5, he, a0, alive_call, hbig, hbig']
    exact hK _ _ _ (.inl rfl) (by simp) ⟨_, rfl, by simp [he, AV.still]⟩
  · have hbig' : ¬ (3000 : Int) < (s.length : Int) := by omega
    obtain ⟨ts, m, ap, c, p, hl, hm, hlen, hc⟩ := lexP_cases s
    have h1 := lex_call hs StOk.nil
    rw [hl] at h1
    simp [flt] at h1
    rcases hc with ⟨hc, _⟩ | ⟨_, rfl, _⟩ | ⟨_, rfl, _, hx⟩
    · omega
    · simp [a5, he, a0, alive_call, hbig, hbig', h1, putCells, takeVar]
      exact hK _ _ _ (.inl rfl) (by simp) ⟨_, rfl, by simp [he, AV.still]⟩
    · obtain ⟨_, h2, us, h3⟩ := lexK_cut _ s (Nat.le_refl _) 0 p hx
      simp only [Nat.sub_zero] at h2 h3
      have st1 : ∀ a b, StOk [.cells none [.int .i64 a, .int .i64 b]] := fun _ _ => rfl
      have h4 := fun a b => lex_call (s := s.take p) (by simp; omega) (st1 a b)
      have hb2 : ¬ 20000 < (s.take p).length := by simp; omega
      obtain ⟨vs, hvs, _⟩ := lexK_end _ (s.take p) (Nat.le_refl _) 0 us h3
      have hlp : lexP (s.take p) = (toksAv us, flt 0 0) := by simp only [lexP, if_neg hb2, h3]
      simp only [hlp] at h4
      simp [flt, toksAv] at h4
      have hp1 : p ≤ s.length := by omega
      have hp2 : (p : Int) ≤ (s.length : Int) := by omega
      have hp3 : (p : Int) < (s.length : Int) := by omega
      have hul : 0 < us.length := by rw [hvs]; simp
      have hul' : (0 : Int) < (us.length : Int) := by omega
      simp [a5, he, a0, alive_call, hbig, hbig', h1, h4, putCells, takeVar, bound, hp1, hp2, hp3, h2, hul, hul']
      exact hK _ _ _ (.inl rfl) (by simp) ⟨_, rfl, by simp [he, AV.still]⟩
end Go.Proofs.YtjgbbdmpddddhaaDoor

namespace Go.Proofs.YtjgbbdmpddddhaaDoor
open Go Ai

theorem fn4 : A.fn 4 = some a4 := by kernel_rfl
theorem prim4 : A.prim 4 = none := by kernel_rfl
def w4_0 : List Nat := a4_0.writes
def shTok (q : Nat) (t : Tok) : Tok := { t with pos := t.pos + q }
theorem two_ok {s t : List UInt8} {ts us : List Tok} (h1 : lexK s 0 = .ok ts) (h2 : lexK t 0 = .ok us) : lexK (s ++ 10 :: t) 0 = .ok (ts.dropLast ++ us.map (shTok (s.length + 1))) := by
  rw [lexK_two _ s (Nat.le_refl _) 0 ts h1 t, show 0 + s.length + 1 = 0 + (s.length + 1) by omega, lexK_shift _ t (Nat.le_refl _) 0 (s.length + 1), h2]
  rfl
theorem lexS_pos : ∀ (n : Nat) (l : List UInt8), l.length ≤ n → ∀ p ts, lexS l p = .ok ts → ∀ u ∈ ts, u.pos ≤ p + l.length
  | 0, l, hl, p, ts, h, u, hu => by
    have : l = [] := List.eq_nil_of_length_eq_zero (by omega)
    subst this
    rw [lexS_nil] at h; cases h; simp at hu; subst hu; simp
  | n + 1, [], _, p, ts, h, u, hu => by rw [lexS_nil] at h; cases h; simp at hu; subst hu; simp
  | n + 1, c :: l, hl, p, ts, h, u, hu => by
    cases hb : (tokOf (c :: l) p).2 with
    | false => rw [lexS_bad hb] at h; cases h
    | true =>
      obtain ⟨x, hx⟩ : ∃ x, x = (tokOf (c :: l) p).1 := ⟨_, rfl⟩
      have htk : tokOf (c :: l) p = (x, true) := by rw [hx, ← hb]
      have hpos := tokOf_pos hb
      rw [htk] at hpos
      simp only at hpos
      have hle := tokOf_le htk
      rw [lexS_tok htk, lexK] at h
      obtain ⟨us, hu', rfl⟩ := map_ok h
      have hsk := skipN_le false ((c :: l).drop x.text.length)
      have hld : ((c :: l).drop x.text.length).length = l.length + 1 - x.text.length := by simp
      rcases List.mem_cons.1 hu with rfl | hu
      · have := (tokOf_shift c l p p).2
        rw [htk] at this
        simp only at this
        rw [this]; omega
      · have := lexS_pos n _ (by rw [List.length_drop, hld]; simp at hl; omega) _ _ hu' u hu
        rw [List.length_drop, hld] at this
        simp only [List.length_cons] at hle ⊢; omega
theorem law4_run {s t : List UInt8} (hs : s.length ≤ 281474976710656) (ht : t.length ≤ 281474976710656) : runL A (.seqc 4 [.str s, .str t]) [] = some ⟨.ret, ⟨[.bool true], []⟩, []⟩ := by
  refine (task_of_aw (N := 109) prim4 fn4 rfl rfl StOk.nil ?_).2
  intro e he ha K hK
  have a0 := ha 0
  have a1 := ha 1
  clear ha
  simp at a0 a1
  by_cases hb1 : 3000 < s.length
  · have hb1' : (3000 : Int) < (s.length : Int) := by omega
    simp [a4, he, a0, a1, alive_call, hb1, hb1']
    exact hK _ _ _ (.inl rfl) (by simp) ⟨_, rfl, by simp [he, AV.still]⟩
  have hb1' : ¬ (3000 : Int) < (s.length : Int) := by omega
  by_cases hb2 : 3000 < t.length
  · have hb2' : (3000 : Int) < (t.length : Int) := by omega
    simp [a4, he, a0, a1, alive_call, hb1, hb1', hb2, hb2']
    exact hK _ _ _ (.inl rfl) (by simp) ⟨_, rfl, by simp [he, AV.still]⟩
  have hb2' : ¬ (3000 : Int) < (t.length : Int) := by omega
  have st1 : ∀ a b, StOk [.cells none [.int .i64 a, .int .i64 b]] := fun _ _ => rfl
  have st2 : ∀ a b c d, StOk [.cells none [.int .i64 a, .int .i64 b], .cells none [.int .i64 c, .int .i64 d]] := fun _ _ _ _ => rfl
  obtain ⟨ts, m, ap, c, p, hl, hm, hlen, hc⟩ := lexP_cases s
  obtain ⟨us, m', ap', c', p', hl', hm', hlen', hc'⟩ := lexP_cases t
  have h1 := lex_call hs StOk.nil
  have h2 := fun a b => lex_call ht (st1 a b)
  rw [hl] at h1
  simp only [hl'] at h2
  simp [flt] at h1 h2
  by_cases hc0 : c = 0
  · subst hc0
    have hx : lexK s 0 = .ok ts := by
      rcases hc with ⟨_, _, h⟩ | ⟨_, _, h⟩ | ⟨_, h, _⟩
      · cases h
      · exact h
      · cases h
    by_cases hc1 : c' = 0
    · subst hc1
      have hy : lexK t 0 = .ok us := by
        rcases hc' with ⟨_, _, h⟩ | ⟨_, _, h⟩ | ⟨_, h, _⟩
        · cases h
        · exact h
        · cases h
      have hz := two_ok hx hy
      obtain ⟨ts0, hts, _⟩ := lexK_end _ s (Nat.le_refl _) 0 ts hx
      obtain ⟨us0, hus, _⟩ := lexK_end _ t (Nat.le_refl _) 0 us hy
      have hd : ts.dropLast = ts0 := by rw [hts]; simp
      rw [hd] at hz
      have htl : ts.length = ts0.length + 1 := by rw [hts]; simp
      have hul : us.length = us0.length + 1 := by rw [hus]; simp
      have hb3 : ¬ 20000 < (s ++ 10 :: t).length := by simp; omega
      have hlp : lexP (s ++ 10 :: t) = (toksAv (ts0 ++ us.map (shTok (s.length + 1))), flt 0 0) := by simp only [lexP, if_neg hb3, hz]
      have h3 := fun a b c d => lex_call (s := s ++ 10 :: t) (by simp; omega) (st2 a b c d)
      simp only [hlp] at h3
      have hm4 := hm (by rw [hts]; simp)
      have hm4' := hm' (by rw [hus]; simp)
      subst hm4; subst hm4'
      obtain ⟨cs, hcs⟩ : ∃ cs, cs = ts0 ++ us.map (shTok (s.length + 1)) := ⟨_, rfl⟩
      have hcl : cs.length = ts.length + us.length - 1 := by rw [hcs]; simp; omega
      rw [← hcs] at h3
      simp [flt, toksAv] at h3
      have q1 : s.length + 1 ≤ 281474976710656 := by omega
      have q2 : s.length + 1 + t.length ≤ 281474976710656 := by omega
      have q3 : ¬ ts.length < 1 := by omega
      have q3' : ¬ (ts.length : Int) < 1 := by omega
      have w1 : IntKind.i64.wrap ((ts.length : Int) + us.length) = (ts.length : Int) + us.length := wrap_i64 (by omega) (by omega)
      have w2 : IntKind.i64.wrap ((ts.length : Int) + us.length - 1) = (cs.length : Int) := by rw [wrap_i64 (by omega) (by omega)]; omega
      simp [a4, he, a0, a1, alive_call, hb1, hb1', hb2, hb2', h1, h2, h3, putCells, takeVar, q1, q2, q3, q3', w1, w2]
      refine aw_loop (W := w4_0) rfl (fun m e ds st' => ds = [] ∧ ∃ i : Nat, i + m = cs.length ∧ AX.ev e (.t 11) = .int .i64 i) cs.length ⟨rfl, 0, by omega, by simp [he]⟩ ?_
      rintro k e1 ds st' hs' ⟨rfl, i, hk, g11⟩ K1 kn kx
      have he1 : e1.length = 109 := by simp [hs'.1, he]
      have g0 := hs'.ev 0 rfl (v := .str s) (by simp [he, a0])
      have g5 := hs'.ev 5 rfl (v := .lst 4 (ts.map Tok.av) ap) (by simp [he])
      have g7 := hs'.ev 7 rfl (v := .lst 4 (us.map Tok.av) ap') (by simp [he])
      have g9 := hs'.ev 9 rfl (v := .lst 4 (cs.map Tok.av) .no) (by simp [he])
      cases k with
      | zero =>
        have : i = cs.length := by omega
        subst this
        simp [a4_0, g9, g11, he1]
        refine kx _ _ _ _ nofun fun hs' => ?_
        simp [he1]
        exact hK _ _ _ (.inl rfl) (by simp) ⟨_, rfl, by simp [he1, AV.still]⟩
      | succ k =>
        have hi : i < cs.length := by omega
        have hi' : (i : Int) < (cs.length : Int) := by omega
        have hn : ¬ (i : Int) < 0 := by omega
        have v1 : IntKind.i64.wrap ((i : Int) + 1) = (i : Int) + 1 := wrap_i64 (by omega) (by omega)
        have v2 : IntKind.i64.wrap ((ts.length : Int) - 1) = (ts0.length : Int) := by rw [wrap_i64 (by omega) (by omega)]; omega
        obtain ⟨x, hx⟩ : ∃ x, x = cs[i] := ⟨_, rfl⟩
        by_cases hlt : i < ts0.length
        · have hlt' : (i : Int) < (ts0.length : Int) := by omega
          have hia : i < ts.length := by omega
          have hxa : ts[i] = x := by rw [hx]; simp only [hcs, hts]; rw [List.getElem_append_left hlt, List.getElem_append_left hlt]
          have heq := eq_tok x x
          simp at heq
          simp [a4_0, g5, g9, g11, he1, hi, hi', hn, ← hx, v2, hlt, hlt', hia, hxa, Tok.av, heq, v1]
          exact kn k _ _ _ (by omega) ⟨rfl, i + 1, by omega, by simp [he1]⟩
        · have hlt' : ¬ (i : Int) < (ts0.length : Int) := by omega
          have v3 : IntKind.i64.wrap ((i : Int) - ts.length) = (i : Int) - ts.length := wrap_i64 (by omega) (by omega)
          obtain ⟨q, hq⟩ : ∃ q, q = i - ts0.length := ⟨_, rfl⟩
          have v4 : IntKind.i64.wrap ((i : Int) - ts.length + 1) = (q : Int) := by rw [wrap_i64 (by omega) (by omega)]; omega
          have hqu : q < us.length := by omega
          have hqn : ¬ (q : Int) < 0 := by omega
          obtain ⟨y, hy⟩ : ∃ y, y = us[q] := ⟨_, rfl⟩
          have hyp := lexS_pos _ _ (Nat.le_refl _) _ _ (show lexS (t.drop (skipN false t)) (0 + skipN false t) = .ok us from ‹lexK t 0 = .ok us›) y (by rw [hy]; exact List.getElem_mem hqu)
          have hskt := skipN_le false t
          rw [List.length_drop] at hyp
          have hxy : x = shTok (s.length + 1) y := by
            rw [hx]; simp only [hcs]
            rw [List.getElem_append_right (by omega), List.getElem_map, hy]
            congr 2; omega
          have v5 : IntKind.i64.wrap ((y.pos : Int) + s.length) = (y.pos : Int) + s.length := wrap_i64 (by omega) (by omega)
          have v6 : IntKind.i64.wrap ((y.pos : Int) + s.length + 1) = (y.pos : Int) + s.length + 1 := wrap_i64 (by omega) (by omega)
          have heq := eq_tok x x
          have hxav : x.av = .agg [.int .i64 y.kind, .str y.text, .int .i64 y.v, .int .i64 ((y.pos : Int) + s.length + 1)] := by
            rw [hxy]; simp [shTok, Tok.av]; omega
          have hl2 : [AV.int .i64 x.kind, .str x.text, .int .i64 x.v, .int .i64 x.pos] = [.int .i64 y.kind, .str y.text, .int .i64 y.v, .int .i64 ((y.pos : Int) + s.length + 1)] := by
            have := hxav; simp only [Tok.av, AV.agg.injEq] at this; exact this
          have heq2 : eqCells [0, 1, 0, 0] [AV.int .i64 x.kind, .str x.text, .int .i64 x.v, .int .i64 x.pos] [.int .i64 y.kind, .str y.text, .int .i64 y.v, .int .i64 ((y.pos : Int) + s.length + 1)] = some true := by
            rw [← hl2]; simpa using heq
          simp [a4_0, g0, g5, g7, g9, g11, he1, hi, hi', hn, ← hx, v2, hlt, hlt', v3, v4, hqu, hqn, ← hy, hxav, putCells, takeVar, v5, v6]
          simp [Tok.av, putCells, takeVar, v5, v6, he1, heq2, g0, g9, g11, hi, hi', hn, ← hx, v1]
          exact kn k _ _ _ (by omega) ⟨rfl, i + 1, by omega, by simp [he1]⟩
    · simp [a4, he, a0, a1, alive_call, hb1, hb1', hb2, hb2', h1, h2, hc1, putCells, takeVar]
      exact hK _ _ _ (.inl rfl) (by simp) ⟨_, rfl, by simp [he, AV.still]⟩
  · simp [a4, he, a0, a1, alive_call, hb1, hb1', hb2, hb2', h1, h2, hc0, putCells, takeVar]
    exact hK _ _ _ (.inl rfl) (by simp) ⟨_, rfl, by simp [he, AV.still]⟩
end Go.Proofs.YtjgbbdmpddddhaaDoor

namespace Go.Proofs.YtjgbbdmpddddhaaDoor
open Go Ai

theorem fn6 : A.fn 6 = some a6 := by kernel_rfl
theorem prim6 : A.prim 6 = none := by kernel_rfl
theorem fn12 : A.fn 12 = some a12 := by kernel_rfl
theorem prim12 : A.prim 12 = none := by kernel_rfl
theorem fn20 : A.fn 20 = some a20 := by kernel_rfl
theorem prim20 : A.prim 20 = none := by kernel_rfl
theorem fn32 : A.fn 32 = some a32 := by kernel_rfl
theorem prim32 : A.prim 32 = none := by kernel_rfl
theorem prim19 : A.prim 19 = some (pureP countA) := rfl
def w32_0 : List Nat := a32_0.writes
def w6_0 : List Nat := a6_0.writes

/-- So many bytes behind the last one that is 'c'. -/
def behind (c : UInt8) : List UInt8 → Nat
  | [] => 0
  | b :: l => if c ∈ b :: l then behind c l else l.length + 1
theorem behind_le (c : UInt8) : ∀ l : List UInt8, behind c l ≤ l.length
  | [] => Nat.le_refl _
  | b :: l => by
    have := behind_le c l
    simp only [behind, List.length_cons]; split <;> omega
theorem behind_snoc (c b : UInt8) : ∀ l : List UInt8, behind c (l ++ [b]) = if b = c then 0 else behind c l + 1
  | [] => by
    by_cases h : b = c
    · subst h; simp [behind]
    · have : ¬ c = b := fun h' => h h'.symm
      simp [behind, h, this]
  | a :: l => by
    have ih := behind_snoc c b l
    by_cases h : b = c
    · subst h
      rw [if_pos rfl] at ih ⊢
      rw [List.cons_append, behind, if_pos (by simp), ih]
    · rw [if_neg h] at ih ⊢
      have hm : c ∈ a :: (l ++ [b]) ↔ c ∈ a :: l := by
        have : ¬ c = b := fun h' => h h'.symm
        simp [this]
      rw [List.cons_append, behind, behind]
      by_cases hc : c ∈ a :: l
      · rw [if_pos (hm.2 hc), if_pos hc, ih]
      · rw [if_neg (fun h => hc (hm.1 h)), if_neg hc]; simp
theorem last_call {s : List UInt8} {c : UInt8} (hs : s.length ≤ 1000000000) {st : St} (hst : StOk st) :
    runL A (.call 20 [.str s, byteV c]) st = some ⟨.ret, ⟨[.int .i64 ((s.length : Int) - 1 - behind c s)], []⟩, st⟩ := by
  have h32 : runL A (.call 32 [.str s, byteV c]) st = some ⟨.ret, ⟨[.int .i64 ((s.length : Int) - 1 - behind c s)], []⟩, st⟩ := by
    refine (task_of_aw (N := 19) prim32 fn32 rfl rfl hst ?_).1
    intro e he ha K hK
    have a0 := ha 0
    have a1 := ha 1
    clear ha
    simp [byteV] at a0 a1
    have w0 : IntKind.i64.wrap ((s.length : Int) - 1) = (s.length : Int) - 1 := wrap_i64 (by omega) (by omega)
    simp [a32, he, a0, w0]
    refine aw_loop (W := w32_0) rfl (fun m e ds st' => ds = [] ∧ st' = st ∧ m ≤ s.length ∧ AX.ev e (.t 5) = .int .i64 ((m : Int) - 1) ∧ behind c s = s.length - m + behind c (s.take m)) s.length
      ⟨rfl, rfl, Nat.le_refl _, by simp [he], by simp⟩ ?_
    rintro m e1 ds st' hs' ⟨rfl, rfl, hm, g5, hb⟩ K1 kn kx
    have he1 : e1.length = 19 := by simp [hs'.1, he]
    have g0 := hs'.ev 0 rfl (v := .str s) (by simp [he, a0])
    have g1 := hs'.ev 1 rfl (v := .int .u8 c.toNat) (by simp [he, a1])
    cases m with
    | zero =>
      simp at g5
      simp [behind] at hb
      simp [a32_0, g0, g5, he1]
      refine kx _ _ _ _ nofun fun hs' => ?_
      simp [he1]
      exact hK _ _ _ (.inl rfl) (by simp) ⟨_, rfl, by simp [he1, AV.still]; omega⟩
    | succ m =>
      have hlt : m < s.length := by omega
      have g5' : AX.ev e1 (.t 5) = .int .i64 (m : Int) := by rw [g5]; congr 1; omega
      obtain ⟨b, hbb⟩ : ∃ b, b = s[m] := ⟨_, rfl⟩
      rw [show s.take (m + 1) = s.take m ++ [b] by rw [hbb]; simp, behind_snoc] at hb
      have hn : ¬ (m : Int) < 0 := by omega
      have hn2 : (0 : Int) ≤ (m : Int) := by omega
      have w1 : IntKind.i64.wrap ((m : Int) - 1) = (m : Int) - 1 := wrap_i64 (by omega) (by omega)
      have kk : ((b.toNat : Int) = (c.toNat : Int)) ↔ b = c := by rw [← UInt8.toNat_inj]; omega
      have hbl := behind_le c (s.take m)
      rw [List.length_take] at hbl
      by_cases hbc : b = c
      · rw [if_pos hbc] at hb
        simp [a32_0, g0, g1, g5', he1, hlt, hn, ← hbb, byteV, kk, hbc]
        refine kx _ _ _ _ nofun fun hs' => ?_
        exact hK _ _ _ (.inl rfl) (by simp) ⟨_, rfl, by simp [he1, AV.still]; omega⟩
      · rw [if_neg hbc] at hb
        have hbc' : ¬ (b.toNat : Int) = (c.toNat : Int) := fun h => hbc (kk.1 h)
        have hbc2 : ¬ b.toNat = c.toNat := fun h => hbc (UInt8.toNat_inj.1 h)
        simp [a32_0, g0, g1, g5', he1, hlt, hn, ← hbb, byteV, hbc, hbc', hbc2, w1]
        exact kn m _ _ _ (by omega) ⟨rfl, rfl, by omega, by simp [he1], by omega⟩
  refine (task_of_aw (N := 8) prim20 fn20 rfl rfl hst ?_).1
  intro e he ha K hK
  have a0 := ha 0
  have a1 := ha 1
  clear ha
  simp at a0 a1
  simp [a20, he, a0, a1, h32]
  exact hK _ _ _ (.inl rfl) (by simp) ⟨_, rfl, by simp [he, AV.still]⟩
/-- A place, inside. -/
def clampN (at0 : Int) (n : Nat) : Nat := if at0 < 0 then 0 else if (n : Int) < at0 then n else at0.toNat
theorem line_call {s : List UInt8} {i : Int} (hs : s.length ≤ 1000000000) {st : St} (hst : StOk st) :
    runL A (.call 12 [.str s, .int .i64 i]) st = some ⟨.ret, ⟨[.tup [.int .i64 (1 + (s.take (clampN i s.length)).count 10 : Nat), .int .i64 (1 + behind 10 (s.take (clampN i s.length)) : Nat)]], []⟩, st⟩ := by
  refine (task_of_aw (N := 22) prim12 fn12 rfl rfl hst ?_).1
  intro e he ha K hK
  have a0 := ha 0
  have a1 := ha 1
  clear ha
  simp at a0 a1
  obtain ⟨k, hk⟩ : ∃ k, k = clampN i s.length := ⟨_, rfl⟩
  have hkl : k ≤ s.length := by rw [hk]; unfold clampN; split <;> (try split) <;> omega
  have hkl' : (k : Int) ≤ (s.length : Int) := by omega
  have hif : (if 0 < (if (s.length : Int) < i then (s.length : Int) else i) then (if (s.length : Int) < i then (s.length : Int) else i) else 0) = (k : Int) := by
    rw [hk]; unfold clampN
    repeat' split
    all_goals omega
  obtain ⟨x, hx⟩ : ∃ x, x = s.take k := ⟨_, rfl⟩
  have hcl := List.count_le_length (l := x) (a := 10)
  have hxl : x.length ≤ s.length := by rw [hx, List.length_take]; omega
  have hc : runL A (.call 19 [.str x, .str [10]]) st = some ⟨.ret, ⟨[.int .i64 (x.count 10 : Nat)], []⟩, st⟩ := runL_pure prim19 (by simp [countA, Lib.countByte])
  have hl := last_call (s := x) (c := 10) (by omega) hst
  have hbl := behind_le 10 x
  simp [byteV] at hl
  have w1 : IntKind.i64.wrap (1 + (x.count 10 : Int)) = ((1 + x.count 10 : Nat) : Int) := by rw [wrap_i64 (by omega) (by omega)]; omega
  have w2 : IntKind.i64.wrap ((x.length : Int) - ((x.length : Int) - 1 - behind 10 x)) = ((1 + behind 10 x : Nat) : Int) := by rw [wrap_i64 (by omega) (by omega)]; omega
  rw [← hk, ← hx] at hK
  simp [a12, he, a0, a1, hif, bound, hkl, hkl', ← hx, hc, hl, w1, w2]
  exact hK _ _ _ (.inl rfl) (by simp) ⟨_, rfl, by simp [he, AV.still, AV.stills]⟩
theorem law6_run {s : List UInt8} {i : Int} (hs : s.length ≤ 281474976710656) (h0 : -9223372036854775808 ≤ i) (h1 : i ≤ 9223372036854775807) : runL A (.seqc 6 [.str s, .int .i64 i]) [] = some ⟨.ret, ⟨[.bool true], []⟩, []⟩ := by
  refine (task_of_aw (N := 59) prim6 fn6 rfl rfl StOk.nil ?_).2
  intro e he ha K hK
  have a0 := ha 0
  have a1 := ha 1
  clear ha
  simp at a0 a1
  by_cases hb1 : 30000 < s.length
  · have hb1' : (30000 : Int) < (s.length : Int) := by omega
    simp [a6, he, a0, a1, alive_call, hb1, hb1']
    exact hK _ _ _ (.inl rfl) (by simp) ⟨_, rfl, by simp [he, AV.still]⟩
  have hb1' : ¬ (30000 : Int) < (s.length : Int) := by omega
  obtain ⟨k, hk⟩ : ∃ k, k = clampN i s.length := ⟨_, rfl⟩
  have hkl : k ≤ s.length := by rw [hk]; unfold clampN; split <;> (try split) <;> omega
  have hline := line_call (s := s) (i := i) (by omega) StOk.nil
  rw [← hk] at hline
  have hw1 := word_call (s := s) StOk.nil
  have hw2 := refWord_call (s := s) StOk.nil
  have key : ∀ e1 : Env, e1.length = 59 → AX.ev e1 (.t 0) = .str s → AX.ev e1 (.t 1) = .int .i64 i → AX.ev e1 (.t 5) = .int .i64 k → AX.ev e1 (.t 6) = .int .i64 1 → AX.ev e1 (.t 7) = .int .i64 1 → AX.ev e1 (.t 8) = .int .i64 0 →
      ∀ Q : PostQ, (∀ e2 : Env, e2.length = 59 → AX.ev e2 (.t 0) = .str s → AX.ev e2 (.t 1) = .int .i64 i → AX.ev e2 (.t 6) = .int .i64 (1 + (s.take k).count 10 : Nat) → AX.ev e2 (.t 7) = .int .i64 (1 + behind 10 (s.take k) : Nat) → Q (.exit 0) e2 [] []) →
      AW A 6 none (.loop a6_0) e1 [] [] Q := by
    intro e1 he1 b0 b1 b5 b6 b7 b8 Q hQ
    refine aw_loop (W := w6_0) rfl (fun m e ds st' => ds = [] ∧ st' = [] ∧ ∃ j : Nat, j + m = k ∧ AX.ev e (.t 8) = .int .i64 j ∧ AX.ev e (.t 6) = .int .i64 (1 + (s.take j).count 10 : Nat) ∧ AX.ev e (.t 7) = .int .i64 (1 + behind 10 (s.take j) : Nat)) k
      ⟨rfl, rfl, 0, by omega, b8, by simpa using b6, by simpa [behind] using b7⟩ ?_
    rintro m e2 ds st' hs' ⟨rfl, rfl, j, hm, g8, g6, g7⟩ K1 kn kx
    have he2 : e2.length = 59 := by simp [hs'.1, he1]
    have g0 := hs'.ev 0 rfl b0
    have g1 := hs'.ev 1 rfl b1
    have g5 := hs'.ev 5 rfl b5
    cases m with
    | zero =>
      have : j = k := by omega
      subst this
      simp [a6_0, g5, g8, he2]
      refine kx _ _ _ _ nofun fun hs' => ?_
      exact hQ _ (by simp [he2]) (by simp [he2, g0]) (by simp [he2, g1]) (by simp [he2, g6]) (by simp [he2, g7])
    | succ m =>
      have hj : j < s.length := by omega
      have hjk : j < k := by omega
      have hjk' : (j : Int) < (k : Int) := by omega
      have hn : ¬ (j : Int) < 0 := by omega
      obtain ⟨b, hb⟩ : ∃ b, b = s[j] := ⟨_, rfl⟩
      have htk : s.take (j + 1) = s.take j ++ [b] := by rw [hb]; simp
      have e10 : b.toNat = 10 ↔ b = 10 := (byte_eq (c := b) (n := 10) (by decide)).symm
      have k10 : ((b.toNat : Int) = 10) ↔ b.toNat = 10 := by omega
      obtain ⟨x, hx⟩ : ∃ x, x = s.take j := ⟨_, rfl⟩
      have hxl : x.length ≤ s.length := by rw [hx, List.length_take]; omega
      rw [← hx] at g6 g7 htk
      have hcl := List.count_le_length (l := x) (a := 10)
      have hbl := behind_le 10 x
      obtain ⟨u, hu⟩ : ∃ u, u = x.count 10 := ⟨_, rfl⟩
      obtain ⟨v, hv⟩ : ∃ v, v = behind 10 x := ⟨_, rfl⟩
      rw [← hu] at g6 hcl
      rw [← hv] at g7 hbl
      have w1 : IntKind.i64.wrap ((j : Int) + 1) = (j : Int) + 1 := wrap_i64 (by omega) (by omega)
      have w2 : IntKind.i64.wrap (1 + (v : Int) + 1) = 1 + (v : Int) + 1 := wrap_i64 (by omega) (by omega)
      have w3 : IntKind.i64.wrap (1 + (u : Int) + 1) = 1 + (u : Int) + 1 := wrap_i64 (by omega) (by omega)
      simp at g6 g7
      by_cases h10 : b.toNat = 10
      · simp [a6_0, g0, g5, g6, g7, g8, he2, hj, hjk, hjk', hn, ← hb, byteV, k10, h10, w1, w2, w3]
        refine kn m _ _ _ (by omega) ⟨rfl, rfl, j + 1, by omega, by simp [he2], ?_, ?_⟩
        · rw [htk, List.count_append, ← hu, e10.1 h10]; simp [he2]; omega
        · rw [htk, behind_snoc, if_pos (e10.1 h10)]; simp [he2]
      · have hne : ¬ b = 10 := fun h => h10 (e10.2 h)
        simp [a6_0, g0, g5, g6, g7, g8, he2, hj, hjk, hjk', hn, ← hb, byteV, k10, h10, w1, w2]
        refine kn m _ _ _ (by omega) ⟨rfl, rfl, j + 1, by omega, by simp [he2], ?_, ?_⟩
        · rw [htk, List.count_append, ← hu]; simp [he2, g6, hne]
        · rw [htk, behind_snoc, if_neg hne, ← hv]; simp [he2]; omega
  have hcl := List.count_le_length (l := s.take k) (a := 10)
  obtain ⟨u, hu⟩ : ∃ u, u = (s.take k).count 10 := ⟨_, rfl⟩
  obtain ⟨v, hv⟩ : ∃ v, v = behind 10 (s.take k) := ⟨_, rfl⟩
  rw [← hu, ← hv] at hline
  simp at hline
  simp only [← hu, ← hv] at key
  by_cases hneg : i < 0
  · have hk0 : k = 0 := by rw [hk, clampN, if_pos hneg]
    have hsl : ¬ (s.length : Int) < 0 := by omega
    simp [a6, he, a0, a1, alive_call, hb1, hb1', hneg, hsl]
    refine key _ (by simp [he]) (by simp [he, a0]) (by simp [he, a1]) (by simp [he, hk0]) (by simp [he]) (by simp [he]) (by simp [he]) _ fun e2 he2 b0 b1 b6 b7 => ?_
    simp at b6 b7
    simp [he2, b0, b1, b6, b7, hline, hw1, hw2]
    exact hK _ _ _ (.inl rfl) (by simp) ⟨_, rfl, by simp [he2, AV.still]⟩
  · by_cases hgt : (s.length : Int) < i
    · have hk0 : k = s.length := by rw [hk, clampN, if_neg hneg, if_pos hgt]
      simp [a6, he, a0, a1, alive_call, hb1, hb1', hneg, hgt]
      refine key _ (by simp [he]) (by simp [he, a0]) (by simp [he, a1]) (by simp [he, hk0]) (by simp [he]) (by simp [he]) (by simp [he]) _ fun e2 he2 b0 b1 b6 b7 => ?_
      simp at b6 b7
      simp [he2, b0, b1, b6, b7, hline, hw1, hw2]
      exact hK _ _ _ (.inl rfl) (by simp) ⟨_, rfl, by simp [he2, AV.still]⟩
    · have hk0 : (k : Int) = i := by rw [hk, clampN, if_neg hneg, if_neg hgt]; omega
      simp [a6, he, a0, a1, alive_call, hb1, hb1', hneg, hgt]
      refine key _ (by simp [he]) (by simp [he, a0]) (by simp [he, a1]) (by simp [he, hk0]) (by simp [he]) (by simp [he]) (by simp [he]) _ fun e2 he2 b0 b1 b6 b7 => ?_
      simp at b6 b7
      simp [he2, b0, b1, b6, b7, hline, hw1, hw2]
      exact hK _ _ _ (.inl rfl) (by simp) ⟨_, rfl, by simp [he2, AV.still]⟩
end Go.Proofs.YtjgbbdmpddddhaaDoor

namespace Go.Proofs.YtjgbbdmpddddhaaDoor
open Go Ai

theorem fn7 : A.fn 7 = some a7 := by kernel_rfl
theorem prim7 : A.prim 7 = none := by kernel_rfl
theorem fn15 : A.fn 15 = some a15 := by kernel_rfl
theorem prim15 : A.prim 15 = none := by kernel_rfl
theorem prim22 : A.prim 22 = some (pureP joinA) := rfl
def w7_0 : List Nat := a7_0.writes
def w15_0 : List Nat := a15_0.writes

def gaps : List Tok → Nat
  | [] => 0
  | u :: us => u.text.length + 1 + gaps us
theorem gaps_append : ∀ us vs : List Tok, gaps (us ++ vs) = gaps us + gaps vs
  | [], vs => by simp [gaps]
  | u :: us, vs => by simp only [List.cons_append, gaps, gaps_append us vs]; omega
theorem gaps_take : ∀ (us : List Tok) (i : Nat), gaps (us.take i) ≤ gaps us
  | [], i => by simp [gaps]
  | u :: us, 0 => by simp [gaps]
  | u :: us, i + 1 => by have := gaps_take us i; simp only [List.take_succ_cons, gaps]; omega
theorem joined_gaps : ∀ us : List Tok, us ≠ [] → (joined us).length + 1 = gaps us
  | [], h => absurd rfl h
  | [u], _ => by simp [joined, gaps]
  | u :: v :: us, _ => by
    have := joined_gaps (v :: us) (by simp)
    simp only [joined, List.length_append, List.length_cons, gaps] at this ⊢; omega
theorem joined_join : ∀ us : List Tok, joined us = Lib.join (us.map (·.text)) [32]
  | [] => rfl
  | [u] => by simp [joined, Lib.join_one]
  | u :: v :: us => by
    rw [joined, joined_join (v :: us)]
    simp only [List.map_cons, Lib.join_cons]
    simp [Lib.joinTail]
theorem lexS_gaps : ∀ (n : Nat) (l : List UInt8), l.length ≤ n → ∀ p ts, lexS l p = .ok ts → gaps ts ≤ 2 * l.length + 1
  | 0, l, hl, p, ts, h => by
    have : l = [] := List.eq_nil_of_length_eq_zero (by omega)
    subst this
    rw [lexS_nil] at h; cases h; simp [gaps]
  | n + 1, [], _, p, ts, h => by rw [lexS_nil] at h; cases h; simp [gaps]
  | n + 1, c :: l, hl, p, ts, h => by
    cases hb : (tokOf (c :: l) p).2 with
    | false => rw [lexS_bad hb] at h; cases h
    | true =>
      obtain ⟨x, hx⟩ : ∃ x, x = (tokOf (c :: l) p).1 := ⟨_, rfl⟩
      have htk : tokOf (c :: l) p = (x, true) := by rw [hx, ← hb]
      have hpos := tokOf_pos hb
      rw [htk] at hpos
      simp only at hpos
      have hle := tokOf_le htk
      rw [lexS_tok htk, lexK] at h
      obtain ⟨us, hu', rfl⟩ := map_ok h
      have hld : ((c :: l).drop x.text.length).length = l.length + 1 - x.text.length := by simp
      have := lexS_gaps n _ (by rw [List.length_drop, hld]; simp at hl; omega) _ _ hu'
      rw [List.length_drop, hld] at this
      simp only [List.length_cons, gaps] at hle ⊢; omega
theorem place_get : ∀ (us : List Tok) (p i : Nat) (h : i < us.length), (place p us)[i]? = some { us[i] with pos := p + gaps (us.take i) }
  | [], _, i, h => by simp at h
  | u :: us, p, 0, _ => by simp [place, gaps]
  | u :: us, p, i + 1, h => by
    have := place_get us (p + u.text.length + 1) i (by simpa using h)
    simp only [place, List.getElem?_cons_succ, this, List.getElem_cons_succ, List.take_succ_cons, gaps]
    congr 2; omega

/-- The texts of what isn't the end. -/
def texts : List Tok → List (List UInt8)
  | [] => []
  | t :: ts => if t.kind = 5 then texts ts else t.text :: texts ts
theorem texts_append : ∀ a b : List Tok, texts (a ++ b) = texts a ++ texts b
  | [], b => rfl
  | t :: a, b => by simp only [List.cons_append, texts, texts_append a b]; split <;> rfl
theorem texts_all : ∀ us : List Tok, (∀ u ∈ us, u.kind ≠ 5) → texts us = us.map (·.text)
  | [], _ => rfl
  | u :: us, h => by rw [texts, if_neg (h u (by simp)), texts_all us fun x hx => h x (by simp [hx])]; rfl
theorem texts_len : ∀ us : List Tok, (texts us).length ≤ us.length
  | [] => by simp [texts]
  | u :: us => by have := texts_len us; simp only [texts]; split <;> simp <;> omega
theorem join_call {ts : List Tok} {ap : Ap} (hl : ts.length ≤ 100000) (hj : (Lib.join (texts ts) [32]).length ≤ 100000) {st : St} (hst : StOk st) :
    runL A (.call 15 [.lst 4 (ts.map Tok.av) ap]) st = some ⟨.ret, ⟨[.str (Lib.join (texts ts) [32])], []⟩, st⟩ := by
  refine (task_of_aw (N := 23) prim15 fn15 rfl rfl hst ?_).1
  intro e he ha K hK
  have a0 := ha 0
  clear ha
  simp at a0
  simp [a15, he, a0]
  refine aw_loop (W := w15_0) rfl (fun m e ds st' => ds = [] ∧ ∃ (i : Nat) (out : Ap), i + m = ts.length ∧ AX.ev e (.t 8) = .int .i64 i ∧ AX.ev e (.t 3) = .lst 1 ((texts (ts.take i)).map AV.str) out ∧ OwnW st' st.length 1 (some 9) out (texts (ts.take i)).length ∧ Grew st.length st st') ts.length
    ⟨rfl, 0, .tight, by omega, by simp [he], by simp [he, texts], .inl rfl, .refl⟩ ?_
  rintro m e1 ds st' hs' ⟨rfl, i, out, hm, g8, g3, ho, hg⟩ K1 kn kx
  have he1 : e1.length = 23 := by simp [hs'.1, he]
  have g6 := hs'.ev 6 rfl (v := .lst 4 (ts.map Tok.av) ap) (by simp [he])
  have g7 := hs'.ev 7 rfl (v := .int .i64 ts.length) (by simp [he])
  cases m with
  | zero =>
    have : i = ts.length := by omega
    subst this
    rw [List.take_length] at g3
    have hp : ∀ S, runL A (.call 22 [.lst 1 ((texts ts).map AV.str) out, .str [32]]) S = some ⟨.ret, ⟨[.str (Lib.join (texts ts) [32])], []⟩, S⟩ := fun S => runL_pure prim22 (by
      have h1 := texts_len ts
      simp only [joinA, strsA_map, Option.bind_some]
      rw [if_pos ⟨by omega, by omega⟩])
    simp [a15_0, g7, g8, he1]
    refine kx _ _ _ _ nofun fun hs' => ?_
    simp [he1, g3, hp]
    exact hK _ _ _ (.inl rfl) (by have := hg.take; simpa using this) ⟨_, rfl, by simp [he1, AV.still]⟩
  | succ m =>
    have hi : i < ts.length := by omega
    have hi' : (i : Int) < (ts.length : Int) := by omega
    have hn : ¬ (i : Int) < 0 := by omega
    have w1 : IntKind.i64.wrap ((i : Int) + 1) = (i : Int) + 1 := wrap_i64 (by omega) (by omega)
    obtain ⟨x, hx⟩ : ∃ x, x = ts[i] := ⟨_, rfl⟩
    have htk : texts (ts.take (i + 1)) = texts (ts.take i) ++ texts [x] := by rw [← texts_append]; congr 1; rw [hx]; simp
    have htl := texts_len (ts.take i)
    rw [List.length_take] at htl
    by_cases h5 : x.kind = 5
    · have h5' : (x.kind : Int) = 5 := by omega
      simp [texts, h5] at htk
      simp [a15_0, g3, g6, g7, g8, he1, hi, hi', hn, ← hx, Tok.av, putCells, takeVar, h5, h5', w1]
      refine kn m _ _ _ (by omega) ⟨rfl, i + 1, out, by omega, by simp [he1], by rw [htk]; simp [he1, g3], by rw [htk]; exact ho.app _, ?_⟩
      exact ⟨by rw [List.take_append_of_le_length hg.len]; exact hg.take, by have := hg.len; simp; omega, fun h => (hg.ok h).snoc rfl⟩
    · have h5' : ¬ (x.kind : Int) = 5 := by omega
      simp [texts, h5] at htk
      obtain ⟨out', st2, hap, ho', hg2, _⟩ := append_own (bytes := 16) (ap0 := .tight) (ty := some 9) (ys := [.str x.text]) (es := (texts (ts.take i)).map AV.str) (b := st.length) (st := st' ++ [.cells none x.av.cells]) (by have := hg.len; simp; omega) (by simpa using ho.app _) (by simp) (by simp [Ai.great]; omega) (by omega)
      simp [Tok.av] at hap
      simp [a15_0, g3, g6, g7, g8, he1, hi, hi', hn, ← hx, Tok.av, putCells, takeVar, h5, h5', w1, hap]
      refine kn m _ _ _ (by omega) ⟨rfl, i + 1, out', by omega, by simp [he1], by rw [htk]; simp [he1], by rw [htk]; simpa using ho'.weak, ?_⟩
      refine Grew.trans ?_ hg2
      exact ⟨by rw [List.take_append_of_le_length hg.len]; exact hg.take, by have := hg.len; simp; omega, fun h => (hg.ok h).snoc (by have := tok_low (st'.length + 1) x; simpa [Tok.av, AObj.lowB, AV.lowB] using this)⟩
end Go.Proofs.YtjgbbdmpddddhaaDoor

namespace Go.Proofs.YtjgbbdmpddddhaaDoor
open Go Ai

set_option maxRecDepth 20000 in
set_option maxHeartbeats 2000000 in
theorem law7_run {s : List UInt8} (hs : s.length ≤ 281474976710656) : runL A (.seqc 7 [.str s]) [] = some ⟨.ret, ⟨[.bool true], []⟩, []⟩ := by
  refine (task_of_aw (N := 124) prim7 fn7 rfl rfl StOk.nil ?_).2
  intro e he ha K hK
  have a0 := ha 0
  clear ha
  simp at a0
  by_cases hbig : 5000 < s.length
  · have hbig' : (5000 : Int) < (s.length : Int) := by omega
    simp [a7, he, a0, alive_call, hbig, hbig']
    exact hK _ _ _ (.inl rfl) (by simp) ⟨_, rfl, by simp [he, AV.still]⟩
  have hbig' : ¬ (5000 : Int) < (s.length : Int) := by omega
  obtain ⟨ts, m, ap, c, p, hl, hm, hlen, hc⟩ := lexP_cases s
  have h1 := lex_call hs StOk.nil
  rw [hl] at h1
  simp [flt] at h1
  by_cases hc0 : c = 0
  · subst hc0
    have hx : lexK s 0 = .ok ts := by
      rcases hc with ⟨_, _, h⟩ | ⟨_, _, h⟩ | ⟨_, h, _⟩
      · cases h
      · exact h
      · cases h
    obtain ⟨us, hts, hus⟩ := lexK_end _ s (Nat.le_refl _) 0 ts hx
    have hjn := lexK_join _ s (Nat.le_refl _) 0 us _ (by rw [hx, hts]) 0
    have htx : texts ts = us.map (·.text) := by
      rw [hts, texts_append, texts_all us fun u hu => (hus u hu).1]; simp [texts]
    have hgp := lexS_gaps _ _ (Nat.le_refl _) _ _ (show lexS (s.drop (skipN false s)) (0 + skipN false s) = .ok ts from hx)
    rw [List.length_drop, hts, gaps_append] at hgp
    simp only [gaps] at hgp
    have hjl : (joined us).length ≤ gaps us := by
      cases us with
      | nil => simp [joined]
      | cons u us => have := joined_gaps (u :: us) (by simp); omega
    have hjs : Lib.join (texts ts) [32] = joined us := by rw [htx, joined_join]
    have hm4 := hm (by rw [hts]; simp)
    subst hm4
    have st1 : ∀ a b, StOk [.cells none [.int .i64 a, .int .i64 b]] := fun _ _ => rfl
    have h2 := fun a b => join_call (ts := ts) (ap := ap) (by omega) (by rw [hjs]; omega) (st1 a b)
    simp only [hjs] at h2
    obtain ⟨j, hj⟩ : ∃ j, j = joined us := ⟨_, rfl⟩
    rw [← hj] at hjn hjl h2
    have hb3 : ¬ 20000 < j.length := by omega
    obtain ⟨vs, hvs⟩ : ∃ vs, vs = place 0 us ++ [⟨5, [], 0, 0 + j.length⟩] := ⟨_, rfl⟩
    rw [← hvs] at hjn
    have hvl : vs.length = ts.length := by rw [hvs, hts]; simp [place_length]
    have htl : ts.length = us.length + 1 := by rw [hts]; simp
    have hlp : lexP j = (toksAv vs, flt 0 0) := by simp only [lexP, if_neg hb3, hjn]
    have h3 := fun a b => lex_call (s := j) (by omega) (st1 a b)
    simp only [hlp] at h3
    simp [flt, toksAv, hvl] at h2 h3
    simp [a7, he, a0, alive_call, hbig, hbig', h1, h2, h3, putCells, takeVar, hvl]
    refine aw_loop (W := w7_0) rfl (fun m e ds st' => ds = [] ∧ ∃ i : Nat, i + m = ts.length ∧ AX.ev e (.t 9) = .int .i64 i ∧ AX.ev e (.t 8) = .int .i64 (gaps (ts.take i))) ts.length ⟨rfl, 0, by omega, by simp [he], by simp [he, gaps]⟩ ?_
    rintro k e1 ds st' hs' ⟨rfl, i, hk, g9, g8⟩ K1 kn kx
    have he1 : e1.length = 124 := by simp [hs'.1, he]
    have g3 := hs'.ev 3 rfl (v := .lst 4 (ts.map Tok.av) ap) (by simp [he])
    have g5 := hs'.ev 5 rfl (v := .str j) (by simp [he])
    have g6 := hs'.ev 6 rfl (v := .lst 4 (vs.map Tok.av) .no) (by simp [he])
    cases k with
    | zero =>
      have : i = ts.length := by omega
      subst this
      have hpos : 0 < vs.length := by omega
      have hpos' : (0 : Int) < (vs.length : Int) := by omega
      have w1 : IntKind.i64.wrap ((vs.length : Int) - 1) = (us.length : Int) := by rw [wrap_i64 (by omega) (by omega)]; omega
      have hui : us.length < vs.length := by omega
      have hlast : vs[us.length] = ⟨5, [], 0, j.length⟩ := by
        simp only [hvs]
        rw [List.getElem_append_right (by rw [place_length]; omega)]
        simp
      have hn : ¬ (us.length : Int) < 0 := by omega
      simp [a7_0, g3, g9, he1]
      refine kx _ _ _ _ nofun fun hs' => ?_
      simp [g5, g6, he1, hpos, hpos', w1, hui, hlast, hn, Tok.av, takeVar]
      exact hK _ _ _ (.inl rfl) (by simp) ⟨_, rfl, by simp [he1, AV.still]⟩
    | succ k =>
      have hi : i < ts.length := by omega
      have hi' : (i : Int) < (ts.length : Int) := by omega
      have hiv : i < vs.length := by omega
      have hn : ¬ (i : Int) < 0 := by omega
      have v1 : IntKind.i64.wrap ((i : Int) + 1) = (i : Int) + 1 := wrap_i64 (by omega) (by omega)
      obtain ⟨x, hx'⟩ : ∃ x, x = ts[i] := ⟨_, rfl⟩
      have htk : ts.take (i + 1) = ts.take i ++ [x] := by rw [hx']; simp
      have hgi := gaps_take ts (i + 1)
      rw [htk, gaps_append] at hgi
      have hgt : gaps ts = gaps us + 1 := by rw [hts, gaps_append]; simp [gaps]
      simp only [gaps] at hgi
      obtain ⟨n, hn'⟩ : ∃ n, n = gaps (ts.take i) := ⟨_, rfl⟩
      rw [← hn'] at g8 hgi
      have v2 : IntKind.i64.wrap ((n : Int) + x.text.length) = (n : Int) + x.text.length := wrap_i64 (by omega) (by omega)
      have v3 : IntKind.i64.wrap ((n : Int) + x.text.length + 1) = (n : Int) + x.text.length + 1 := wrap_i64 (by omega) (by omega)
      have hnext : gaps (ts.take (i + 1)) = n + x.text.length + 1 := by rw [htk, gaps_append, ← hn']; simp [gaps]; omega
      by_cases hlt : i < us.length
      · have hy : vs[i] = { x with pos := n } := by
          have h1 := place_get us 0 i hlt
          have h2 : vs[i]? = (place 0 us)[i]? := by rw [hvs, List.getElem?_append_left (by rw [place_length]; exact hlt)]
          rw [h1, List.getElem?_eq_getElem hiv] at h2
          have h3 := Option.some.inj h2
          rw [h3, hx', hn']
          have e1 : ts[i] = us[i] := by simp only [hts]; rw [List.getElem_append_left hlt]
          have e2 : ts.take i = us.take i := by rw [hts, List.take_append_of_le_length (by omega)]
          rw [e1, e2, Nat.zero_add]
        simp [a7_0, g3, g6, g8, g9, he1, hi, hi', hiv, hn, ← hx', hy, Tok.av, takeVar, v1, v2, v3]
        exact kn k _ _ _ (by omega) ⟨rfl, i + 1, by omega, by simp [he1], by rw [hnext]; simp [he1]⟩
      · have hiu : i = us.length := by omega
        have hxe : x = ⟨5, [], 0, 0 + s.length⟩ := by
          rw [hx']; simp only [hts]
          rw [List.getElem_append_right (by omega)]
          simp
        have hy : vs[i] = ⟨5, [], 0, j.length⟩ := by
          simp only [hvs]
          rw [List.getElem_append_right (by rw [place_length]; omega)]
          simp
        rw [hxe] at v2 v3 hnext
        simp at v2 v3
        rw [hxe] at hx'
        by_cases hjn2 : (j.length : Int) = (n : Int)
        · simp [a7_0, g3, g6, g8, g9, he1, hi, hi', hiv, hn, ← hx', hy, Tok.av, takeVar, v1, v2, v3, hjn2]
          exact kn k _ _ _ (by omega) ⟨rfl, i + 1, by omega, by simp [he1], by rw [hnext]; simp [he1]⟩
        · have hjn3 : ¬ j.length = n := by omega
          simp [a7_0, g3, g6, g8, g9, he1, hi, hi', hiv, hn, ← hx', hy, Tok.av, takeVar, v1, v2, v3, hjn2, hjn3]
          exact kn k _ _ _ (by omega) ⟨rfl, i + 1, by omega, by simp [he1], by rw [hnext]; simp [he1]⟩
  · simp [a7, he, a0, alive_call, hbig, hbig', h1, hc0, putCells, takeVar]
    exact hK _ _ _ (.inl rfl) (by simp) ⟨_, rfl, by simp [he, AV.still]⟩
end Go.Proofs.YtjgbbdmpddddhaaDoor

namespace Go.Proofs.YtjgbbdmpddddhaaDoor
open Go Ai

theorem i64_bounds {x : Int} (h : (Lit.int .i64 x).wf = true) : -9223372036854775808 ≤ x ∧ x ≤ 9223372036854775807 := by
  simpa [Lit.wf, IntKind.min, IntKind.max, IntKind.signed, IntKind.bits] using h

set_option maxRecDepth 100000 in
theorem runsLexTokens (avs : List AV) (h : ArgsOf Tryd.prog 8 Tryd.f3.params.toList avs) (hb : AV.bulks avs ≤ 1048576) : ∃ st ds, runL A (.seqc 3 avs) [] = some ⟨.ret, ⟨[.bool true], ds⟩, st⟩ := by
  rw [Tryd.params3] at h
  simp only [ArgsOf] at h
  obtain ⟨a, _, rfl, h1, rfl⟩ := h
  obtain ⟨s, rfl, hs⟩ := ofType_str Tryd.underlying9 h1
  exact ⟨_, _, law3_run (by simp only [AV.bulks, AV.bulk] at hb; omega)⟩
set_option maxRecDepth 100000 in
theorem runsLexTwo (avs : List AV) (h : ArgsOf Tryd.prog 8 Tryd.f4.params.toList avs) (hb : AV.bulks avs ≤ 1048576) : ∃ st ds, runL A (.seqc 4 avs) [] = some ⟨.ret, ⟨[.bool true], ds⟩, st⟩ := by
  rw [Tryd.params4] at h
  simp only [ArgsOf] at h
  obtain ⟨a, _, rfl, h1, b, _, rfl, h2, rfl⟩ := h
  obtain ⟨s, rfl, hs⟩ := ofType_str Tryd.underlying9 h1
  obtain ⟨t, rfl, ht⟩ := ofType_str Tryd.underlying9 h2
  exact ⟨_, _, law4_run (by simp only [AV.bulks, AV.bulk] at hb; omega) (by simp only [AV.bulks, AV.bulk] at hb; omega)⟩
set_option maxRecDepth 100000 in
theorem runsLexCuts (avs : List AV) (h : ArgsOf Tryd.prog 8 Tryd.f5.params.toList avs) (hb : AV.bulks avs ≤ 1048576) : ∃ st ds, runL A (.seqc 5 avs) [] = some ⟨.ret, ⟨[.bool true], ds⟩, st⟩ := by
  rw [Tryd.params5] at h
  simp only [ArgsOf] at h
  obtain ⟨a, _, rfl, h1, rfl⟩ := h
  obtain ⟨s, rfl, hs⟩ := ofType_str Tryd.underlying9 h1
  exact ⟨_, _, law5_run (by simp only [AV.bulks, AV.bulk] at hb; omega)⟩
set_option maxRecDepth 100000 in
theorem runsLexWords (avs : List AV) (h : ArgsOf Tryd.prog 8 Tryd.f6.params.toList avs) (hb : AV.bulks avs ≤ 1048576) : ∃ st ds, runL A (.seqc 6 avs) [] = some ⟨.ret, ⟨[.bool true], ds⟩, st⟩ := by
  rw [Tryd.params6] at h
  simp only [ArgsOf] at h
  obtain ⟨a, _, rfl, h1, b, _, rfl, h2, rfl⟩ := h
  obtain ⟨s, rfl, hs⟩ := ofType_str Tryd.underlying9 h1
  obtain ⟨i, rfl, hi⟩ := ofType_int Tryd.underlying3 h2
  exact ⟨_, _, law6_run (by simp only [AV.bulks, AV.bulk] at hb; omega) (i64_bounds hi).1 (i64_bounds hi).2⟩
set_option maxRecDepth 100000 in
theorem runsLexJoin (avs : List AV) (h : ArgsOf Tryd.prog 8 Tryd.f7.params.toList avs) (hb : AV.bulks avs ≤ 1048576) : ∃ st ds, runL A (.seqc 7 avs) [] = some ⟨.ret, ⟨[.bool true], ds⟩, st⟩ := by
  rw [Tryd.params7] at h
  simp only [ArgsOf] at h
  obtain ⟨a, _, rfl, h1, rfl⟩ := h
  obtain ⟨s, rfl, hs⟩ := ofType_str Tryd.underlying9 h1
  exact ⟨_, _, law7_run (by simp only [AV.bulks, AV.bulk] at hb; omega)⟩

theorem glOk {W : World} {laid : List (String × DataW Unit)} (_ : laidMetH Tryd.prog laid W) : GlOk gl (J0 W) := by
  intro g v h; cases h
theorem bwOk {W : World} (h : laidMetH Tryd.prog Rows.lexTokensUptoRow.laid W) : Bw W :=
  tab_of_laid (g := 1) (t := 72) (e := 5) (m := 256) (by kernel_rfl) (by kernel_rfl) (by kernel_rfl) Tryd.underlying72 Tryd.underlying5 (by kernel_rfl) (by kernel_rfl) h

/-- The settled world's size. -/
noncomputable def low : Nat := (World.holding Tryd.prog default ⟨#[], #[], []⟩).heap.size
def plainD : DataW Unit → Bool
  | .agg _ => true
  | .lit _ => true
  | _ => false
def setAll : List (Nat × Array Value) → Array Obj → Array Obj
  | [], h => h
  | x :: l, h => setAll l (h.modify x.1 fun
      | .cells _ t frozen => .cells x.2 t frozen
      | o => o)
def r16 (a b c : Int) : List Value := [.int .u16 a, .int .u16 b, .int .u16 c]
/-- A world for the witness: the tables, the two errors, and the blanks' table, as they are laid. -/
noncomputable def wit (os : Os) : World :=
  let w0 := World.holding Tryd.prog os ⟨#[.cells #[.string ⟨#[118, 97, 108, 117, 101, 32, 111, 117, 116, 32, 111, 102, 32, 114, 97, 110, 103, 101]⟩] 133, .cells #[.string ⟨#[105, 110, 118, 97, 108, 105, 100, 32, 115, 121, 110, 116, 97, 120]⟩] 133,
    .cells (r16 9 13 1 ++ r16 32 133 101 ++ r16 160 5760 5600 ++ r16 8192 8202 1 ++ r16 8232 8233 1 ++ r16 8239 8287 48 ++ r16 12288 12288 1).toArray 101,
    .cells #[.slice (some ⟨low + 2, 0, none⟩) 7 7, .slice none 0 0, .int .i64 2] 98], #[], []⟩
  { w0 with heap := setAll [(4, #[.iface 131 (.pointer (some ⟨low, 0, none⟩))]), (3, #[.iface 131 (.pointer (some ⟨low + 1, 0, none⟩))]), (2, #[.pointer (some ⟨low + 3, 0, none⟩)])] (layIn Tryd.prog (Rows.lexTokensUptoRow.laid.filter fun x => plainD x.2) w0.heap) }
end Go.Proofs.YtjgbbdmpddddhaaDoor

