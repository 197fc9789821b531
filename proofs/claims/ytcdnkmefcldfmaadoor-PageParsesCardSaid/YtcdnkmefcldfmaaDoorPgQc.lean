/-
  The reference's list.
-/
import Derived.Test.YtcdnkmefcldfmaaDoorPgQb
import Derived.Test.YtcdnkmefcldfmaaDoorPgGs
namespace Go.Proofs.YtcdnkmefcldfmaaDoor
open Go.RowKit Go.Um

theorem rtext2 (s : ByteArray) (i : Nat) (t : ByteArray) (hi : i ≤ s.size) (hs : s.size ≤ 65536) (ht : t.size ≤ 100) (w : World) :
    Calls Tryd.prog 46 #[.string s, .int .i64 i, .string t] w fun e w' => w' = w ∧ ∃ (k : Nat) (ok : Bool), e = .returned (.tuple #[.int .i64 k, .bool ok]) ∧ AtS s k ok (lit t.data.toList (rest s i)) ∧ (ok = false → k = i) ∧ (ok = true → k = i + t.size) := by
  refine (rtext_calls s i t hi hs ht w).mono ?_
  rintro e w' ⟨rfl, rfl⟩
  refine ⟨rfl, txtK s i t, _, rfl, txtK_at hi, fun h => ?_, fun h => ?_⟩
  · unfold txtK; rw [h]; rfl
  · unfold txtK; rw [h]; rfl

theorem own_below {e : TypeId} {w w' : World} {base size n : Nat} {v : Value} {cs : List Value} (h : w.ownsRow base e size v n cs) (hb : Below w.heap.size w w') : w'.ownsRow base e size v n cs := by
  refine ⟨h.1, ?_⟩
  rcases h.2 with h2 | ⟨g, cap, cur, rfl, h3, h4, h5⟩
  · exact .inl h2
  · exact .inr ⟨g, cap, cur, rfl, h3, (hb.block g (own_tag h g rfl).1.lt).trans h4, h5⟩
def RListPost (s : ByteArray) (i n : Nat) (w : World) (e : Ending) (w' : World) : Prop := Below w.heap.size w w' ∧ ∃ (v : Value) (k : Nat) (ok : Bool) (st : Option By) (xs : List Int), e = .returned (.tuple #[v, .int .i64 k, .bool ok]) ∧ Fin st (numsF 0 n (rest s i)) xs ∧ AtS s k ok st ∧
  (ok = true → w'.ownsRow w.heap.size 3 1 v xs.length (xs.map (Value.int .i64)) ∧ xs.length = n ∧ allI xs) ∧ (ok = false → v = .slice none 0 0)
theorem rlist_bad {s : ByteArray} {i n k : Nat} {w w' : World} (h : numsF 0 n (rest s i) = none) (hk : k ≤ s.size) (hb : Below w.heap.size w w') : RListPost s i n w (.returned (.tuple #[.slice none 0 0, .int .i64 k, .bool false])) w' :=
  ⟨hb, _, k, false, none, [], rfl, .inr ⟨rfl, h⟩, ⟨hk, rfl, fun r hr => by cases hr⟩, fun h => by (cases h), fun _ => rfl⟩
theorem NumsAt.bad {T : Option (List Int × By)} {xs : List Int} {n : Nat} (h : NumsAt none T xs n) : T = none := by
  rcases h with ⟨l, h, _⟩ | ⟨_, h⟩
  · cases h
  · exact h

set_option maxHeartbeats 4000000 in
set_option maxRecDepth 100000 in
theorem rlist_calls (s : ByteArray) (i n : Nat) (hi : i ≤ s.size) (hs : s.size ≤ 65536) (hn : n ≤ 10) (w : World) :
    Calls Tryd.prog 47 #[.string s, .int .i64 i, .int .i64 n] w (RListPost s i n w) := by
  obtain ⟨infI, hiI, hz0, hz1, hz2⟩ := info_parts info3
  go_enter Tryd.func47, Tryd.ntmps47
  go_wp2_with fail
  go_loopw [1, 9, 10] (fun vi vl' vk wr => ∃ (vl : Value) (xs : List Int) (p : Nat), vl = vl' ∧ vi = .int .i64 p ∧ vk = .int .i64 xs.length ∧ wr.ownsRow w.heap.size 3 1 vl xs.length (xs.map (Value.int .i64)) ∧ xs.length ≤ n ∧ p ≤ s.size ∧ allI xs ∧ NumsAt (some (rest s p)) (numsF 0 n (rest s i)) xs n ∧ Below w.heap.size w wr) (fun _ _ vk _ => n - (intOf vk).toNat)
  case atStart =>
    refine ⟨_, [], i, rfl, rfl, rfl, World.ownsRow_nil _ _ _ _, Nat.zero_le _, hi, (fun x hx => by cases hx), .inl ⟨_, rfl, ?_⟩, Below.refl _ _⟩
    simp only [List.length_nil, Nat.sub_zero, List.nil_append]
    cases numsF 0 n (rest s i) <;> rfl
  case round =>
    obtain ⟨wo, hwo⟩ : ∃ wo, wo = wr := ⟨_, rfl⟩
    subst hwo
    obtain ⟨vl, xs, p, rfl, rfl, rfl, hown, hxl, hp, hall, hat, hb⟩ := hrel
    have HAT := hid hat
    obtain ⟨A, c, rfl⟩ := row_form hown
    have HALL := hid hall
    clear hat hall
    by_cases hk : xs.length < n
    · have hk' : (xs.length : Int) < n := by omega
      by_cases h0 : xs.length = 0
      · have hx0 : xs = [] := List.eq_nil_of_length_eq_zero h0
        subst hx0
        go_wp2_with fail
        refine (rnumber_calls s p hp hs _).mono ?_
        rintro e w2 ⟨hb2, x, q, ok, st, rfl, hI, hfin, hats⟩
        have HST := hid (HAT.out.step (x := x) hk rfl hfin)
        have hbB : Below w.heap.size w w2 := hb.trans (hb2.mono hb.size)
        have hown2 := own_below hown hb2
        have hqs := hats.1
        cases ok with
        | false =>
          have HN := hid (by have := HST.out; rw [hats.none] at this; exact this.bad : numsF 0 n (rest s i) = none)
          clear hfin hats
          go_wp2_with fail
          go_ret3
          exact rlist_bad HN.out hp hbB
        | true =>
          have HS2 := hid (by have := HST.out; rw [hats.some] at this; exact this : NumsAt (some (rest s q)) (numsF 0 n (rest s i)) ([] ++ [x]) n)
          clear hfin hats
          go_wp2_with (at_builtin; refine Hid.out ?_)
          refine hid ?_
          refine wpList_append_own _ rfl _ _ 61 rfl w.heap.size 3 infI _ 1 8 Tryd.underlying61 hiI hz0 hz1 hz2 rfl (by decide) _ _ _ rfl (hown2.alloc _) ⟨w2.heap.size, 0, none⟩ 1 1 [.int .i64 x] rfl rfl (news_at (w := w2) (cs := #[_]) rfl) (by simp [Value.oneCell']) (by unfold maxLen; simp) (by simp) (by simp; have := hbB.size; omega) ?_
          intro v' w6 hown6 hg6 hn6
          have hrow : ∀ g, (Value.slice A 0 c).ownBlock = some g → w.heap.size ≤ g := fun g hg' => (own_tag hown2 g hg').2
          have hbE : Below w.heap.size w w6 := (hbB.alloc hbB.size _).grown hg6 (by simp; have := hbB.size; omega) (fun g hg' => hrow g hg')
          clear hn6 hg6 hown2 hrow
          go_wp2_with fail
          refine ⟨⟨v', [x], q, rfl, rfl, rfl, hown6, by simp; omega, hqs, ?_, HS2.out, hbE⟩, ?_⟩
          · intro y hy; simp at hy; subst hy; exact hI
          · simp [intOf]; omega
      · have h1 : (0 : Int) < xs.length := by omega
        go_wp2_with fail
        refine (rtext2 s p ⟨#[32]⟩ hp hs (by decide) _).mono ?_
        rintro e w1 ⟨rfl, q1, ok1, rfl, hats1, -⟩
        have hq1 := hats1.1
        go_wp2_with fail
        refine (rnumber_calls s q1 hq1 hs _).mono ?_
        rintro e w2 ⟨hb2, x, q, ok, st, rfl, hI, hfin, hats⟩
        obtain ⟨st3, hfin3, hats3⟩ := AtS.fin hats1 hfin hats
        have HST := hid (HAT.out.step (x := x) hk (by rw [if_neg h0]; rfl) hfin3)
        have hbB : Below w.heap.size w w2 := hb.trans (hb2.mono hb.size)
        have hown2 := own_below hown hb2
        have hqs := hats.1
        clear hfin hats hats1 hfin3
        cases ok1 with
        | false =>
          have HN := hid (by have := HST.out; rw [AtS.none hats3] at this; exact this.bad : numsF 0 n (rest s i) = none)
          clear hats3
          go_wp2_with fail
          go_ret3
          exact rlist_bad HN.out hq1 hbB
        | true =>
          cases ok with
          | false =>
            have HN := hid (by have := HST.out; rw [AtS.none hats3] at this; exact this.bad : numsF 0 n (rest s i) = none)
            clear hats3
            go_wp2_with fail
            go_ret3
            exact rlist_bad HN.out hq1 hbB
          | true =>
            have HS2 := hid (by have := HST.out; rw [AtS.some hats3] at this; exact this : NumsAt (some (rest s q)) (numsF 0 n (rest s i)) (xs ++ [x]) n)
            clear hats3
            go_wp2_with (at_builtin; refine Hid.out ?_)
            refine hid ?_
            refine wpList_append_own _ rfl _ _ 61 rfl w.heap.size 3 infI _ 1 8 Tryd.underlying61 hiI hz0 hz1 hz2 rfl (by decide) _ _ _ rfl (hown2.alloc _) ⟨w2.heap.size, 0, none⟩ 1 1 [.int .i64 x] rfl rfl (news_at (w := w2) (cs := #[_]) rfl) (by simp [Value.oneCell']) (by unfold maxLen; omega) (by omega) (by simp; have := hbB.size; omega) ?_
            intro v' w6 hown6 hg6 hn6
            have hrow : ∀ g, (Value.slice A xs.length c).ownBlock = some g → w.heap.size ≤ g := fun g hg' => (own_tag hown2 g hg').2
            have hbE : Below w.heap.size w w6 := (hbB.alloc hbB.size _).grown hg6 (by simp; have := hbB.size; omega) (fun g hg' => hrow g hg')
            clear hn6 hg6 hown2 hrow
            go_wp2_with fail
            refine ⟨⟨v', xs ++ [x], q, rfl, rfl, by rw [List.length_append]; go_num, by simpa using hown6, by simp; omega, hqs, ?_, HS2.out, hbE⟩, ?_⟩
            · intro y hy
              rcases List.mem_append.1 hy with hy | hy
              · exact HALL.out y hy
              · simp at hy; subst hy; exact hI
            · simp [intOf]; omega
    · have hke : xs.length = n := by omega
      have HE := hid hke
      have hlt' : ¬ (xs.length : Int) < n := by omega
      clear hke
      go_wp2_with fail
      go_ret3
      refine ⟨hb, _, p, true, some (rest s p), xs, rfl, .inl ⟨_, rfl, ?_⟩, AtS.here hp, fun _ => ⟨hown, HE.out, HALL.out⟩, fun h => by cases h⟩
      rcases HAT.out with ⟨l, hl, hT⟩ | ⟨hl, _⟩
      · cases hl
        rw [hT, HE.out, Nat.sub_self]
        simp [numsF]
      · cases hl
end Go.Proofs.YtcdnkmefcldfmaaDoor
