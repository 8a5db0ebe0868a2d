/- What the plain laws are about. -/
import Derived.Test.YtmkcbbamfkafmaaPx21
import Derived.Test.YtmkcbbamfkafmaaPx4
