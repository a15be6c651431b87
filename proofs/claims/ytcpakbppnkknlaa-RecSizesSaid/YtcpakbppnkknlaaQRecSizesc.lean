-- the last of the chain
import Derived.Test.YtcpakbppnkknlaaQRecSizesc4
